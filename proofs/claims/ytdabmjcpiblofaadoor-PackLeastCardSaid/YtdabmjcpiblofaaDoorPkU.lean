/-
  packer.node: the place of a tree's node among a pack's. Trees that lie apart from what is being written; rows of trees of one's own. No condition.
-/
import Derived.Test.YtdabmjcpiblofaaDoorPkE
import Derived.Deep.RegionHeld3
import Derived.Deep.RegionLaw
import Derived.Lib.ItoaLen
import Derived.Test.YtdabmjcpiblofaaDoorPkH
namespace Go.Proofs.YtdabmjcpiblofaaDoor
open Go.RowKit Go.Maps
set_option linter.unusedVariables false

theorem clone_any (A : Option Addr) (c B : Nat) (ls : List ByteArray) (w : World) (hr : Reads w B 1 A ls.length (ls.map Value.string)) (hbig : ls.length * 16 ≤ 140737488355328) :
    Calls Tryd.prog 64 #[.slice A ls.length c] w fun e w' => ∃ A' c', e = .returned (.slice A' ls.length c') ∧ RowIn w' (fun i => w.heap.size ≤ i) A' ls.length (ls.map Value.string) ∧ Below w.heap.size w w' := by
  rcases A with _ | ad
  · have hl : ls.length = 0 := by
      rcases Nat.eq_zero_or_pos ls.length with h | h
      · exact h
      · obtain ⟨ad, e, -⟩ := hr.2 h
        cases e
    refine (Tryd.slices_Clone_string_nil ls.length c w).mono ?_
    rintro e w' ⟨rfl, rfl⟩
    exact ⟨none, 0, by rw [hl], ⟨by simp, fun h => absurd h (by omega)⟩, Below.refl _ _⟩
  · rcases Nat.eq_zero_or_pos ls.length with hl | hl
    · have hn := List.eq_nil_of_length_eq_zero hl
      subst hn
      refine (Tryd.slices_Clone_string_zero ad c w).mono ?_
      rintro e w' ⟨v', rfl, hown, -, hb⟩
      obtain ⟨A', c', rfl, hr', -⟩ := reads_of_owns hown
      exact ⟨A', c', rfl, ⟨rfl, fun h => absurd h (by simp)⟩, hb⟩
    · obtain ⟨b, off, u, e, hb, -, -⟩ := hr.at1 hl
      injection e with e
      subst e
      refine (Tryd.slices_Clone_string b off ls.length c ls w (Nat.le_refl _) hbig (fun j hj => ?_)).mono ?_
      · obtain ⟨b', off', u', e', -, hu', hc'⟩ := hr.at1 hj
        injection e' with e'
        injection e' with e1 e2
        subst e1 e2
        rw [hc']
        rw [List.getElem?_map, List.getElem?_eq_getElem hj] at hu'
        simp at hu'
        rw [← hu', List.getD, List.getElem?_eq_getElem hj]
        rfl
      · rintro e w' ⟨v', rfl, hown, -, hb'⟩
        rw [List.take_length] at hown
        obtain ⟨A', c', rfl, hin⟩ := RowIn.of_own hown
        exact ⟨A', c', rfl, hin.mono (fun i _ hi => own_from hown i hi), hb'⟩

inductive Fine : TX → Prop
  | mk (t : TX) (h1 : t.text.size ≤ 9223372036854775807) (h2 : (leadsK t.leads).length ≤ 140737488355328) (sub : ∀ k ∈ t.kids, Fine k) : Fine t
theorem Fine.text {t : TX} (h : Fine t) : t.text.size ≤ 9223372036854775807 := by cases h; assumption
theorem Fine.leads {t : TX} (h : Fine t) : (leadsK t.leads).length ≤ 140737488355328 := by cases h; assumption
theorem Fine.sub {t : TX} (h : Fine t) : ∀ k ∈ t.kids, Fine k := by cases h; assumption
theorem kidsK_bound : ∀ (l : List Int), (∀ x ∈ l, -9223372036854775808 ≤ x ∧ x ≤ 9223372036854775807) → (kidsK l).length ≤ 22 * l.length
  | [], _ => by simp [kidsK]
  | x :: xs, h => by
    have h1 := kidsK_bound xs (fun y hy => h y (List.mem_cons_of_mem _ hy))
    have h2 := Lib.itoa_length_le x (h x List.mem_cons_self).1 (h x List.mem_cons_self).2
    rw [kidsK_cons, List.length_append, List.length_cons, List.length_cons]
    omega

def NodePost (w : World) (b0 pb bm : Nat) (nv rv : Value) (ps : List PX) (R : Nat → Prop) (t : T) (e : Ending) (w' : World) : Prop :=
  ∃ (nv' : Value) (ps' : List PX) (D' : DataW Unit) (R' : Nat → Prop) (k : Nat), e = .returned (.int .i64 (k : Int)) ∧ T.put t (ps.map PX.plain) = (ps'.map PX.plain, k) ∧ Pk w' b0 pb bm nv' rv ps' D' R' ∧ Chg w w' (PkM pb bm nv) ∧
    (∀ i, R' i → R i ∨ w.heap.size ≤ i) ∧ (∀ g, nv'.ownBlock = some g → nv.ownBlock = some g ∨ w.heap.size ≤ g)
structure NSt (W wr : World) (b0 pb bm : Nat) (nv rv : Value) (ps : List PX) (R : Nat → Prop) (t : TX) (j : Nat) (kv : Value) (ks : List Int) (nv1 : Value) (ps1 : List PX) (D1 : DataW Unit) (R1 : Nat → Prop) : Prop where
  pk : Pk wr b0 pb bm nv1 rv ps1 D1 R1
  put : T.puts ((t.kids.take j).map TX.plain) (ps.map PX.plain) = (ps1.map PX.plain, ks)
  own : wr.ownsRow W.heap.size 3 1 kv ks.length (ks.map (Value.int .i64))
  chg : Chg W wr (PkM pb bm nv)
  newR : ∀ i, R1 i → R i ∨ W.heap.size ≤ i
  newN : ∀ g, nv1.ownBlock = some g → nv.ownBlock = some g ∨ W.heap.size ≤ g
  kvR : ∀ g, kv.ownBlock = some g → ¬ R1 g
theorem NSt.klen {W wr : World} {b0 pb bm : Nat} {nv rv : Value} {ps : List PX} {R : Nat → Prop} {t : TX} {j : Nat} {kv : Value} {ks : List Int} {nv1 : Value} {ps1 : List PX} {D1 : DataW Unit} {R1 : Nat → Prop} (h : NSt W wr b0 pb bm nv rv ps R t j kv ks nv1 ps1 D1 R1) (hj : j ≤ t.kids.length) : ks.length = j := by
  have h1 := puts_len ((t.kids.take j).map TX.plain) (ps.map PX.plain)
  rw [h.put] at h1
  simpa [List.length_take, Nat.min_eq_left hj] using h1
theorem NSt.below {W wr : World} {b0 pb bm : Nat} {nv rv : Value} {ps : List PX} {R : Nat → Prop} {t : TX} {j : Nat} {kv : Value} {ks : List Int} {nv1 : Value} {ps1 : List PX} {D1 : DataW Unit} {R1 : Nat → Prop} (h : NSt W wr b0 pb bm nv rv ps R t j kv ks nv1 ps1 D1 R1) {w' : World} (hb : Below wr.heap.size wr w') : NSt W w' b0 pb bm nv rv ps R t j kv ks nv1 ps1 D1 R1 :=
  ⟨h.pk.below hb, h.put, owns_below h.own hb (own_lt h.own), h.chg.trans (Chg.of_below (M := fun i => wr.heap.size ≤ i) hb (fun i hi => hi)) (fun i hi hx => by have := h.chg.size; omega), h.newR, h.newN, h.kvR⟩
/-- a kid's node is placed and its place appended -/
theorem NSt.step {W wk w2 w3 : World} {b0 pb bm : Nat} {nv rv : Value} {ps : List PX} {R : Nat → Prop} {t kid : TX} {j k2 : Nat} {kv kv3 : Value} {ks : List Int} {nv1 nv2 : Value} {ps1 ps2 : List PX} {D1 D2 : DataW Unit} {R1 R2 : Nat → Prop} {o : Obj}
    (h : NSt W wk b0 pb bm nv rv ps R t j kv ks nv1 ps1 D1 R1) (hk : t.kids[j]? = some kid) (hp : T.put kid.plain (ps1.map PX.plain) = (ps2.map PX.plain, k2)) (hpk : Pk w2 b0 pb bm nv2 rv ps2 D2 R2) (hc : Chg wk w2 (PkM pb bm nv1)) (hR : ∀ i, R2 i → R1 i ∨ wk.heap.size ≤ i) (hN : ∀ g, nv2.ownBlock = some g → nv1.ownBlock = some g ∨ wk.heap.size ≤ g)
    (hpW : pb < W.heap.size) (hbW : bm < W.heap.size) (hg : Grows (w2.alloc o) w3 kv kv3) (ho : w3.ownsRow W.heap.size 3 1 kv3 (ks.length + 1) (ks.map (Value.int .i64) ++ [.int .i64 (k2 : Int)])) (hkw : w2.ownsRow W.heap.size 3 1 kv ks.length (ks.map (Value.int .i64))) :
    NSt W w3 b0 pb bm nv rv ps R t (j + 1) kv3 (ks ++ [(k2 : Int)]) nv2 ps2 D2 R2 := by
  have hz2 := hc.size
  have hlt := own_lt h.own
  have hge := own_from h.own
  have hkR2 : ∀ g, kv.ownBlock = some g → ¬ R2 g := fun g hg' hx => by
    rcases hR g hx with h1 | h1
    · exact h.kvR g hg' h1
    · have := hlt g hg'; omega
  have hkM2 : ∀ g, kv.ownBlock = some g → ¬ PkM pb bm nv2 g := fun g hg' hx => by
    rcases hx with rfl | rfl | hx
    · have := hge _ hg'; omega
    · have := hge _ hg'; omega
    · obtain ⟨hl, ho'⟩ := hpk.nodes
      obtain ⟨hl2, ho2⟩ := hkw
      rcases ho' with ⟨rfl, -⟩ | ⟨g1, cap1, cur1, rfl, -, hh1, -⟩
      · simp [Value.ownBlock] at hx
      · have e1 : g1 = g := by simpa [Value.ownBlock] using hx
        subst e1
        rcases ho2 with ⟨rfl, -⟩ | ⟨g2, cap2, cur2, rfl, -, hh2, -⟩
        · simp [Value.ownBlock] at hg'
        · have e2 : g2 = g1 := by simpa [Value.ownBlock] using hg'
          subst e2
          rw [hh1] at hh2
          injection hh2 with hh2
          injection hh2 with _ e3
          exact absurd e3 (by decide)
  have hcg : Chg (w2.alloc o) w3 (fun i => kv.ownBlock = some i) := Chg.of_grown hg.grown (fun g e => e)
  refine ⟨(hpk.alloc o).chg hcg (fun i hi => ⟨hkM2 i hi, hkR2 i hi⟩), ?_, ?_, ?_, ?_, ?_, ?_⟩
  · rw [List.take_add_one, hk]
    simp only [Option.toList, List.map_append, List.map_cons, List.map_nil]
    rw [puts_snoc, h.put, hp]
  · rw [List.length_append, List.map_append]
    exact ho
  · refine ((h.chg.trans hc (fun i hi hx => ?_)).alloc o).trans hcg (fun i hi hx => ?_)
    · rcases hx with rfl | rfl | hx
      · exact .inl rfl
      · exact .inr (.inl rfl)
      · rcases h.newN i hx with h1 | h1
        · exact .inr (.inr h1)
        · omega
    · have := hge i hx; omega
  · intro i hi
    rcases hR i hi with h1 | h1
    · exact h.newR i h1
    · have := h.chg.size; exact .inr (by omega)
  · intro g hg'
    rcases hN g hg' with h1 | h1
    · exact h.newN g h1
    · have := h.chg.size; exact .inr (by omega)
  · intro g hg' hx
    rcases hg.own g hg' with h1 | h1
    · exact hkR2 g h1 hx
    · have := (hpk.apart g hx).2.2
      simp at h1; omega
end Go.Proofs.YtdabmjcpiblofaaDoor

namespace Go.Proofs.YtdabmjcpiblofaaDoor
open Go.RowKit
set_option linter.unusedVariables false

/-- the blocks in which a tree lies are of S -/
inductive InS (S : Nat → Prop) : TX → Prop where
  | mk (t : TX) (hk : ∀ ad, t.kA = some ad → 0 < t.kids.length → S ad.block) (hl : ∀ ad, t.lA = some ad → 0 < t.leads.length → S ad.block) (sub : ∀ k ∈ t.kids, InS S k) : InS S t
section
variable {w w' : World} {B : Nat} {S S' : Nat → Prop} {t : TX}
theorem InS.and {S S' R : Nat → Prop} (h : InS S t) (h' : InS S' t) (hr : ∀ b, S b → S' b → R b) : InS R t := by
  induction h with
  | mk t hk hl sub ih =>
    cases h' with
    | mk _ hk' hl' sub' => exact .mk t (fun ad e hn => hr _ (hk ad e hn) (hk' ad e hn)) (fun ad e hn => hr _ (hl ad e hn) (hl' ad e hn)) (fun k hk => ih k hk (sub' k hk))
theorem InS.mono (h : InS S t) (hr : ∀ b, S b → S' b) : InS S' t := h.and h (fun b h _ => hr b h)
theorem Tr.ins (h : Tr w B t) : InS (· < B) t := by
  induction h with
  | mk t hk hl kb kc lb kr sub ih =>
    exact .mk t (fun ad e hn => by obtain ⟨ad', e', hb, -⟩ := hk.2 hn; rw [e] at e'; injection e' with e'; subst e'; exact hb) (fun ad e hn => by obtain ⟨ad', e', hb, -⟩ := hl.2 hn; rw [e] at e'; injection e' with e'; subst e'; exact hb) (fun k hk => ih k hk)
theorem Reads.keepS {size n : Nat} {A : Option Addr} {xs : List Value} (h : Reads w B size A n xs) (hs : ∀ ad, A = some ad → 0 < n → S ad.block) (hk : ∀ p : Addr, S p.block → p.block < B → w'.cell? p = w.cell? p) : Reads w' B size A n xs :=
  ⟨h.1, fun hn => by
    obtain ⟨ad, e, hb, hc⟩ := h.2 hn
    exact ⟨ad, e, hb, fun j u hu => (hk _ (by rw [block_of_add]; exact hs ad e hn) (by rw [block_of_add]; exact hb)).trans (hc j u hu)⟩⟩
theorem Tr.keepS (h : Tr w B t) (hs : InS S t) (hk : ∀ p : Addr, S p.block → p.block < B → w'.cell? p = w.cell? p) : Tr w' B t := by
  induction h with
  | mk t h1 h2 kb kc lb kr sub ih =>
    cases hs with
    | mk _ s1 s2 s3 => exact .mk t (h1.keepS s1 hk) (h2.keepS s2 hk) kb kc lb kr (fun k hk' => ih k hk' (s3 k hk'))
end
theorem tree_info : (Tryd.prog.info? 42).map (fun i => (i.zero, i.size, i.bytes)) = some (some (.agg #[.int .i64 0, .string ⟨#[]⟩, .slice none 0 0, .slice none 0 0]), 4, 72) := by kernel_rfl
theorem put4_blk {w : World} {g : Nat} {t : TypeId} {a0 a1 a2 a3 : Value} (h : Blk w g t #[a0, a1, a2, a3]) (b0 b1 b2 b3 : Value) : Blk ((((w.setCell ⟨g, 0, none⟩ b0).setCell ⟨g, 1, none⟩ b1).setCell ⟨g, 2, none⟩ b2).setCell ⟨g, 3, none⟩ b3) g t #[b0, b1, b2, b3] :=
  (((h.set_ 0 b0).set_ 1 b1).set_ 2 b2).set_ 3 b3
theorem put4_chg (w : World) (g : Nat) (b0 b1 b2 b3 : Value) : Chg w ((((w.setCell ⟨g, 0, none⟩ b0).setCell ⟨g, 1, none⟩ b1).setCell ⟨g, 2, none⟩ b2).setCell ⟨g, 3, none⟩ b3) (fun i => i = g) :=
  ((((Chg.refl w (fun i => i = g)).setCell (p := ⟨g, 0, none⟩) (.inl rfl) b0).setCell (p := ⟨g, 1, none⟩) (.inl rfl) b1).setCell (p := ⟨g, 2, none⟩) (.inl rfl) b2).setCell (p := ⟨g, 3, none⟩) (.inl rfl) b3
theorem Tr.chgS {w w' : World} {B : Nat} {M S : Nat → Prop} {t : TX} (h : Tr w B t) (hs : InS S t) (hc : Chg w w' M) (hB : B ≤ w.heap.size) (hm : ∀ i, S i → ¬ M i) : Tr w' B t :=
  h.keepS hs (fun p hp hp2 => World.cell?_of_block (hc.block p.block (by omega) (hm _ hp)))

/-- a row of trees of one's own; their blocks are lo or more, and not the row's -/
structure TL (w : World) (lo base : Nat) (v : Value) (rs : List TX) : Prop where
  row : w.ownsRow base 42 4 v rs.length (rs.flatMap TX.cells)
  kid : ∀ k ∈ rs, Tr w w.heap.size k ∧ InS (fun b => lo ≤ b ∧ v.ownBlock ≠ some b) k ∧ Fine k
section
variable {w w' w1 w3 : World} {lo base : Nat} {v v3 : Value} {rs : List TX} {r : TX}
theorem TL.nil (w : World) (lo base : Nat) : TL w lo base (.slice none 0 0) [] := ⟨⟨rfl, .inl ⟨rfl, rfl⟩⟩, fun k hk => by cases hk⟩
theorem TL.below (h : TL w lo base v rs) (hb : Below w.heap.size w w') : TL w' lo base v rs :=
  ⟨owns_below h.row hb (own_lt h.row), fun k hk => ⟨(h.kid k hk).1.up (Nat.le_refl _) hb, (h.kid k hk).2⟩⟩
theorem TL.chg {M : Nat → Prop} (h : TL w lo base v rs) (hc : Chg w w' M) (hv : ∀ g, v.ownBlock = some g → ¬ M g) (hm : ∀ i, M i → i < lo ∨ w.heap.size ≤ i) : TL w' lo base v rs := by
  refine ⟨?_, fun k hk => ⟨((h.kid k hk).1.chgS ((h.kid k hk).1.ins.and (h.kid k hk).2.1 (R := fun b => b < w.heap.size ∧ lo ≤ b) (fun b h1 h2 => ⟨h1, h2.1⟩)) hc (Nat.le_refl _) (fun i hi hx => ?_)).more hc.size, (h.kid k hk).2⟩⟩
  · have hlt := own_lt h.row
    refine ⟨h.row.1, ?_⟩
    rcases h.row.2 with h0 | ⟨g, cap, cur, rfl, hb, hh, rest⟩
    · exact .inl h0
    · exact .inr ⟨g, cap, cur, rfl, hb, (hc.block g (hlt g (by simp [Value.ownBlock])) (hv g (by simp [Value.ownBlock]))).trans hh, rest⟩
  · have := hm i hx; omega
theorem TL.step (h : TL w1 lo base v rs) (hr : Tr w1 w1.heap.size r) (hi : InS (fun b => lo ≤ b ∧ v.ownBlock ≠ some b) r) (hf : Fine r) (o : Obj) (ho : w3.ownsRow base 42 4 v3 (rs.length + 1) (rs.flatMap TX.cells ++ r.cells)) (hg : Grows (w1.alloc o) w3 v v3) :
    TL w3 lo base v3 (rs ++ [r]) := by
  have hsz : (w1.alloc o).heap.size = w1.heap.size + 1 := by simp
  have hgs := hg.size
  refine ⟨?_, fun x hx => ?_⟩
  · rw [List.length_append, List.flatMap_append, List.flatMap_cons, List.flatMap_nil, List.append_nil]
    exact ho
  · have key : Tr w1 w1.heap.size x ∧ InS (fun b => lo ≤ b ∧ v.ownBlock ≠ some b) x ∧ Fine x := by
      rcases List.mem_append.1 hx with hx | hx
      · exact h.kid x hx
      · simp at hx
        subst hx
        exact ⟨hr, hi, hf⟩
    have hins : InS (fun b => b < w1.heap.size ∧ lo ≤ b ∧ v.ownBlock ≠ some b) x := key.1.ins.and key.2.1 (fun b h1 h2 => ⟨h1, h2.1, h2.2⟩)
    refine ⟨(key.1.keepS hins (fun p hp _ => ?_)).more (by omega), hins.mono (fun b hb => ⟨hb.2.1, fun e => ?_⟩), key.2.2⟩
    · rw [World.cell?_of_block (hg.grown.block p.block (by omega) (fun e => hp.2.2 e.symm)), World.cell?_alloc_lt w1 o p hp.1]
    · rcases hg.own b e with h1 | h1
      · exact hb.2.2 h1
      · omega
theorem tree_one (r : TX) : ∀ u ∈ r.cells, u.oneCell' = true := by
  intro u hu
  simp only [TX.cells, List.mem_cons, List.not_mem_nil, or_false] at hu
  rcases hu with rfl | rfl | rfl | rfl <;> rfl
end
/-- a tree in new memory -/
def NewT (w : World) (t : T) (e : Ending) (w' : World) : Prop := ∃ r : TX, e = .returned r.val ∧ r.plain = t ∧ Tr w' w'.heap.size r ∧ InS (w.heap.size ≤ ·) r ∧ Fine r ∧ Below w.heap.size w w'
end Go.Proofs.YtdabmjcpiblofaaDoor
