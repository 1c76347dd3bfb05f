/-
  packer.node: the place of a tree's node among a pack's. No condition.
-/
import Derived.Test.YtdabmjcpiblofaaDoorPkE
import Derived.Deep.RegionHeld3
import Derived.Deep.RegionLaw
import Derived.Lib.ItoaLen
namespace Go.Proofs.YtdabmjcpiblofaaDoor
open Go.RowKit Go.Maps
set_option linter.unusedVariables false

theorem clone_any (A : Option Addr) (c B : Nat) (ls : List ByteArray) (w : World) (hr : Reads w B 1 A ls.length (ls.map Value.string)) (hbig : ls.length * 16 ≤ 140737488355328) :
    Calls Tryd.prog 64 #[.slice A ls.length c] w fun e w' => ∃ A' c', e = .returned (.slice A' ls.length c') ∧ RowIn w' (fun i => w.heap.size ≤ i) A' ls.length (ls.map Value.string) ∧ Below w.heap.size w w' := by
  rcases A with _ | ad
  · have hl : ls.length = 0 := by
      rcases Nat.eq_zero_or_pos ls.length with h | h
      · exact h
      · obtain ⟨ad, e, -⟩ := hr.2 h
        cases e
    refine (Tryd.slices_Clone_string_nil ls.length c w).mono ?_
    rintro e w' ⟨rfl, rfl⟩
    exact ⟨none, 0, by rw [hl], ⟨by simp, fun h => absurd h (by omega)⟩, Below.refl _ _⟩
  · rcases Nat.eq_zero_or_pos ls.length with hl | hl
    · have hn := List.eq_nil_of_length_eq_zero hl
      subst hn
      refine (Tryd.slices_Clone_string_zero ad c w).mono ?_
      rintro e w' ⟨v', rfl, hown, -, hb⟩
      obtain ⟨A', c', rfl, hr', -⟩ := reads_of_owns hown
      exact ⟨A', c', rfl, ⟨rfl, fun h => absurd h (by simp)⟩, hb⟩
    · obtain ⟨b, off, u, e, hb, -, -⟩ := hr.at1 hl
      injection e with e
      subst e
      refine (Tryd.slices_Clone_string b off ls.length c ls w (Nat.le_refl _) hbig (fun j hj => ?_)).mono ?_
      · obtain ⟨b', off', u', e', -, hu', hc'⟩ := hr.at1 hj
        injection e' with e'
        injection e' with e1 e2
        subst e1 e2
        rw [hc']
        rw [List.getElem?_map, List.getElem?_eq_getElem hj] at hu'
        simp at hu'
        rw [← hu', List.getD, List.getElem?_eq_getElem hj]
        rfl
      · rintro e w' ⟨v', rfl, hown, -, hb'⟩
        rw [List.take_length] at hown
        obtain ⟨A', c', rfl, hin⟩ := RowIn.of_own hown
        exact ⟨A', c', rfl, hin.mono (fun i _ hi => own_from hown i hi), hb'⟩

inductive Fine : TX → Prop
  | mk (t : TX) (h1 : t.text.size ≤ 9223372036854775807) (h2 : (leadsK t.leads).length ≤ 140737488355328) (sub : ∀ k ∈ t.kids, Fine k) : Fine t
theorem Fine.text {t : TX} (h : Fine t) : t.text.size ≤ 9223372036854775807 := by cases h; assumption
theorem Fine.leads {t : TX} (h : Fine t) : (leadsK t.leads).length ≤ 140737488355328 := by cases h; assumption
theorem Fine.sub {t : TX} (h : Fine t) : ∀ k ∈ t.kids, Fine k := by cases h; assumption
theorem kidsK_bound : ∀ (l : List Int), (∀ x ∈ l, -9223372036854775808 ≤ x ∧ x ≤ 9223372036854775807) → (kidsK l).length ≤ 22 * l.length
  | [], _ => by simp [kidsK]
  | x :: xs, h => by
    have h1 := kidsK_bound xs (fun y hy => h y (List.mem_cons_of_mem _ hy))
    have h2 := Lib.itoa_length_le x (h x List.mem_cons_self).1 (h x List.mem_cons_self).2
    rw [kidsK_cons, List.length_append, List.length_cons, List.length_cons]
    omega

def NodePost (w : World) (b0 pb bm : Nat) (nv rv : Value) (ps : List PX) (R : Nat → Prop) (t : T) (e : Ending) (w' : World) : Prop :=
  ∃ (nv' : Value) (ps' : List PX) (D' : DataW Unit) (R' : Nat → Prop) (k : Nat), e = .returned (.int .i64 (k : Int)) ∧ T.put t (ps.map PX.plain) = (ps'.map PX.plain, k) ∧ Pk w' b0 pb bm nv' rv ps' D' R' ∧ Chg w w' (PkM pb bm nv) ∧
    (∀ i, R' i → R i ∨ w.heap.size ≤ i) ∧ (∀ g, nv'.ownBlock = some g → nv.ownBlock = some g ∨ w.heap.size ≤ g)
structure NSt (W wr : World) (b0 pb bm : Nat) (nv rv : Value) (ps : List PX) (R : Nat → Prop) (t : TX) (j : Nat) (kv : Value) (ks : List Int) (nv1 : Value) (ps1 : List PX) (D1 : DataW Unit) (R1 : Nat → Prop) : Prop where
  pk : Pk wr b0 pb bm nv1 rv ps1 D1 R1
  put : T.puts ((t.kids.take j).map TX.plain) (ps.map PX.plain) = (ps1.map PX.plain, ks)
  own : wr.ownsRow W.heap.size 3 1 kv ks.length (ks.map (Value.int .i64))
  chg : Chg W wr (PkM pb bm nv)
  newR : ∀ i, R1 i → R i ∨ W.heap.size ≤ i
  newN : ∀ g, nv1.ownBlock = some g → nv.ownBlock = some g ∨ W.heap.size ≤ g
  kvR : ∀ g, kv.ownBlock = some g → ¬ R1 g
theorem NSt.klen {W wr : World} {b0 pb bm : Nat} {nv rv : Value} {ps : List PX} {R : Nat → Prop} {t : TX} {j : Nat} {kv : Value} {ks : List Int} {nv1 : Value} {ps1 : List PX} {D1 : DataW Unit} {R1 : Nat → Prop} (h : NSt W wr b0 pb bm nv rv ps R t j kv ks nv1 ps1 D1 R1) (hj : j ≤ t.kids.length) : ks.length = j := by
  have h1 := puts_len ((t.kids.take j).map TX.plain) (ps.map PX.plain)
  rw [h.put] at h1
  simpa [List.length_take, Nat.min_eq_left hj] using h1
theorem NSt.below {W wr : World} {b0 pb bm : Nat} {nv rv : Value} {ps : List PX} {R : Nat → Prop} {t : TX} {j : Nat} {kv : Value} {ks : List Int} {nv1 : Value} {ps1 : List PX} {D1 : DataW Unit} {R1 : Nat → Prop} (h : NSt W wr b0 pb bm nv rv ps R t j kv ks nv1 ps1 D1 R1) {w' : World} (hb : Below wr.heap.size wr w') : NSt W w' b0 pb bm nv rv ps R t j kv ks nv1 ps1 D1 R1 :=
  ⟨h.pk.below hb, h.put, owns_below h.own hb (own_lt h.own), h.chg.trans (Chg.of_below (M := fun i => wr.heap.size ≤ i) hb (fun i hi => hi)) (fun i hi hx => by have := h.chg.size; omega), h.newR, h.newN, h.kvR⟩
/-- a kid's node is placed and its place appended -/
theorem NSt.step {W wk w2 w3 : World} {b0 pb bm : Nat} {nv rv : Value} {ps : List PX} {R : Nat → Prop} {t kid : TX} {j k2 : Nat} {kv kv3 : Value} {ks : List Int} {nv1 nv2 : Value} {ps1 ps2 : List PX} {D1 D2 : DataW Unit} {R1 R2 : Nat → Prop} {o : Obj}
    (h : NSt W wk b0 pb bm nv rv ps R t j kv ks nv1 ps1 D1 R1) (hk : t.kids[j]? = some kid) (hp : T.put kid.plain (ps1.map PX.plain) = (ps2.map PX.plain, k2)) (hpk : Pk w2 b0 pb bm nv2 rv ps2 D2 R2) (hc : Chg wk w2 (PkM pb bm nv1)) (hR : ∀ i, R2 i → R1 i ∨ wk.heap.size ≤ i) (hN : ∀ g, nv2.ownBlock = some g → nv1.ownBlock = some g ∨ wk.heap.size ≤ g)
    (hpW : pb < W.heap.size) (hbW : bm < W.heap.size) (hg : Grows (w2.alloc o) w3 kv kv3) (ho : w3.ownsRow W.heap.size 3 1 kv3 (ks.length + 1) (ks.map (Value.int .i64) ++ [.int .i64 (k2 : Int)])) (hkw : w2.ownsRow W.heap.size 3 1 kv ks.length (ks.map (Value.int .i64))) :
    NSt W w3 b0 pb bm nv rv ps R t (j + 1) kv3 (ks ++ [(k2 : Int)]) nv2 ps2 D2 R2 := by
  have hz2 := hc.size
  have hlt := own_lt h.own
  have hge := own_from h.own
  have hkR2 : ∀ g, kv.ownBlock = some g → ¬ R2 g := fun g hg' hx => by
    rcases hR g hx with h1 | h1
    · exact h.kvR g hg' h1
    · have := hlt g hg'; omega
  have hkM2 : ∀ g, kv.ownBlock = some g → ¬ PkM pb bm nv2 g := fun g hg' hx => by
    rcases hx with rfl | rfl | hx
    · have := hge _ hg'; omega
    · have := hge _ hg'; omega
    · obtain ⟨hl, ho'⟩ := hpk.nodes
      obtain ⟨hl2, ho2⟩ := hkw
      rcases ho' with ⟨rfl, -⟩ | ⟨g1, cap1, cur1, rfl, -, hh1, -⟩
      · simp [Value.ownBlock] at hx
      · have e1 : g1 = g := by simpa [Value.ownBlock] using hx
        subst e1
        rcases ho2 with ⟨rfl, -⟩ | ⟨g2, cap2, cur2, rfl, -, hh2, -⟩
        · simp [Value.ownBlock] at hg'
        · have e2 : g2 = g1 := by simpa [Value.ownBlock] using hg'
          subst e2
          rw [hh1] at hh2
          injection hh2 with hh2
          injection hh2 with _ e3
          exact absurd e3 (by decide)
  have hcg : Chg (w2.alloc o) w3 (fun i => kv.ownBlock = some i) := Chg.of_grown hg.grown (fun g e => e)
  refine ⟨(hpk.alloc o).chg hcg (fun i hi => ⟨hkM2 i hi, hkR2 i hi⟩), ?_, ?_, ?_, ?_, ?_, ?_⟩
  · rw [List.take_add_one, hk]
    simp only [Option.toList, List.map_append, List.map_cons, List.map_nil]
    rw [puts_snoc, h.put, hp]
  · rw [List.length_append, List.map_append]
    exact ho
  · refine ((h.chg.trans hc (fun i hi hx => ?_)).alloc o).trans hcg (fun i hi hx => ?_)
    · rcases hx with rfl | rfl | hx
      · exact .inl rfl
      · exact .inr (.inl rfl)
      · rcases h.newN i hx with h1 | h1
        · exact .inr (.inr h1)
        · omega
    · have := hge i hx; omega
  · intro i hi
    rcases hR i hi with h1 | h1
    · exact h.newR i h1
    · have := h.chg.size; exact .inr (by omega)
  · intro g hg'
    rcases hN g hg' with h1 | h1
    · exact h.newN g h1
    · have := h.chg.size; exact .inr (by omega)
  · intro g hg' hx
    rcases hg.own g hg' with h1 | h1
    · exact hkR2 g h1 hx
    · have := (hpk.apart g hx).2.2
      simp at h1; omega
end Go.Proofs.YtdabmjcpiblofaaDoor
