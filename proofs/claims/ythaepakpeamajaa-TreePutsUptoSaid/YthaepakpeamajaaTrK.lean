/-
  Bare, the reference's. No condition.
-/
import Derived.Test.YthaepakpeamajaaTrJ
namespace Go.Proofs.Ythaepakpeamajaa
open Go.RowKit
set_option linter.unusedVariables false

/-- the blocks in which a tree lies are of S -/
inductive InS (S : Nat → Prop) : TX → Prop where
  | mk (t : TX) (hk : ∀ ad, t.kA = some ad → 0 < t.kids.length → S ad.block) (hl : ∀ ad, t.lA = some ad → 0 < t.leads.length → S ad.block) (sub : ∀ k ∈ t.kids, InS S k) : InS S t
section
variable {w w' : World} {B : Nat} {S S' : Nat → Prop} {t : TX}
theorem InS.and {S S' R : Nat → Prop} (h : InS S t) (h' : InS S' t) (hr : ∀ b, S b → S' b → R b) : InS R t := by
  induction h with
  | mk t hk hl sub ih =>
    cases h' with
    | mk _ hk' hl' sub' => exact .mk t (fun ad e hn => hr _ (hk ad e hn) (hk' ad e hn)) (fun ad e hn => hr _ (hl ad e hn) (hl' ad e hn)) (fun k hk => ih k hk (sub' k hk))
theorem InS.mono (h : InS S t) (hr : ∀ b, S b → S' b) : InS S' t := h.and h (fun b h _ => hr b h)
theorem Tr.ins (h : Tr w B t) : InS (· < B) t := by
  induction h with
  | mk t hk hl kb kc lb kr sub ih =>
    exact .mk t (fun ad e hn => by obtain ⟨ad', e', hb, -⟩ := hk.2 hn; rw [e] at e'; injection e' with e'; subst e'; exact hb) (fun ad e hn => by obtain ⟨ad', e', hb, -⟩ := hl.2 hn; rw [e] at e'; injection e' with e'; subst e'; exact hb) (fun k hk => ih k hk)
theorem Reads.keepS {size n : Nat} {A : Option Addr} {xs : List Value} (h : Reads w B size A n xs) (hs : ∀ ad, A = some ad → 0 < n → S ad.block) (hk : ∀ p : Addr, S p.block → p.block < B → w'.cell? p = w.cell? p) : Reads w' B size A n xs :=
  ⟨h.1, fun hn => by
    obtain ⟨ad, e, hb, hc⟩ := h.2 hn
    exact ⟨ad, e, hb, fun j u hu => (hk _ (by rw [block_of_add]; exact hs ad e hn) (by rw [block_of_add]; exact hb)).trans (hc j u hu)⟩⟩
theorem Tr.keepS (h : Tr w B t) (hs : InS S t) (hk : ∀ p : Addr, S p.block → p.block < B → w'.cell? p = w.cell? p) : Tr w' B t := by
  induction h with
  | mk t h1 h2 kb kc lb kr sub ih =>
    cases hs with
    | mk _ s1 s2 s3 => exact .mk t (h1.keepS s1 hk) (h2.keepS s2 hk) kb kc lb kr (fun k hk' => ih k hk' (s3 k hk'))
end
/-- a tree in new memory -/
def NewPost (w : World) (T : T) (e : Ending) (w' : World) : Prop := ∃ r : TX, e = .returned r.val ∧ r.plain = T ∧ Tr w' w'.heap.size r ∧ InS (w.heap.size ≤ ·) r ∧ Below w.heap.size w w'
structure RInv (w wr : World) (t : TX) (j : Nat) (v : Value) (rs : List TX) : Prop where
  bel : Below w.heap.size w wr
  b0 : Blk wr w.heap.size 25 t.arr
  b1 : Blk wr (w.heap.size + 1) 25 zeroArr
  b2 : Blk wr (w.heap.size + 1 + 1) 25 #[.int .i64 t.kind, .string t.text, .slice none 0 0, v]
  row : wr.ownsRow (w.heap.size + 1 + 1 + 1) 25 4 v j (rs.flatMap TX.cells)
  len : rs.length = j
  kid : ∀ k ∈ rs, Tr wr wr.heap.size k ∧ InS (fun b => w.heap.size + 1 + 1 + 1 ≤ b ∧ v.ownBlock ≠ some b) k
  pl : rs.map TX.plain = (t.kids.take j).map (fun k => k.plain.bare)
theorem RInv.step {w wr w1 w3 : World} {t k r : TX} {j : Nat} {v v3 : Value} {rs : List TX} (h : RInv w wr t j v rs) (hk : t.kids[j]? = some k) (hb : Below wr.heap.size wr w1) (hp : r.plain = k.plain.bare) (hr : Tr w1 w1.heap.size r) (hi : InS (wr.heap.size ≤ ·) r) (o : Obj) (ho : w3.ownsRow (w.heap.size + 1 + 1 + 1) 25 4 v3 (j + 1) (rs.flatMap TX.cells ++ r.cells)) (hg : Grows (w1.alloc o) w3 v v3) :
    RInv w (w3.setCell ⟨w.heap.size + 1 + 1, 3, none⟩ v3) t (j + 1) v3 (rs ++ [r]) := by
  have l2 := h.b2.lt
  have hz1 := hb.size
  have hbo : Below wr.heap.size wr (w1.alloc o) := hb.alloc hz1 _
  have hvg : ∀ g, v.ownBlock = some g → w.heap.size + 1 + 1 + 1 ≤ g := own_from h.row
  have hvl : ∀ g, v.ownBlock = some g → g < wr.heap.size := own_lt h.row
  have hv3 : ∀ g, v3.ownBlock = some g → w.heap.size + 1 + 1 + 1 ≤ g := own_from ho
  have hsz : (w1.alloc o).heap.size = w1.heap.size + 1 := by simp
  have hz := h.bel.size
  have ne : ∀ {g : Nat}, g < w.heap.size + 1 + 1 + 1 → v.ownBlock ≠ some g := fun hg' e => by have := hvg _ e; omega
  have hss : (w3.setCell ⟨w.heap.size + 1 + 1, 3, none⟩ v3).heap.size = w3.heap.size := by simp [World.setCell]
  have hgs := hg.size
  refine ⟨?_, ?_, ?_, ?_, ?_, by simp [h.len], fun x hx => ?_, ?_⟩
  · exact ((h.bel.trans (hbo.mono hz)).grown hg.grown (by omega) (fun g e => by have := hvg g e; omega)).setCell (p := ⟨w.heap.size + 1 + 1, 3, none⟩) (by show w.heap.size ≤ w.heap.size + 1 + 1; omega) _
  · exact (hg.blk (h.b0.below hbo h.b0.lt) (ne (by omega))).far (p := ⟨w.heap.size + 1 + 1, 3, none⟩) (by show w.heap.size ≠ w.heap.size + 1 + 1; omega) _
  · exact (hg.blk (h.b1.below hbo h.b1.lt) (ne (by omega))).far (p := ⟨w.heap.size + 1 + 1, 3, none⟩) (by show w.heap.size + 1 ≠ w.heap.size + 1 + 1; omega) _
  · exact (hg.blk (h.b2.below hbo h.b2.lt) (ne (by omega))).set_ 3 v3
  · have := (ho.kept (w' := w3.setCell ⟨w.heap.size + 1 + 1, 3, none⟩ v3) (row := some (w.heap.size + 1 + 1)) ⟨rfl, rfl, rfl, by simp [World.setCell], fun i hi hne => Below.heap_setCell w3 _ v3 i (fun e => hne (by rw [e]))⟩ (by
      cases hq : v3.ownBlock with
      | none => exact .inl rfl
      | some g => exact .inr (fun e => by injection e with e; have := hv3 g hq; omega)))
    rw [List.flatMap_append, List.flatMap_cons, List.flatMap_nil, List.append_nil]
    exact this
  · have key : Tr w1 w1.heap.size x ∧ InS (fun b => w.heap.size + 1 + 1 + 1 ≤ b ∧ v.ownBlock ≠ some b) x := by
      rcases List.mem_append.1 hx with hx | hx
      · obtain ⟨h1, h2⟩ := h.kid x hx
        exact ⟨h1.up (Nat.le_refl _) hb, h2⟩
      · simp at hx
        subst hx
        exact ⟨hr, hi.mono (fun b hb' => ⟨by omega, fun e => by have := hvl b e; omega⟩)⟩
    have hins : InS (fun b => b < w1.heap.size ∧ w.heap.size + 1 + 1 + 1 ≤ b ∧ v.ownBlock ≠ some b) x := key.1.ins.and key.2 (fun b h1 h2 => ⟨h1, h2.1, h2.2⟩)
    refine ⟨(key.1.keepS hins (fun p hp _ => ?_)).more (by omega), hins.mono (fun b hb => ⟨hb.2.1, fun e => ?_⟩)⟩
    · rw [World.cell?_setCell_other w3 _ p v3 (fun e => by have := hp.2.1; rw [← e] at this; have : w.heap.size + 1 + 1 + 1 ≤ w.heap.size + 1 + 1 := this; omega), World.cell?_of_block (hg.grown.block p.block (by omega) (fun e => hp.2.2 e.symm)), World.cell?_alloc_lt w1 o p hp.1]
    · rcases hg.own b e with h1 | h1
      · exact hb.2.2 h1
      · omega
  · rw [List.map_append, h.pl, List.take_add_one, hk]
    simp [hp]
theorem RInv.done {w wr w2 : World} {t : TX} {v : Value} {rs : List TX} (h : RInv w wr t t.kids.length v rs) (hb : t.kids.length * 72 ≤ 140737488351232) (kr : -9223372036854775808 ≤ t.kind ∧ t.kind ≤ 9223372036854775807) (htc : TC wr w2 (fun b => b = w.heap.size + 1)) :
    NewPost w t.plain.bare (.returned (.agg #[.int .i64 t.kind, .string t.text, .slice none 0 0, v])) w2 := by
  obtain ⟨A, c, rfl, hr, hA⟩ := reads_of_owns h.row
  obtain ⟨r, hr'⟩ : ∃ r : TX, r = .node t.kind t.text none [] 0 A rs c := ⟨_, rfl⟩
  have hkids : r.kids = rs := by rw [hr']; rfl
  have hkA : r.kA = A := by rw [hr']; rfl
  have hrl := h.len
  have hsz := htc.size
  have hz := h.bel.size
  have hins : InS (w.heap.size + 1 + 1 + 1 ≤ ·) r := .mk r (fun ad e hn => by rw [hkA] at e; exact (hA ad e).1) (fun ad e hn => by rw [hr'] at e; cases e) (fun k hk => (h.kid k (hkids ▸ hk)).2.mono (fun b hb => hb.1))
  have hcc : t.kids.length ≤ c := by
    rcases h.row.2 with ⟨e, hn⟩ | ⟨g, cap, cur, e, -, -, hnc, -⟩
    · omega
    · injection e with _ _ e3; omega
  have htr : Tr wr wr.heap.size r := .mk r (by rw [hkA, hkids, hrl]; exact hr) (by rw [hr']; exact Reads.none_) (by rw [hkids, hrl]; exact hb) (by rw [hkids, hrl, hr']; exact hcc) (by rw [hr']; simp [TX.leads]) (by rw [hr']; exact kr) (fun k hk => (h.kid k (hkids ▸ hk)).1)
  refine ⟨r, ?_, ?_, (htr.keepS hins (fun p hp hp2 => World.cell?_of_block (htc.block p.block hp2 (by omega)))).more hsz, hins.mono (fun b hb => by omega), h.bel.trans (htc.below hz (fun i hi => by omega))⟩
  · have e : r.val = .agg #[.int .i64 t.kind, .string t.text, .slice none 0 0, .slice A rs.length c] := by rw [hr']; rfl
    rw [e, hrl]
  · rw [bare_plain, TX.plain_eq, hkids, h.pl, List.take_length, hr']; rfl

set_option maxRecDepth 100000 in
set_option maxHeartbeats 1600000 in
theorem rbare_any (t : TX) : ∀ w : World, Tr w w.heap.size t → Calls Try.prog 18 #[t.val] w (NewPost w t.plain.bare) := by
  induction t using TX.ind with
  | h t ih =>
  intro w h
  unfold TX.val
  have HIH := Lib.hid ih
  have H := Lib.hid h
  have hkb := h.kb
  have HKB := Lib.hid h.kbs
  obtain ⟨i0, HI0, HZ0⟩ := Option.map_eq_some_iff.1 tree_info
  have hz1 : i0.zero = some (.agg zeroArr) := by injection HZ0
  have hz2 : i0.size = 4 := by injection HZ0 with _ h; injection h
  have hz3 : i0.bytes = 72 := by injection HZ0 with _ h; injection h
  have HI := Lib.hid HI0
  have HZ1 := Lib.hid hz1
  have HZ2 := Lib.hid hz2
  have HZ3 := Lib.hid hz3
  clear ih h HI0 HZ0 hz1 hz2 hz3
  go_enter Try.func18, Try.ntmps18
  go_wp2_with fail
  go_loopw [4] (fun i wr => ∃ (j : Nat) (v : Value) (rs : List TX), j ≤ t.kids.length ∧ i = .int .i64 (j : Int) ∧ Hid (RInv w wr t j v rs)) (fun i _ => t.kids.length - (intOf i).toNat)
  case atStart =>
    exact ⟨0, .slice none 0 0, [], by omega, rfl, ⟨(((Below.refl _ w).alloc (Nat.le_refl _) _).alloc (by simp) _).alloc (by simp; omega) _, ((Blk.new w 25 _).alloc _).alloc _, (Blk.new' 25 zeroArr (by simp)).alloc _, Blk.new' 25 _ (by simp), ⟨rfl, .inl ⟨rfl, rfl⟩⟩, rfl, fun k hk => (by cases hk), by simp⟩⟩
  case round =>
    obtain ⟨j, v, rs, hj, rfl, HR⟩ := hrel
    obtain ⟨vA, vc, rfl, -, -⟩ := reads_of_owns HR.out.row
    have c3 := HR.out.b0.cell 3
    simp [TX.arr] at c3
    by_cases hlt : j < t.kids.length
    · obtain ⟨k, hk⟩ : ∃ k, t.kids[j]? = some k := ⟨_, List.getElem?_eq_getElem hlt⟩
      obtain ⟨ab, ao, hA, hab, e0, e1, e2, e3⟩ := (H.out.low HR.out.bel).at_ hk
      have d3 := HR.out.b2.cell 3
      simp at d3
      rw [hA] at c3
      have HC := Lib.hid (HIH.out k (List.mem_of_getElem? hk) wr.drew ((H.out.sub k (List.mem_of_getElem? hk)).up (Nat.le_refl _) (below_drewN HR.out.bel 1)))
      unfold TX.val at HC
      have i0' : (0 : Int) ≤ (j : Int) := by omega
      have i1' : (j : Int) < (t.kids.length : Int) := by omega
      have HK := Lib.hid hk
      have HB : Hid (j * 72 + 72 ≤ 140737488351232) := by have := HKB.out; unfold Hid; omega
      have HL2 := Lib.hid HR.out.b2.lt
      have HJ : Hid (j + 1 ≤ maxLen) := by unfold Hid maxLen; omega
      have HJB : Hid ((j + 1) * 72 ≤ 140737488355328) := by have := HKB.out; unfold Hid; omega
      have HBD : Hid (Below wr.heap.size wr wr.drew) := below_drewN (Below.refl _ _) 1
      clear hA hk
      go_wp2_with fail
      go_region_law (first
        | (refine step_call rfl 18 _ _ rfl Try.func18 (by kernel_rfl) (by kernel_rfl) #[.agg #[.int .i64 k.kind, .string k.text, .slice k.lA k.leads.length k.lc, .slice k.kA k.kids.length k.kc]] (by first | (simp [Act.eval]; done) | (simp [Act.eval, Act.put]; done)) HC.out ?_; rintro e w1 ⟨r, rfl, hpl, htr, hin, hb1⟩; refine ⟨_, rfl, ?_⟩; unfold TX.val; have HB1 := Lib.hid (HBD.out.trans (hb1.mono HBD.out.size)); have k3 : w1.cell? ⟨w.heap.size + 1 + 1, 3, none⟩ = some (.slice vA j vc) := (by rw [(HR.out.b2.below HB1.out HL2.out).cell]; rfl); have hlt2 : w.heap.size + 1 + 1 < w1.heap.size := (HR.out.b2.below HB1.out HL2.out).lt; have HTR := Lib.hid htr; have HPL := Lib.hid hpl; have HIN := Lib.hid hin; have HO1 := Lib.hid (owns_below HR.out.row HB1.out (own_lt HR.out.row)); clear hpl htr hin hb1)
        | (refine step_append_row _ rfl (.tmp 18) (.tmp 25) 23 23 rfl (w.heap.size + 1 + 1 + 1) 25 i0 (.agg zeroArr) 4 72 Try.underlying23 HI.out HZ1.out HZ2.out HZ3.out rfl (by decide) (.slice vA j vc) j (rs.flatMap TX.cells) (by simp [Act.eval]) (HO1.out.alloc _) (.slice (some ⟨w1.heap.size, 0, none⟩) 1 1) 1 r.cells (by simp [Act.eval]) (src_new w1 Try.underlying23 r.cells 4 1 1 25 rfl (by intro u hu; simp [TX.cells] at hu; rcases hu with rfl | rfl | rfl | rfl <;> rfl)) HJ.out HJB.out (by simp; omega) ?_; intro v3 w3 hown3 hg3; obtain ⟨A3, q3, rfl, -, -⟩ := reads_of_owns hown3; have HNX := Lib.hid (HR.out.step HK.out HB1.out HPL.out HTR.out HIN.out _ hown3 hg3); have hk3 := hg3.blk ((HR.out.b2.below HB1.out HL2.out).alloc _) (fun e => by have := own_from HR.out.row _ e; omega); have k3' : w3.cell? ⟨w.heap.size + 1 + 1, 3, none⟩ = some (.slice vA j vc) := (by rw [hk3.cell]; rfl); have l3 := hk3.frozen 3; clear hown3 hg3 hk3))
      all_goals
        go_wp2_with fail
        go_roundw
        case rel => exact ⟨j + 1, .slice A3 (j + 1) q3, rs ++ [r], by omega, by go_num, HNX⟩
        case measure => simp [intOf]; omega
    · obtain rfl : j = t.kids.length := by omega
      have b0 := HR.out.b2.cell 0
      have b1 := HR.out.b2.cell 1
      have b2 := HR.out.b2.cell 2
      have b3 := HR.out.b2.cell 3
      simp at b0 b1 b2 b3
      have z0 := HR.out.b1.frozen 0
      have z1 := HR.out.b1.frozen 1
      have z2 := HR.out.b1.frozen 2
      have z3 := HR.out.b1.frozen 3
      have y0 := HR.out.b1.cell 0
      have y1 := HR.out.b1.cell 1
      have y2 := HR.out.b1.cell 2
      have y3 := HR.out.b1.cell 3
      simp [zeroArr] at y0 y1 y2 y3
      have HXE := Lib.hid (blk_putV HR.out.b1 (.int .i64 t.kind) (.string t.text) (.slice none 0 0) (.slice vA t.kids.length vc))
      have HTC := Lib.hid (tc_putV (S := fun b => b = w.heap.size + 1) HR.out.b1 rfl (.int .i64 t.kind) (.string t.text) (.slice none 0 0) (.slice vA t.kids.length vc))
      have x0 := HXE.out.cell 0
      have x1 := HXE.out.cell 1
      have x2 := HXE.out.cell 2
      have x3 := HXE.out.cell 3
      simp at x0 x1 x2 x3
      go_wp2_with fail
      refine bodyPost_ret (v := .agg #[.int .i64 t.kind, .string t.text, .slice none 0 0, .slice vA t.kids.length vc]) (by simp [results, Try.results18, go_sem, x0, x1, x2, x3]) rfl ?_
      exact HR.out.done HKB.out H.out.kr HTC.out
end Go.Proofs.Ythaepakpeamajaa
