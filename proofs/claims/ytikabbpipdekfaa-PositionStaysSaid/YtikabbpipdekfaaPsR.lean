/-
  The program's Keep: what its loops keep. No condition.
-/
import Derived.Test.YtikabbpipdekfaaPsQ
namespace Go.Proofs.Ytikabbpipdekfaa
open Go.RowKit
set_option linter.unusedVariables false

structure KP (w wr : World) (A : Option Addr) (c n : Nat) (ns : List Nat) (m : Nat) (hs : List ByteArray) (hv : Value) : Prop where
  bx : Blk wr w.heap.size 28 #[.slice A n c]
  bl : Blk wr (w.heap.size + 1) 3 (arrI (List.replicate m 0 ++ best (ns.drop m)))
  bh : Blk wr (w.heap.size + 1 + 1) 28 #[hv]
  row : wr.ownsRow (w.heap.size + 1 + 1 + 1) 9 1 hv hs.length (hs.map Value.string)
  hd : Heads (ns.drop m) (hs.map num)
  ky : ∀ h ∈ hs, keyB h.data.toList = true
  bel : Below w.heap.size w wr
section
variable {w wr w' : World} {A : Option Addr} {c n m : Nat} {ns : List Nat} {hs : List ByteArray} {hv : Value}
theorem KP.up (h : KP w wr A c n ns m hs hv) (hb : Below wr.heap.size wr w') : KP w w' A c n ns m hs hv :=
  ⟨h.bx.below hb h.bx.lt, h.bl.below hb h.bl.lt, h.bh.below hb h.bh.lt, owns_below h.row hb (own_lt h.row), h.hd, h.ky, h.bel.trans (hb.mono (by have := h.bx.lt; omega))⟩
/-- an element that is no key -/
theorem KP.skip (h : KP w wr A c n ns (m + 1) hs hv) (hx : ns[m]? = some 0) : KP w wr A c n ns m hs hv := by
  obtain ⟨hi, e⟩ := List.getElem?_eq_some_iff.1 hx
  have e2 : ns.drop m = 0 :: ns.drop (m + 1) := by rw [List.drop_eq_getElem_cons hi, e]
  exact ⟨h.bx, by rw [← rep_skip hx]; exact h.bl, h.bh, h.row, by rw [e2]; exact h.hd.skip, h.ky, h.bel⟩
end
/-- what the loop has once an element that is a key has been put in -/
theorem KP.put {w wr w5 : World} {A : Option Addr} {c n m r : Nat} {ns : List Nat} {hs hs' : List ByteArray} {hv hv' : Value} {x : ByteArray} (h : KP w wr A c n ns (m + 1) hs hv) (hx : ns[m]? = some (num x)) (hk : keyB x.data.toList = true) (hr : r ≤ hs.length) (hlo : ∀ (j : Nat) (h : ByteArray), j < r → hs[j]? = some h → num x < num h) (hhi : ∀ h : ByteArray, hs[r]? = some h → num h ≤ num x)
    (hh : hs' = if r = hs.length then hs ++ [x] else hs.set r x) (hw5 : w5.ownsRow (w.heap.size + 1 + 1 + 1) 9 1 hv' hs'.length (hs'.map Value.string)) (h1 : Blk w5 w.heap.size 28 #[.slice A n c]) (h2 : Blk w5 (w.heap.size + 1) 3 (arrI (List.replicate (m + 1) 0 ++ best (ns.drop (m + 1))))) (h3 : Blk w5 (w.heap.size + 1 + 1) 28 #[hv']) (h5 : Below w.heap.size w w5) :
    KP w (w5.setCell ⟨w.heap.size + 1, m, none⟩ (.int .i64 ((r : Int) + 1))) A c n ns m hs' hv' := by
  obtain ⟨hi, e⟩ := List.getElem?_eq_some_iff.1 hx
  have e2 : ns.drop m = num x :: ns.drop (m + 1) := by rw [List.drop_eq_getElem_cons hi, e]
  have hpos := (num_key hk).2
  have hput := h.hd.put (p := r) hpos (by rw [List.length_map]; exact hr) (fun j y hj hy => by
    rw [List.getElem?_map] at hy
    obtain ⟨z, hz, rfl⟩ := Option.map_eq_some_iff.1 hy
    exact hlo j z hj hz) (fun y hy => by
    rw [List.getElem?_map] at hy
    obtain ⟨z, hz, rfl⟩ := Option.map_eq_some_iff.1 hy
    exact hhi z hz) (hs'.map num) (by
    rw [hh, List.length_map]
    split
    · simp
    · rw [List.map_set])
  have hm := h.hd.at_ (a := num x) (p := r) (by rw [List.length_map]; exact hr) (fun j y hj hy => by
    rw [List.getElem?_map] at hy
    obtain ⟨z, hz, rfl⟩ := Option.map_eq_some_iff.1 hy
    exact hlo j z hj hz) (fun y hy => by
    rw [List.getElem?_map] at hy
    obtain ⟨z, hz, rfl⟩ := Option.map_eq_some_iff.1 hy
    exact hhi z hz)
  have hfrom := own_from hw5
  refine ⟨h1.far (p := ⟨w.heap.size + 1, m, none⟩) (by show w.heap.size ≠ w.heap.size + 1; omega) _, ?_, h3.far (p := ⟨w.heap.size + 1, m, none⟩) (by show w.heap.size + 1 + 1 ≠ w.heap.size + 1; omega) _, ?_, by rw [e2]; exact hput, fun y hy => ?_, h5.setCell (p := ⟨w.heap.size + 1, m, none⟩) (Nat.le_succ _) _⟩
  · have := arrI_set h2 m (r + 1)
    rw [show ((r + 1 : Nat) : Int) = (r : Int) + 1 by omega, List.replicate_succ', List.append_assoc] at this
    have e3 := rep_set (ns := best (ns.drop (m + 1))) (m := m) (v := r + 1) 0
    rw [show ([0] ++ best (ns.drop (m + 1)) : List Nat) = 0 :: best (ns.drop (m + 1)) from rfl, e3] at this
    rw [best_at hx, if_pos hpos, hm]
    exact this
  · refine hw5.kept (w' := w5.setCell ⟨w.heap.size + 1, m, none⟩ (.int .i64 ((r : Int) + 1))) (row := some (w.heap.size + 1)) ⟨rfl, rfl, rfl, by simp [World.setCell], fun i hi hne => Below.heap_setCell w5 _ _ i (fun e => hne (by rw [e]))⟩ ?_
    cases hb : hv'.ownBlock with
    | none => exact .inl rfl
    | some g => exact .inr (fun e => by injection e with e; have := hfrom g hb; omega)
  · rw [hh] at hy
    split at hy
    · rcases List.mem_append.1 hy with hy | hy
      · exact h.ky y hy
      · simp at hy; subst hy; exact hk
    · rcases List.mem_or_eq_of_mem_set hy with hy | hy
      · exact h.ky y hy
      · subst hy; exact hk
/-- the first head that is not above x -/
def notAbove (hs : List ByteArray) (x : ByteArray) (j : Nat) : Bool := match hs[j]? with
  | some h => decide (num h ≤ num x)
  | none => false
theorem notAbove_at {hs : List ByteArray} {x h : ByteArray} {j : Nat} (hj : hs[j]? = some h) : notAbove hs x j = decide (num h ≤ num x) := by unfold notAbove; rw [hj]
theorem notAbove_mono {r : List Nat} {hs : List ByteArray} {x : ByteArray} (h : Heads r (hs.map num)) (i j : Nat) (hij : i ≤ j) (hj : j < hs.length) (hi : notAbove hs x i = true) : notAbove hs x j = true := by
  rcases Nat.eq_or_lt_of_le hij with rfl | hlt
  · exact hi
  · obtain ⟨y, hy⟩ : ∃ y, hs[i]? = some y := ⟨_, List.getElem?_eq_getElem (by omega)⟩
    obtain ⟨z, hz⟩ : ∃ z, hs[j]? = some z := ⟨_, List.getElem?_eq_getElem hj⟩
    rw [notAbove_at hy] at hi
    rw [notAbove_at hz]
    have hi' := of_decide_eq_true hi
    have := h.desc i j (num y) (num z) hlt (by rw [List.getElem?_map, hy]; rfl) (by rw [List.getElem?_map, hz]; rfl)
    exact decide_eq_true (by omega)
theorem notAbove_lo {hs : List ByteArray} {x : ByteArray} {r : Nat} (h : ∀ i, i < r → notAbove hs x i = false) (j : Nat) (y : ByteArray) (hj : j < r) (hy : hs[j]? = some y) : num x < num y := by
  have := h j hj
  rw [notAbove_at hy] at this
  have := of_decide_eq_false this
  omega
theorem notAbove_hi {hs : List ByteArray} {x : ByteArray} {r : Nat} (h : r < hs.length → notAbove hs x r = true) (y : ByteArray) (hy : hs[r]? = some y) : num y ≤ num x := by
  have := h (List.getElem?_eq_some_iff.1 hy).1
  rw [notAbove_at hy] at this
  exact of_decide_eq_true this
/-- a key that is above the last one -/
theorem above_last {x last : ByteArray} (hx : keyB x.data.toList = true) (hl : last.data.toList = [] ∨ keyB last.data.toList = true) (h : num last < num x) : Op.bytesLess x.toList last.toList = false ∧ (x.toList == last.toList) = false := by
  have key : (Op.bytesLess x.toList last.toList || x.toList == last.toList) = false := by
    rcases hl with hl | hl
    · rw [less_iff, Lib.toList_data, Lib.toList_data, hl]
      have hp := (keyB_iff.1 hx).pos
      cases hh : x.data.toList with
      | nil => exact absurd hh hp
      | cons c r => rfl
    · rw [leq_num hx hl]; simp; omega
  simpa using key
theorem not_above_last {x last : ByteArray} (hx : keyB x.data.toList = true) (hl : last.data.toList = [] ∨ keyB last.data.toList = true) (h : ¬ num last < num x) : Op.bytesLess x.toList last.toList = true ∨ (Op.bytesLess x.toList last.toList = false ∧ (x.toList == last.toList) = true) := by
  have hx0 := (num_key hx).2
  have hl' : keyB last.data.toList = true := by
    rcases hl with hl | hl
    · rw [num_empty hl] at h; omega
    · exact hl
  have := leq_num hx hl'
  rw [decide_eq_true (by omega)] at this
  cases hb : Op.bytesLess x.toList last.toList with
  | true => exact .inl rfl
  | false => rw [hb] at this; exact .inr ⟨rfl, by simpa using this⟩
/-- in the midst of a round -/
structure KM (w wr : World) (A : Option Addr) (c n : Nat) (ns : List Nat) (m : Nat) (hs : List ByteArray) (hv : Value) (gi t : Nat) : Prop where
  bx : Blk wr w.heap.size 28 #[.slice A n c]
  bl : Blk wr (w.heap.size + 1) 3 (arrI (List.replicate m 0 ++ best (ns.drop m)))
  bh : Blk wr (w.heap.size + 1 + 1) 28 #[hv]
  row : wr.ownsRow (w.heap.size + 1 + 1 + 1) 9 1 hv hs.length (hs.map Value.string)
  bi : Blk wr gi 3 #[.int .i64 (t : Int)]
  bel : Below w.heap.size w wr
theorem KP.mid {w wr : World} {A : Option Addr} {c n m gi t : Nat} {ns : List Nat} {hs : List ByteArray} {hv : Value} (h : KP w wr A c n ns m hs hv) (hi : Blk wr gi 3 #[.int .i64 (t : Int)]) : KM w wr A c n ns m hs hv gi t := ⟨h.bx, h.bl, h.bh, h.row, hi, h.bel⟩
/-- a key appended, and the new row stored -/
theorem KM.push {w w3 w5 : World} {A : Option Addr} {c n m gi t g5 c5 r : Nat} {ns : List Nat} {hs : List ByteArray} {hv : Value} {x : ByteArray} (h : KM w w3 A c n ns m hs hv gi t) (hr : hs.length = r) (o : Obj) (ho : w5.ownsRow (w.heap.size + 1 + 1 + 1) 9 1 (.slice (some ⟨g5, 0, none⟩) (r + 1) c5) (r + 1) (hs.map Value.string ++ [.string x])) (hg : Grows (w3.drew.alloc o) w5 hv (.slice (some ⟨g5, 0, none⟩) (r + 1) c5)) :
    KM w (w5.setCell ⟨w.heap.size + 1 + 1, 0, none⟩ (.slice (some ⟨g5, 0, none⟩) (r + 1) c5)) A c n ns m (hs ++ [x]) (.slice (some ⟨g5, 0, none⟩) (r + 1) c5) gi t ∧ Blk w5 (w.heap.size + 1 + 1) 28 #[hv] := by
  have hf := own_from h.row
  have hi0 := own_blk_ne h.row h.bi (by decide)
  have ne : ∀ g, g < w.heap.size + 1 + 1 + 1 → hv.ownBlock ≠ some g := fun g hl e => by have := hf g e; omega
  have hb : Below w3.heap.size w3 (w3.drew.alloc o) := (show Below w3.heap.size w3 w3.drew from below_drewN (Below.refl _ _) 1).alloc (Nat.le_refl _) _
  have l1 := h.bx.lt
  have hg5 := own_from ho g5 rfl
  have hbh := hg.blk (h.bh.below hb h.bh.lt) (ne _ (by omega))
  have hbi := hg.blk (h.bi.below hb h.bi.lt) hi0
  have hne : gi ≠ w.heap.size + 1 + 1 := fun e => by subst e; exact absurd rfl (Blk.ne_ h.bi h.bh (by decide))
  refine ⟨⟨(hg.blk (h.bx.below hb h.bx.lt) (ne _ (by omega))).far (p := ⟨w.heap.size + 1 + 1, 0, none⟩) (by show w.heap.size ≠ w.heap.size + 1 + 1; omega) _, (hg.blk (h.bl.below hb h.bl.lt) (ne _ (by omega))).far (p := ⟨w.heap.size + 1 + 1, 0, none⟩) (by show w.heap.size + 1 ≠ w.heap.size + 1 + 1; omega) _, hbh.set_ 0 _, ?_, hbi.far (p := ⟨w.heap.size + 1 + 1, 0, none⟩) hne _, ?_⟩, hbh⟩
  · rw [List.length_append, hr, List.map_append]
    refine ho.kept (w' := w5.setCell ⟨w.heap.size + 1 + 1, 0, none⟩ _) (row := some (w.heap.size + 1 + 1)) ⟨rfl, rfl, rfl, by simp [World.setCell], fun i hi hne => Below.heap_setCell w5 _ _ i (fun e => hne (by rw [e]))⟩ (.inr (fun e => by injection e with e; have e' : g5 = w.heap.size + 1 + 1 := e; omega))
  · exact ((h.bel.trans (hb.mono (by omega))).grown hg.grown (by have := hb.size; omega) (fun g e => by have := hf g e; omega)).setCell (p := ⟨w.heap.size + 1 + 1, 0, none⟩) (by show w.heap.size ≤ w.heap.size + 1 + 1; omega) _
/-- a key stored into the heads' row -/
theorem KM.store {w wv : World} {A : Option Addr} {c n m gi t g cv lv r : Nat} {ns : List Nat} {hs : List ByteArray} (h : KM w wv A c n ns m hs (.slice (some ⟨g, 0, none⟩) lv cv) gi t) (hl : hs.length = lv) (x : ByteArray) :
    KM w (wv.drew.setCell ⟨g, r, none⟩ (.string x)) A c n ns m (hs.set r x) (.slice (some ⟨g, 0, none⟩) lv cv) gi t := by
  have hrow := h.row
  rw [hl] at hrow
  have hg := own_from hrow g rfl
  have hi0 := own_blk_ne hrow h.bi (by decide)
  have hne : gi ≠ g := fun e => hi0 (by rw [e]; rfl)
  refine ⟨(h.bx.drew).far (p := ⟨g, r, none⟩) (by show w.heap.size ≠ g; omega) _, (h.bl.drew).far (p := ⟨g, r, none⟩) (by show w.heap.size + 1 ≠ g; omega) _, (h.bh.drew).far (p := ⟨g, r, none⟩) (by show w.heap.size + 1 + 1 ≠ g; omega) _, ?_, (h.bi.drew).far (p := ⟨g, r, none⟩) hne _, (show Below w.heap.size w wv.drew from below_drewN h.bel 1).setCell (p := ⟨g, r, none⟩) (by show w.heap.size ≤ g; omega) _⟩
  have := ((owns_drewN hrow 1).stored r (.string x)).1
  rw [List.length_set, hl, List.map_set]
  exact this
theorem KM.apart {w wv : World} {A : Option Addr} {c n m gi t g cv lv : Nat} {ns : List Nat} {hs : List ByteArray} (h : KM w wv A c n ns m hs (.slice (some ⟨g, 0, none⟩) lv cv) gi t) (hl : hs.length = lv) : g ≠ gi ∧ g ≠ w.heap.size + 1 ∧ gi ≠ g ∧ w.heap.size + 1 ≠ g := by
  have hrow := h.row
  rw [hl] at hrow
  have hg := own_from hrow g rfl
  have hi0 := own_blk_ne hrow h.bi (by decide)
  have h1 : g ≠ gi := fun e => hi0 (by rw [← e]; rfl)
  exact ⟨h1, by omega, fun e => h1 e.symm, by omega⟩
theorem KM.cells {w wv : World} {A : Option Addr} {c n m gi t g cv lv r : Nat} {ns : List Nat} {hs : List ByteArray} (h : KM w wv A c n ns m hs (.slice (some ⟨g, 0, none⟩) lv cv) gi t) (hl : hs.length = lv) (hr : r < lv) : ∃ u, wv.cell? ⟨g, r, none⟩ = some (.string u) ∧ wv.frozen? ⟨g, r, none⟩ = false := by
  have hrow := h.row
  rw [hl] at hrow
  obtain ⟨u, hu⟩ : ∃ u, hs[r]? = some u := ⟨_, List.getElem?_eq_getElem (by omega)⟩
  refine ⟨u, ?_, hrow.frozenAt r⟩
  have := hrow.cells (g := g) rfl r (.string u) (by rw [List.getElem?_map, hu]; rfl)
  rw [Addr.add_lit, Nat.zero_add] at this
  exact this
end Go.Proofs.Ytikabbpipdekfaa
