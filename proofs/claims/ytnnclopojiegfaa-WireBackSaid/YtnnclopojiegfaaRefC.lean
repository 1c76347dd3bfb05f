/-
  The bytes that the reference's Commit and Commits return. No condition.
-/
import Derived.Test.YtnnclopojiegfaaText
import Derived.Deep.RegionHeld3
namespace Go.Proofs.Ytnnclopojiegfaa
open Go.RowKit
set_option linter.unusedVariables false

/-- a slice of bytes that the call has made -/
def Nw (w w' : World) (bs : List Nat) (v : Value) : Prop := w'.ownsRow w.heap.size 5 1 v bs.length (bs.map byt) ∧ Below w.heap.size w w'
theorem New.nw {w w' : World} {bs : List Nat} {e : Ending} (h : New w bs e w') : ∃ v, e = .returned v ∧ Nw w w' bs v := by
  obtain ⟨v, he, h1, h2⟩ := h
  exact ⟨v, he, h1, h2⟩
theorem Nw.mk {w w' : World} {bs : List Nat} {v : Value} (h : Nw w w' bs v) : New w bs (.returned v) w' := ⟨v, rfl, h.1, h.2⟩
theorem Nw.reads {w w' : World} {bs : List Nat} {v : Value} (h : Nw w w' bs v) : ∃ A c, v = .slice A bs.length c ∧ Reads w' w'.heap.size 1 A bs.length (bs.map byt) := new_reads h.1
theorem Nw.after {w0 w w' : World} {bs : List Nat} {v : Value} (h : Nw w w' bs v) (hb : Below w0.heap.size w0 w) : Nw w0 w' bs v := by
  refine ⟨owns_up h.1 (fun g hg => ?_), hb.trans (h.2.mono hb.size)⟩
  have := (h.1.lt g hg).1
  have := hb.size
  omega

set_option maxRecDepth 100000 in
set_option maxHeartbeats 400000 in
theorem refInts_any (A : Option Addr) (n c : Nat) (bs : List Nat) (A1 : Option Addr) (n1 c1 : Nat) (l : List Int) (w : World) (hr : Reads w w.heap.size 1 A n (bs.map byt))
    (hr1 : Reads w w.heap.size 1 A1 n1 (l.map (Value.int .i64))) (hl : ∀ x ∈ l, inI64 x) (hk : n + 10 * n1 ≤ 900000000) :
    Calls Try.prog 34 #[.slice A n c, .slice A1 n1 c1] w (New w (bs ++ encL l)) := by
  have hn : l.length = n1 := by have := hr1.1; simpa using this
  have hbn : bs.length = n := by have := hr.1; simpa using this
  have hlen := encI_nat (n := n1) (by omega)
  have HP := Lib.hid (refInt_any A n c bs (n1 : Int) w (by omega) hr (by omega) (by omega))
  have HN := Lib.hid hn
  have HBN := Lib.hid hbn
  have HR := Lib.hid hr1
  have HLo := Lib.hid hl
  clear hn hbn hr hr1 hl
  go_enter Try.func34, Try.ntmps34
  go_wp2_with fail
  refine (HP.out).mono ?_
  intro e w1 h
  obtain ⟨v1, rfl, hst⟩ := h.nw
  have HST := Lib.hid hst
  clear h hst HP
  go_wp2_with fail
  go_loopw [0, 5] (fun v' i wr => ∃ j : Nat, j ≤ n1 ∧ i = .int .i64 (j : Int) ∧ Nw w wr (bs ++ (encI (n1 : Int) ++ (l.take j).flatMap encI)) v') (fun _ i _ => n1 - (intOf i).toNat)
  case atStart => exact ⟨0, by omega, rfl, by simpa using HST.out⟩
  case round =>
    obtain ⟨j, hj, rfl, hst⟩ := hrel
    have hsz := hst.2.size
    by_cases hlt : j < n1
    · obtain ⟨x, hx⟩ : ∃ x, l[j]? = some x := ⟨l[j]'(by rw [HN.out]; exact hlt), List.getElem?_eq_getElem _⟩
      have hxi := HLo.out x (List.mem_of_getElem? hx)
      obtain ⟨b, off, u, rfl, had, hu, hcell⟩ := (HR.out.below hst.2).at1 hlt
      obtain rfl : u = .int .i64 x := by
        rw [List.getElem?_map, hx] at hu
        simpa using hu.symm
      have hfl : ((l.take j).flatMap encI).length ≤ 10 * j := by
        have := flatI_len (l := l.take j) (fun y hy => HLo.out y (List.mem_of_mem_take hy))
        have h2 : (l.take j).length ≤ j := List.length_take_le _ _
        omega
      obtain ⟨A2, c2, rfl, hr2⟩ := hst.reads
      have hlen2 : (bs ++ (encI (n1 : Int) ++ (l.take j).flatMap encI)).length ≤ 1000000000 := by
        simp only [List.length_append]; rw [HBN.out]; omega
      have h2 := refInt_any A2 _ c2 _ x wr hlen2 hr2 hxi.1 hxi.2
      rw [List.append_assoc, List.append_assoc, ← take_flat l j x hx] at h2
      obtain ⟨m2, hm2⟩ : ∃ m, m = (bs ++ (encI (n1 : Int) ++ (l.take j).flatMap encI)).length := ⟨_, rfl⟩
      rw [← hm2] at h2 ⊢
      have HP := Lib.hid h2
      have HST2 := Lib.hid hst
      clear hst hx hu hxi hr2 h2 hm2 hlen2
      go_wp2_with fail
      refine (HP.out).mono ?_
      intro e w2 h
      obtain ⟨v2, rfl, hst2⟩ := h.nw
      have HST3 := Lib.hid (hst2.after HST2.out.2)
      clear h hst2 HP HST2
      go_wp2_with fail
      go_roundw
      case rel => exact ⟨j + 1, by omega, by go_num, HST3.out⟩
      case measure => simp [intOf]; omega
    · have R : New w (bs ++ encL l) (.returned u0) wr := by
        have h1 := hst.mk
        have e1 : l.take j = l := List.take_of_length_le (by rw [HN.out]; omega)
        rw [e1] at h1
        unfold encL
        rw [HN.out]
        exact h1
      clear hst
      go_wp2_with fail
      go_ret
      exact R
end Go.Proofs.Ytnnclopojiegfaa
