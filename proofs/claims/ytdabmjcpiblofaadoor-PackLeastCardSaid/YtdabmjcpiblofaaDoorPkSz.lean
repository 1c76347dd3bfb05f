/-
  How large a tree is: the program's Size. No condition.
-/
import Derived.Test.YtdabmjcpiblofaaDoorPkTr
namespace Go.Proofs.YtdabmjcpiblofaaDoor
open Go.RowKit
set_option linter.unusedVariables false

theorem wrap_add (a b : Int) : wrap64 (wrap64 a + wrap64 b) = wrap64 (a + b) := by
  unfold wrap64; omega
def szs (t : TX) (i : Nat) : Nat := T.sizes ((t.kids.take i).map TX.plain)
theorem szs_zero (t : TX) : szs t 0 = 0 := by unfold szs; simp [T.sizes]
theorem szs_succ {t k : TX} {i : Nat} (h : t.kids[i]? = some k) : szs t (i + 1) = szs t i + k.plain.size := by
  unfold szs
  rw [List.take_add_one, h]
  simp only [Option.toList, List.map_append, List.map_cons, List.map_nil]
  rw [T.sizes_append, T.sizes, T.sizes]; omega
theorem szs_all (t : TX) (i : Nat) (h : t.kids.length ≤ i) : t.plain.size = 1 + szs t i := by
  unfold szs
  rw [List.take_of_length_le h, TX.plain_eq, T.size]
/-- it only makes memory -/
def RetZ (w : World) (v : Value) (e : Ending) (w' : World) : Prop := e = .returned v ∧ Below w.heap.size w w'
def SizeAt (w : World) (t : TX) (f : FuncId) : Prop := Calls Tryd.prog f #[t.val] w (RetZ w (.int .i64 (wrap64 (t.plain.size : Int))))

set_option maxRecDepth 100000 in
set_option maxHeartbeats 800000 in
theorem size_any (t : TX) : ∀ w : World, Tr w w.heap.size t → SizeAt w t 49 := by
  induction t using TX.ind with
  | h t ih =>
  intro w h
  unfold SizeAt TX.val
  have HIH := Lib.hid ih
  have H := Lib.hid h
  have hkb := h.kb
  obtain ⟨kA, hkA⟩ : ∃ a, t.kA = a := ⟨_, rfl⟩
  have HKA := Lib.hid hkA
  rw [hkA]
  obtain ⟨W, hW⟩ : ∃ W, w.alloc (.cells #[.int .i64 t.kind, .string t.text, .slice t.lA t.leads.length t.lc, .slice kA t.kids.length t.kc] 42) = W := ⟨_, rfl⟩
  have HBW : Hid (Below w.heap.size w W) := by subst hW; exact (Below.refl _ w).alloc (Nat.le_refl _) _
  have HBX : Hid (Blk W w.heap.size 42 #[.int .i64 t.kind, .string t.text, .slice t.lA t.leads.length t.lc, .slice kA t.kids.length t.kc]) := by subst hW; exact Blk.new w _ _
  have HZW : Hid (w.heap.size < W.heap.size) := HBX.out.lt
  have c3 := HBX.out.cell 3
  simp at c3
  clear ih h hkA
  go_enter Tryd.func49, Tryd.ntmps49
  go_wp2_with fail
  have HW := Lib.hid hW
  clear hW
  go_loopw [3, 9] (fun s i wr => ∃ j : Nat, j ≤ t.kids.length ∧ i = .int .i64 (j : Int) ∧ s = .int .i64 (wrap64 ((1 + szs t j : Nat) : Int)) ∧ Hid (Below W.heap.size W wr)) (fun _ i _ => t.kids.length - (intOf i).toNat)
  case atStart => exact ⟨0, by omega, rfl, by rw [szs_zero]; exact congrArg _ (IntWalk.wrap64_in _ (by simp)).symm, Below.refl _ _⟩
  case round =>
    obtain ⟨j, hj, rfl, rfl, HB⟩ := hrel
    have HBB : Hid (Below w.heap.size w wr) := HBW.out.trans (HB.out.mono HBW.out.size)
    have c3' := (HBX.out.below HB.out HZW.out).cell 3
    simp at c3'
    by_cases hlt : j < t.kids.length
    · obtain ⟨k, hk⟩ : ∃ k, t.kids[j]? = some k := ⟨_, List.getElem?_eq_getElem hlt⟩
      obtain ⟨ab, ao, hA, hab, e0, e1, e2, e3⟩ := (H.out.low HBB.out).at_ hk
      obtain rfl : kA = some ⟨ab, ao, none⟩ := HKA.out.symm.trans hA
      have HS := Lib.hid (szs_succ hk)
      obtain ⟨wk, hwk⟩ : ∃ wk, wr.alloc (.cells #[.int .i64 k.kind, .string k.text, .slice k.lA k.leads.length k.lc, .slice k.kA k.kids.length k.kc] 42) = wk := ⟨_, rfl⟩
      have hbk : Blk wk wr.heap.size 42 #[.int .i64 k.kind, .string k.text, .slice k.lA k.leads.length k.lc, .slice k.kA k.kids.length k.kc] := by subst hwk; exact Blk.new wr _ _
      have f0 := hbk.cell 0
      have f1 := hbk.cell 1
      have f2 := hbk.cell 2
      have f3 := hbk.cell 3
      simp at f0 f1 f2 f3
      clear hbk
      have HBK : Hid (Below W.heap.size W wk) := by subst hwk; exact HB.out.alloc HB.out.size _
      have HC := Lib.hid (HIH.out k (List.mem_of_getElem? hk) wk ((H.out.sub k (List.mem_of_getElem? hk)).up (Nat.le_refl _) (HBW.out.trans (HBK.out.mono HBW.out.size))))
      unfold SizeAt TX.val at HC
      clear hA hk
      go_wp2_with fail
      refine (HC.out).mono ?_
      rintro e w1 ⟨rfl, hb1⟩
      have HB1 := Lib.hid (HBK.out.trans (hb1.mono HBK.out.size))
      clear hb1
      go_wp2_with fail
      go_roundw
      case rel => exact ⟨j + 1, by omega, by go_num, by rw [HS.out]; exact congrArg _ ((wrap_add _ _).trans (congrArg _ (by omega))), HB1⟩
      case measure => simp [intOf]; omega
    · have HE : Hid (wrap64 ((1 + szs t j : Nat) : Int) = wrap64 (t.plain.size : Int)) := by unfold Hid; rw [szs_all t j (by omega)]
      go_wp2_with fail
      go_ret
      exact ⟨by rw [HE.out]; rfl, HBB.out⟩

end Go.Proofs.YtdabmjcpiblofaaDoor
