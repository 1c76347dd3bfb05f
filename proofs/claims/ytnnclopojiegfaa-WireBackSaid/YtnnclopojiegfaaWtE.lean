/-
  The reader's write. No condition.
-/
import Derived.Test.YtnnclopojiegfaaWtD
namespace Go.Proofs.Ytnnclopojiegfaa
open Go.RowKit
set_option linter.unusedVariables false

set_option maxRecDepth 100000 in
set_option maxHeartbeats 1000000 in
theorem write_any {w : World} {r n c : Nat} {A : Option Addr} {bs : List Nat} {s : Option Nat} (h : Rd w r A n c s) (hi : RdIn w r A n c bs) :
    Calls Try.prog 48 #[.pointer (some ⟨r, 0, none⟩)] w (CellPost w r A n c (s.bind (cellP bs))) := by
  have M0 : Hid (Mid w ((w.alloc (.cells #[.int .i64 0, .int .i64 0, .int .i64 0, .bool false, .string ByteArray.empty, .int .i64 0] 61)).alloc (.cells #[.int .i64 0, .int .i64 0, .int .i64 0, .bool false, .string ByteArray.empty, .int .i64 0] 61)) r w.heap.size A n c bs s ⟨0, 0, 0, false, ByteArray.empty, 0⟩) := by
    have hb := Blk.new w 61 #[.int .i64 0, .int .i64 0, .int .i64 0, .bool false, .string ByteArray.empty, .int .i64 0]
    have hlt := h.lt
    refine ⟨(h.alloc _).alloc _, (hi.alloc (by omega) _).alloc (by simp; omega) _, ?_, hb.alloc _, only_alloc (only_alloc (World.grownBy.refl w _) _) _, Nat.le_refl _, hlt⟩
    have := Blk.new (w.alloc (.cells #[.int .i64 0, .int .i64 0, .int .i64 0, .bool false, .string ByteArray.empty, .int .i64 0] 61)) 61 #[.int .i64 0, .int .i64 0, .int .i64 0, .bool false, .string ByteArray.empty, .int .i64 0]
    unfold CBox
    simpa using this
  clear h hi
  go_enter Try.func48, Try.ntmps48
  go_wp2_with fail
  refine (number_any (M0.out).rd (M0.out).inn).mono ?_
  rintro e w1 ⟨a, rfl, K1, hrd, hg⟩
  replace K1 := Lib.hid K1
  have N0 := Lib.hid ((M0.out).next hrd hg)
  have M1 := Lib.hid ((N0.out).put 0 (.int .i64 a) ⟨a, 0, 0, false, ByteArray.empty, 0⟩ rfl)
  have ck := (N0.out).box.cell 0
  have fk := (N0.out).box.frozen 0
  simp at ck
  clear hrd hg M0 N0
  go_wp2_with fail
  clear ck fk
  refine (number_any (M1.out).rd (M1.out).inn).mono ?_
  rintro e w2 ⟨b, rfl, K2, hrd, hg⟩
  replace K2 := Lib.hid K2
  have N1 := Lib.hid ((M1.out).next hrd hg)
  have M2 := Lib.hid ((N1.out).put 1 (.int .i64 b) ⟨a, b, 0, false, ByteArray.empty, 0⟩ rfl)
  have ck := (N1.out).box.cell 1
  have fk := (N1.out).box.frozen 1
  simp at ck
  clear hrd hg M1 N1
  go_wp2_with fail
  clear ck fk
  refine (number_any (M2.out).rd (M2.out).inn).mono ?_
  rintro e w3 ⟨d, rfl, K3, hrd, hg⟩
  replace K3 := Lib.hid K3
  have N2 := Lib.hid ((M2.out).next hrd hg)
  have M3 := Lib.hid ((N2.out).put 2 (.int .i64 d) ⟨a, b, d, false, ByteArray.empty, 0⟩ rfl)
  have ck := (N2.out).box.cell 2
  have fk := (N2.out).box.frozen 2
  simp at ck
  clear hrd hg M2 N2
  go_wp2_with fail
  clear ck fk
  refine (flag_any (M3.out).rd (M3.out).inn).mono ?_
  rintro e w4 ⟨f, rfl, K4, hrd, hg⟩
  replace K4 := Lib.hid K4
  have N3 := Lib.hid ((M3.out).next hrd hg)
  have M4 := Lib.hid ((N3.out).put 3 (.bool f) ⟨a, b, d, f, ByteArray.empty, 0⟩ rfl)
  have ck := (N3.out).box.cell 3
  have fk := (N3.out).box.frozen 3
  simp at ck
  clear hrd hg M3 N3
  go_wp2_with fail
  clear ck fk
  refine (text_any (M4.out).rd (M4.out).inn).mono ?_
  rintro e w5 ⟨t, rfl, K5, hrd, hg⟩
  replace K5 := Lib.hid K5
  have N4 := Lib.hid ((M4.out).next hrd hg)
  have M5 := Lib.hid ((N4.out).put 4 (.string t) ⟨a, b, d, f, t, 0⟩ rfl)
  have ck := (N4.out).box.cell 4
  have fk := (N4.out).box.frozen 4
  simp at ck
  clear hrd hg M4 N4
  go_wp2_with fail
  clear ck fk
  refine (number_any (M5.out).rd (M5.out).inn).mono ?_
  rintro e w6 ⟨x, rfl, K6, hrd, hg⟩
  replace K6 := Lib.hid K6
  have N5 := Lib.hid ((M5.out).next hrd hg)
  have M6 := Lib.hid ((N5.out).put 5 (.int .i64 x) ⟨a, b, d, f, t, x⟩ rfl)
  have c0 := (N5.out).box.cell 0
  have c1 := (N5.out).box.cell 1
  have c2 := (N5.out).box.cell 2
  have c3 := (N5.out).box.cell 3
  have c4 := (N5.out).box.cell 4
  have c5 := (N5.out).box.cell 5
  have fk := (N5.out).box.frozen 5
  have o0 := (N5.out).out.cell 0
  have o1 := (N5.out).out.cell 1
  have o2 := (N5.out).out.cell 2
  have o3 := (N5.out).out.cell 3
  have o4 := (N5.out).out.cell 4
  have o5 := (N5.out).out.cell 5
  have f0 := (N5.out).out.frozen 0
  have f1 := (N5.out).out.frozen 1
  have f2 := (N5.out).out.frozen 2
  have f3 := (N5.out).out.frozen 3
  have f4 := (N5.out).out.frozen 4
  have f5 := (N5.out).out.frozen 5
  simp at c0 c1 c2 c3 c4 c5 o0 o1 o2 o3 o4 o5
  clear hrd hg M5 N5
  go_wp2_with fail
  clear c0 c1 c2 c3 c4 c5 o0 o1 o2 o3 o4 o5 f0 f1 f2 f3 f4 f5 fk
  have FB := ((((((M6.out).out.set_ 0 (.int .i64 a)).set_ 1 (.int .i64 b)).set_ 2 (.int .i64 d)).set_ 3 (.bool f)).set_ 4 (.string t)).set_ 5 (.int .i64 x)
  have hn := (M6.out).new
  have ho := (M6.out).old
  have FR := ((((((M6.out).rd.far (p := ⟨w.heap.size, 0, none⟩) (by show r ≠ w.heap.size; omega) (.int .i64 a)).far (p := ⟨w.heap.size, 1, none⟩) (by show r ≠ w.heap.size; omega) (.int .i64 b)).far (p := ⟨w.heap.size, 2, none⟩) (by show r ≠ w.heap.size; omega) (.int .i64 d)).far (p := ⟨w.heap.size, 3, none⟩) (by show r ≠ w.heap.size; omega) (.bool f)).far (p := ⟨w.heap.size, 4, none⟩) (by show r ≠ w.heap.size; omega) (.string t)).far (p := ⟨w.heap.size, 5, none⟩) (by show r ≠ w.heap.size; omega) (.int .i64 x)
  have FG := only_setCell (only_setCell (only_setCell (only_setCell (only_setCell (only_setCell (M6.out).gr (p := ⟨w.heap.size, 0, none⟩) (.inr (Nat.le_refl _)) (.int .i64 a)) (p := ⟨w.heap.size, 1, none⟩) (.inr (Nat.le_refl _)) (.int .i64 b)) (p := ⟨w.heap.size, 2, none⟩) (.inr (Nat.le_refl _)) (.int .i64 d)) (p := ⟨w.heap.size, 3, none⟩) (.inr (Nat.le_refl _)) (.bool f)) (p := ⟨w.heap.size, 4, none⟩) (.inr (Nat.le_refl _)) (.string t)) (p := ⟨w.heap.size, 5, none⟩) (.inr (Nat.le_refl _)) (.int .i64 x)
  have hch := cell_chain rfl (K1.out) rfl (K2.out) rfl (K3.out) rfl (K4.out) rfl (K5.out) rfl (K6.out)
  refine bodyPost_ret (results_cell_row (P := Try.prog) rfl _ _ w.heap.size 61 #[.int .i64 a, .int .i64 b, .int .i64 d, .bool f, .string t, .int .i64 x] (0, 0) _ rfl FB Try.underlying61 rfl (by kernel_rfl)) rfl ?_
  refine ⟨⟨a, b, d, f, t, x⟩, rfl, hch.1, ?_, FG⟩
  rw [hch.2]
  exact FR
end Go.Proofs.Ytnnclopojiegfaa
