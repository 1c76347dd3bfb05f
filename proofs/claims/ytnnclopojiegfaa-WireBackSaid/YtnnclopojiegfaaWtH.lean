/-
  The reader's commit. No condition.
-/
import Derived.Test.YtnnclopojiegfaaWtHa
namespace Go.Proofs.Ytnnclopojiegfaa
open Go.RowKit
set_option linter.unusedVariables false

set_option maxRecDepth 100000 in
set_option maxHeartbeats 1000000 in
theorem commit_read {w : World} {r n c : Nat} {A : Option Addr} {bs : List Nat} {s : Option Nat} (h : Rd w r A n c s) (hi : RdIn w r A n c bs) :
    Calls Try.prog 38 #[.pointer (some ⟨r, 0, none⟩)] w (CommitPost w r A n c (s.bind (commitP bs))) := by
  have hbl : bs.length ≤ 1000000000 := by have := hi.len; have := hi.hn; omega
  have M0 := Lib.hid (Fill.start h hi 36 #[.int .i64 0, .slice none 0 0, .slice none 0 0, .string ByteArray.empty, .slice none 0 0])
  clear h hi
  go_enter Try.func38, Try.ntmps38
  go_wp2_with fail
  refine (number_any (M0.out).rd (M0.out).inn).mono ?_
  rintro e w1 ⟨a, rfl, K1, hrd, hg⟩
  replace K1 := Lib.hid K1
  have N0 := Lib.hid ((M0.out).next hrd hg)
  have M1 : Hid (Fill w (w1.setCell ⟨w.heap.size + 1, 0, none⟩ (.int .i64 a)) r w.heap.size A n c bs _ 36 #[.int .i64 0, .slice none 0 0, .slice none 0 0, .string ByteArray.empty, .slice none 0 0] #[.int .i64 a, .slice none 0 0, .slice none 0 0, .string ByteArray.empty, .slice none 0 0]) := (N0.out).put 0 (.int .i64 a)
  have ck := (N0.out).box.cell 0
  have fk := (N0.out).box.frozen 0
  simp at ck
  clear hrd hg M0 N0
  go_wp2_with fail
  clear ck fk
  refine (ints_any (M1.out).rd (M1.out).inn).mono ?_
  rintro e w2 ⟨B1, q1, ps, rfl, K2, hl1, hl2, hrd, hg⟩
  replace K2 := Lib.hid K2
  have N1 := Lib.hid ((M1.out).next hrd hg)
  have H1 := Lib.hid (Held.low (⟨hl1, hl2⟩ : Held w2 _ 1 _ _ _) (M1.out).size)
  clear hl1 hl2
  have M2 : Hid (Fill w (w2.setCell ⟨w.heap.size + 1, 1, none⟩ (.slice B1 ps.length q1)) r w.heap.size A n c bs _ 36 #[.int .i64 0, .slice none 0 0, .slice none 0 0, .string ByteArray.empty, .slice none 0 0] #[.int .i64 a, .slice B1 ps.length q1, .slice none 0 0, .string ByteArray.empty, .slice none 0 0]) := (N1.out).put 1 (.slice B1 ps.length q1)
  replace H1 := Lib.hid ((H1.out).setCell (p := ⟨w.heap.size + 1, 1, none⟩) (by show w.heap.size + 1 < w.heap.size + 2; omega) (.slice B1 ps.length q1))
  have ck := (N1.out).box.cell 1
  have fk := (N1.out).box.frozen 1
  simp at ck
  clear hrd hg M1 N1
  go_wp2_with fail
  clear ck fk
  refine (ints_any (M2.out).rd (M2.out).inn).mono ?_
  rintro e w3 ⟨B2, q2, ks, rfl, K3, hl1, hl2, hrd, hg⟩
  replace K3 := Lib.hid K3
  have N2 := Lib.hid ((M2.out).next hrd hg)
  replace H1 := Lib.hid ((H1.out).grown hg (by have := (M2.out).new; have := (M2.out).old; omega))
  have H2 := Lib.hid (Held.low (⟨hl1, hl2⟩ : Held w3 _ 1 _ _ _) (M2.out).size)
  clear hl1 hl2
  have M3 : Hid (Fill w (w3.setCell ⟨w.heap.size + 1, 2, none⟩ (.slice B2 ks.length q2)) r w.heap.size A n c bs _ 36 #[.int .i64 0, .slice none 0 0, .slice none 0 0, .string ByteArray.empty, .slice none 0 0] #[.int .i64 a, .slice B1 ps.length q1, .slice B2 ks.length q2, .string ByteArray.empty, .slice none 0 0]) := (N2.out).put 2 (.slice B2 ks.length q2)
  replace H1 := Lib.hid ((H1.out).setCell (p := ⟨w.heap.size + 1, 2, none⟩) (by show w.heap.size + 1 < w.heap.size + 2; omega) (.slice B2 ks.length q2))
  replace H2 := Lib.hid ((H2.out).setCell (p := ⟨w.heap.size + 1, 2, none⟩) (by show w.heap.size + 1 < w.heap.size + 2; omega) (.slice B2 ks.length q2))
  have ck := (N2.out).box.cell 2
  have fk := (N2.out).box.frozen 2
  simp at ck
  clear hrd hg M2 N2
  go_wp2_with fail
  clear ck fk
  refine (text_any (M3.out).rd (M3.out).inn).mono ?_
  rintro e w4 ⟨t, rfl, K4, hrd, hg⟩
  replace K4 := Lib.hid K4
  have N3 := Lib.hid ((M3.out).next hrd hg)
  replace H1 := Lib.hid ((H1.out).grown hg (by have := (M3.out).new; have := (M3.out).old; omega))
  replace H2 := Lib.hid ((H2.out).grown hg (by have := (M3.out).new; have := (M3.out).old; omega))
  have M4 : Hid (Fill w (w4.setCell ⟨w.heap.size + 1, 3, none⟩ (.string t)) r w.heap.size A n c bs _ 36 #[.int .i64 0, .slice none 0 0, .slice none 0 0, .string ByteArray.empty, .slice none 0 0] #[.int .i64 a, .slice B1 ps.length q1, .slice B2 ks.length q2, .string t, .slice none 0 0]) := (N3.out).put 3 (.string t)
  replace H1 := Lib.hid ((H1.out).setCell (p := ⟨w.heap.size + 1, 3, none⟩) (by show w.heap.size + 1 < w.heap.size + 2; omega) (.string t))
  replace H2 := Lib.hid ((H2.out).setCell (p := ⟨w.heap.size + 1, 3, none⟩) (by show w.heap.size + 1 < w.heap.size + 2; omega) (.string t))
  have ck := (N3.out).box.cell 3
  have fk := (N3.out).box.frozen 3
  simp at ck
  clear hrd hg M3 N3
  go_wp2_with fail
  clear ck fk
  refine (cells_any (M4.out).rd (M4.out).inn).mono ?_
  rintro e w5 ⟨B3, q3, ws, rfl, K5, hl1, hl2, hrd, hg⟩
  replace K5 := Lib.hid K5
  have N4 := Lib.hid ((M4.out).next hrd hg)
  replace H1 := Lib.hid ((H1.out).grown hg (by have := (M4.out).new; have := (M4.out).old; omega))
  replace H2 := Lib.hid ((H2.out).grown hg (by have := (M4.out).new; have := (M4.out).old; omega))
  have H3 := Lib.hid (Held.low (⟨hl1, hl2⟩ : Held w5 _ 6 _ _ _) (M4.out).size)
  clear hl1 hl2
  have M5 : Hid (Fill w (w5.setCell ⟨w.heap.size + 1, 4, none⟩ (.slice B3 ws.length q3)) r w.heap.size A n c bs _ 36 #[.int .i64 0, .slice none 0 0, .slice none 0 0, .string ByteArray.empty, .slice none 0 0] #[.int .i64 a, .slice B1 ps.length q1, .slice B2 ks.length q2, .string t, .slice B3 ws.length q3]) := (N4.out).put 4 (.slice B3 ws.length q3)
  replace H1 := Lib.hid ((H1.out).setCell (p := ⟨w.heap.size + 1, 4, none⟩) (by show w.heap.size + 1 < w.heap.size + 2; omega) (.slice B3 ws.length q3))
  replace H2 := Lib.hid ((H2.out).setCell (p := ⟨w.heap.size + 1, 4, none⟩) (by show w.heap.size + 1 < w.heap.size + 2; omega) (.slice B3 ws.length q3))
  replace H3 := Lib.hid ((H3.out).setCell (p := ⟨w.heap.size + 1, 4, none⟩) (by show w.heap.size + 1 < w.heap.size + 2; omega) (.slice B3 ws.length q3))
  have c0 := (N4.out).box.cell 0
  have c1 := (N4.out).box.cell 1
  have c2 := (N4.out).box.cell 2
  have c3 := (N4.out).box.cell 3
  have c4 := (N4.out).box.cell 4
  have fk := (N4.out).box.frozen 4
  have o0 := (N4.out).out.cell 0
  have o1 := (N4.out).out.cell 1
  have o2 := (N4.out).out.cell 2
  have o3 := (N4.out).out.cell 3
  have o4 := (N4.out).out.cell 4
  have f0 := (N4.out).out.frozen 0
  have f1 := (N4.out).out.frozen 1
  have f2 := (N4.out).out.frozen 2
  have f3 := (N4.out).out.frozen 3
  have f4 := (N4.out).out.frozen 4
  simp at c0 c1 c2 c3 c4 o0 o1 o2 o3 o4
  clear hrd hg M4 N4
  go_wp2_with fail
  clear c0 c1 c2 c3 c4 o0 o1 o2 o3 o4 f0 f1 f2 f3 f4 fk
  have FM := ((((((M5.out).give 0 (.int .i64 a)).give 1 (.slice B1 ps.length q1)).give 2 (.slice B2 ks.length q2)).give 3 (.string t)).give 4 (.slice B3 ws.length q3))
  have FH1 := ((((((H1.out).setCell (p := ⟨w.heap.size, 0, none⟩) (by show w.heap.size < w.heap.size + 2; omega) (.int .i64 a)).setCell (p := ⟨w.heap.size, 1, none⟩) (by show w.heap.size < w.heap.size + 2; omega) (.slice B1 ps.length q1)).setCell (p := ⟨w.heap.size, 2, none⟩) (by show w.heap.size < w.heap.size + 2; omega) (.slice B2 ks.length q2)).setCell (p := ⟨w.heap.size, 3, none⟩) (by show w.heap.size < w.heap.size + 2; omega) (.string t)).setCell (p := ⟨w.heap.size, 4, none⟩) (by show w.heap.size < w.heap.size + 2; omega) (.slice B3 ws.length q3))
  have FH2 := ((((((H2.out).setCell (p := ⟨w.heap.size, 0, none⟩) (by show w.heap.size < w.heap.size + 2; omega) (.int .i64 a)).setCell (p := ⟨w.heap.size, 1, none⟩) (by show w.heap.size < w.heap.size + 2; omega) (.slice B1 ps.length q1)).setCell (p := ⟨w.heap.size, 2, none⟩) (by show w.heap.size < w.heap.size + 2; omega) (.slice B2 ks.length q2)).setCell (p := ⟨w.heap.size, 3, none⟩) (by show w.heap.size < w.heap.size + 2; omega) (.string t)).setCell (p := ⟨w.heap.size, 4, none⟩) (by show w.heap.size < w.heap.size + 2; omega) (.slice B3 ws.length q3))
  have FH3 := ((((((H3.out).setCell (p := ⟨w.heap.size, 0, none⟩) (by show w.heap.size < w.heap.size + 2; omega) (.int .i64 a)).setCell (p := ⟨w.heap.size, 1, none⟩) (by show w.heap.size < w.heap.size + 2; omega) (.slice B1 ps.length q1)).setCell (p := ⟨w.heap.size, 2, none⟩) (by show w.heap.size < w.heap.size + 2; omega) (.slice B2 ks.length q2)).setCell (p := ⟨w.heap.size, 3, none⟩) (by show w.heap.size < w.heap.size + 2; omega) (.string t)).setCell (p := ⟨w.heap.size, 4, none⟩) (by show w.heap.size < w.heap.size + 2; omega) (.slice B3 ws.length q3))
  have hch := commit_chain rfl (K1.out) rfl (K2.out) rfl (K3.out) rfl (K4.out) rfl (fun y hy => (((K5.out) y hy).1.trans (List.map_id ws)))
  refine bodyPost_ret (results_cell_row (P := Try.prog) rfl _ _ w.heap.size 36 #[.int .i64 a, .slice B1 ps.length q1, .slice B2 ks.length q2, .string t, .slice B3 ws.length q3] (0, 0) _ rfl FM.out Try.underlying36 rfl (by kernel_rfl)) rfl ?_
  refine ⟨⟨⟨a, ps, ks, t, ws⟩, B1, q1, B2, q2, B3, q3⟩, rfl, fun z hz => ?_, ?_, FM.gr⟩
  · have hz1 := hch.1 z hz
    refine ⟨hz1, ?_⟩
    obtain ⟨z1, z2⟩ := z
    subst hz1
    obtain ⟨p, hp, hz2⟩ := Option.bind_eq_some_iff.1 hz
    exact goodN_of hz2 hbl (FH1.low (by omega)) (FH2.low (by omega)) (FH3.low (by omega))
  · rw [hch.2]
    exact FM.rd
end Go.Proofs.Ytnnclopojiegfaa
