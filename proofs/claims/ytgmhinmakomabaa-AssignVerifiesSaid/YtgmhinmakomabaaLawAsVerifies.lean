/-
  AssignVerifies: which certificates are accepted, any ones, and right ones with numbers changed. No condition.
-/
import Derived.Test.YtgmhinmakomabaaAsTc
import Derived.Test.YtgmhinmakomabaaAsZa
import Derived.Test.YtgmhinmakomabaaAsT
import Derived.Test.YtgmhinmakomabaaTail
import Derived.Deep.RegionLaw
namespace Go.Proofs.Ytgmhinmakomabaa.assignVerifies
open Go.ChangeShapes Go.WideShapes Go.ChangeAt Go.RowKit
open Go.ChangeMaps (open_string shut_string)
set_option linter.unusedVariables false

set_option maxRecDepth 100000 in
set_option maxHeartbeats 16000000 in
theorem walk (z : Int) (A0 : Option Addr) (nl cl : Nat) (l : List Int) (At : Option Addr) (nt ct : Nat) (xr : Int) (Au : Option Addr) (nu cu : Nat) (Av : Option Addr) (nv cv : Nat) (tr ur vr : Nat → Int) (za zb : Int) (w : World) (v1 : (Lit.int .i64 z).wf = true) (hnl : nl ≤ maxLen) (hr : Ints w w.heap.size A0 nl l) (hli : ∀ x ∈ l, inI64 x)
    (hnt : nt ≤ ct) (hnt' : ct ≤ maxLen) (hnu : nu ≤ cu) (hnu' : cu ≤ maxLen) (hnv : nv ≤ cv) (hnv' : cv ≤ maxLen) (ht : Fn w w.heap.size At nt tr) (hu : Fn w w.heap.size Au nu ur) (hv : Fn w w.heap.size Av nv vr) (va : (Lit.int .i64 za).wf = true) (vb : (Lit.int .i64 zb).wf = true) :
    Calls Try.prog 5 #[.int .i64 z, .slice A0 nl cl, .agg #[.slice At nt ct, .int .i64 xr, .slice Au nu cu, .slice Av nv cv], .int .i64 za, .int .i64 zb] w fun e w' => e = .returned (.bool true) ∧ Below w.heap.size w w' := by
  have HAW := Lib.hid (fun w => awake_any w)
  obtain ⟨wb, hwb⟩ : ∃ wb, wb = w.alloc (.cells #[.slice At nt ct, .int .i64 xr, .slice Au nu cu, .slice Av nv cv] 27) := ⟨_, rfl⟩
  have hbb : Below w.heap.size w wb := by rw [hwb]; exact (Below.refl _ w).alloc (Nat.le_refl _) _
  have hxb : Blk wb w.heap.size 27 #[.slice At nt ct, .int .i64 xr, .slice Au nu cu, .slice Av nv cv] := by rw [hwb]; exact Blk.new w _ _
  have HL := Lib.hid (llight_any A0 nl cl wb hnl)
  have b0 := hxb.cell 0
  have b2 := hxb.cell 2
  have b3 := hxb.cell 3
  simp at b0 b2 b3
  have hsz := hbb.size
  have HR := Lib.hid ((hr.below hbb).more hsz)
  have HT := Lib.hid ((ht.below hbb).more hsz)
  have HU := Lib.hid ((hu.below hbb).more hsz)
  have HVV := Lib.hid ((hv.below hbb).more hsz)
  have HXB := Lib.hid hxb
  have HBB := Lib.hid hbb
  have HWB := Lib.hid hwb
  have HLI := Lib.hid hli
  have hgt := hxb.lt
  unfold maxLen at hnl hnt' hnu' hnv'
  clear hr ht hu hv hxb hbb hwb hli hsz
  by_cases hle : nl ≤ 120 ∧ nt ≤ 60 ∧ nu ≤ 60 ∧ nv ≤ 60
  rotate_left
  · by_cases k1 : nl ≤ 120
    · rw [decide_eq_true k1] at HL
      by_cases k2 : 60 < nt
      · have d2 : decide (60 < nt) = true := decide_eq_true k2
        have d2' : decide ((60 : Int) < (nt : Int)) = true := decide_eq_true (by omega)
        go_enter Try.func5, Try.ntmps5
        go_wp2_with fail
        rw [← HWB.out]
        refine (HL.out).mono ?_
        rintro e w0 ⟨rfl, rfl⟩
        go_wp2_with fail
        refine (HAW.out _).mono ?_
        rintro e w9 ⟨rfl, hb9⟩
        have HB9 : Hid (Below w.heap.size w w9) := HBB.out.trans (hb9.mono HBB.out.size)
        clear hb9
        go_wp2_with fail
        go_ret
        exact ⟨rfl, HB9.out⟩
      · have d2 : decide (60 < nt) = false := decide_eq_false k2
        have d2' : decide ((60 : Int) < (nt : Int)) = false := decide_eq_false (by omega)
        by_cases k3 : 60 < nu
        · have d3 : decide (60 < nu) = true := decide_eq_true k3
          have d3' : decide ((60 : Int) < (nu : Int)) = true := decide_eq_true (by omega)
          go_enter Try.func5, Try.ntmps5
          go_wp2_with fail
          rw [← HWB.out]
          refine (HL.out).mono ?_
          rintro e w0 ⟨rfl, rfl⟩
          go_wp2_with fail
          refine (HAW.out _).mono ?_
          rintro e w9 ⟨rfl, hb9⟩
          have HB9 : Hid (Below w.heap.size w w9) := HBB.out.trans (hb9.mono HBB.out.size)
          clear hb9
          go_wp2_with fail
          go_ret
          exact ⟨rfl, HB9.out⟩
        · have d3 : decide (60 < nu) = false := decide_eq_false k3
          have d3' : decide ((60 : Int) < (nu : Int)) = false := decide_eq_false (by omega)
          have k4 : 60 < nv := by omega
          have d4 : decide (60 < nv) = true := decide_eq_true k4
          have d4' : decide ((60 : Int) < (nv : Int)) = true := decide_eq_true (by omega)
          go_enter Try.func5, Try.ntmps5
          go_wp2_with fail
          rw [← HWB.out]
          refine (HL.out).mono ?_
          rintro e w0 ⟨rfl, rfl⟩
          go_wp2_with fail
          refine (HAW.out _).mono ?_
          rintro e w9 ⟨rfl, hb9⟩
          have HB9 : Hid (Below w.heap.size w w9) := HBB.out.trans (hb9.mono HBB.out.size)
          clear hb9
          go_wp2_with fail
          go_ret
          exact ⟨rfl, HB9.out⟩
    · rw [decide_eq_false k1] at HL
      go_enter Try.func5, Try.ntmps5
      go_wp2_with fail
      rw [← HWB.out]
      refine (HL.out).mono ?_
      rintro e w0 ⟨rfl, rfl⟩
      go_wp2_with fail
      refine (HAW.out _).mono ?_
      rintro e w9 ⟨rfl, hb9⟩
      have HB9 : Hid (Below w.heap.size w w9) := HBB.out.trans (hb9.mono HBB.out.size)
      clear hb9
      go_wp2_with fail
      go_ret
      exact ⟨rfl, HB9.out⟩
  obtain ⟨k1, k2, k3, k4⟩ := hle
  rw [decide_eq_true k1] at HL
  have d2 : decide (60 < nt) = false := decide_eq_false (by omega)
  have d2' : decide ((60 : Int) < (nt : Int)) = false := decide_eq_false (by omega)
  have d3 : decide (60 < nu) = false := decide_eq_false (by omega)
  have d3' : decide ((60 : Int) < (nu : Int)) = false := decide_eq_false (by omega)
  have d4 : decide (60 < nv) = false := decide_eq_false (by omega)
  have d4' : decide ((60 : Int) < (nv : Int)) = false := decide_eq_false (by omega)
  have HM := Lib.hid (fun w => mod_any z 7 w (by omega) (by omega) (wf_i64 v1).1 (wf_i64 v1).2)
  have HMY := Lib.hid (fun w => mod_any zb 5 w (by omega) (by omega) (wf_i64 vb).1 (wf_i64 vb).2)
  have WA := Lib.hid (wf_i64 va)
  obtain ⟨n, hm1, hm2⟩ : ∃ n : Nat, z % 7 = n ∧ n ≤ 6 := ⟨(z % 7).toNat, by omega, by omega⟩
  obtain ⟨y, hy, hy0, hy1⟩ : ∃ y, zb % 5 = y ∧ 0 ≤ y ∧ y < 5 := ⟨_, rfl, by omega, by omega⟩
  rw [hm1] at HM
  rw [hy] at HMY
  have HX := Lib.hid (lawMatrix_any n A0 nl cl l wb (by omega) (by omega) HR.out HLI.out)
  clear hm1 hy v1 va vb
  go_enter Try.func5, Try.ntmps5
  go_wp2_with fail
  rw [← HWB.out]
  refine (HL.out).mono ?_
  rintro e w1 ⟨rfl, rfl⟩
  go_wp2_with fail
  refine (HM.out _).mono ?_
  rintro e w1 ⟨rfl, rfl⟩
  go_wp2_with fail
  refine (HX.out).mono ?_
  rintro e wm ⟨A, m, rfl, hmat, hlen, hmb, hbm⟩
  have HRS := Lib.hid (refSolve_yes wm A n n m hmat hmb)
  have hbw : Below w.heap.size w wm := HBB.out.trans (hbm.mono HBB.out.size)
  have hxm := HXB.out.below hbm HXB.out.lt
  have HBW := Lib.hid hbw
  have HXM := Lib.hid hxm
  have HMT := Lib.hid hmat
  have HMB := Lib.hid hmb
  have HLN := Lib.hid hlen
  have HBM := Lib.hid hbm
  have hgm := hxm.lt
  clear hmat hlen hmb hbm hbw hxm HX HM HL b0 b2 b3
  go_wp2_with fail
  refine (HRS.out).mono ?_
  rintro e w1 ⟨bt, bu, bv, o, cost, tt, u, v, x0, y0, rfl, ho, hf, hfe, hti, hu, hv, hc, k1, k2, k3, e1, e2, e3, l1, l2, l3, hb1⟩
  have HV : Hid (verB m n n n (fun i => (tt i : Int)) u v cost = true) := verB_true HMB.out HLN.out (fun _ _ => rfl) hf hfe hti hu hv hc
  obtain ⟨w2, hw2⟩ : ∃ w2, w2 = w1.alloc (Obj.cells #[.slice (some ⟨bt, 0, none⟩) n n, .int .i64 cost, .slice (some ⟨bu, o, none⟩) n n, .slice (some ⟨bv, o, none⟩) n n] 27) := ⟨_, rfl⟩
  have hst : VxSt wm w2 A n m w1.heap.size bt bu bv o (fun i => (tt i : Int)) u v x0 y0 cost := by
    rw [hw2]
    exact ⟨hb1.alloc hb1.size _, HMT.out, Blk.new _ _ _, Vec.alloc k1 _, Vec.alloc k2 _, Vec.alloc k3 _, ho, e1, e2, e3, l2, l3, hb1.size, by omega⟩
  have HST := Lib.hid hst
  have HUB := Lib.hid hu
  have HVB := Lib.hid hv
  have HW2 := Lib.hid hw2
  have hx2 := HXM.out.below hst.bel HXM.out.lt
  have hg2 := hst.box.lt
  have hgx := hx2.lt
  have HX2 := Lib.hid hx2
  have hraw : ∀ x : Fut w2, Asg x.to x.to.heap.size At nt ct tr Au nu cu ur Av nv cv vr := fun x => by
    have hb' : Below wb.heap.size wb x.to := HBM.out.trans ((hst.bel.trans (x.bel.mono hst.bel.size)).mono HBM.out.size)
    exact ⟨(HT.out.below hb').more hb'.size, (HU.out.below hb').more hb'.size, (HVV.out.below hb').more hb'.size, hnu, hnv, by omega, by omega, by omega⟩
  have hmm : ∀ x : Fut w2, Mat x.to x.to.heap.size A n m := fun x => ((HMT.out.below hst.bel).below (x.bel.mono hst.bel.size)).more (Nat.le_trans hst.bel.size x.bel.size)
  obtain ⟨rb, hrb⟩ : ∃ b, verB m nt nu nv tr ur vr xr = b := ⟨_, rfl⟩
  have HV1 := Lib.hid (fun x : Fut w2 => ver_fut (by have h := (hst.below x.bel).ver; rwa [HV.out] at h))
  have HV2 := Lib.hid (fun x : Fut w2 => ver_fut (by have h := verify_any x.to A n n m At nt ct tr xr Au nu cu ur Av nv cv vr (hmm x) (hraw x); rwa [hrb] at h))
  have HV3 := Lib.hid (fun x : Fut w2 => ver_fut (by have h := refVerify_any x.to A n n m At nt ct tr xr Au nu cu ur Av nv cv vr (hmm x) (hraw x) hnt; rwa [hrb] at h))
  have fx0 := fut_cell (w := w2) (g := w1.heap.size) (i := 0) (u := .slice (some ⟨bt, 0, none⟩) n n) (by rw [hst.box.cell]; rfl)
  have fx1 := fut_cell (w := w2) (g := w1.heap.size) (i := 1) (u := .int .i64 cost) (by rw [hst.box.cell]; rfl)
  have fx2 := fut_cell (w := w2) (g := w1.heap.size) (i := 2) (u := .slice (some ⟨bu, o, none⟩) n n) (by rw [hst.box.cell]; rfl)
  have fx3 := fut_cell (w := w2) (g := w1.heap.size) (i := 3) (u := .slice (some ⟨bv, o, none⟩) n n) (by rw [hst.box.cell]; rfl)
  have fr0 := fut_cell (w := w2) (g := w.heap.size) (i := 0) (u := .slice At nt ct) (by rw [hx2.cell]; rfl)
  have fr1 := fut_cell (w := w2) (g := w.heap.size) (i := 1) (u := .int .i64 xr) (by rw [hx2.cell]; rfl)
  have fr2 := fut_cell (w := w2) (g := w.heap.size) (i := 2) (u := .slice Au nu cu) (by rw [hx2.cell]; rfl)
  have fr3 := fut_cell (w := w2) (g := w.heap.size) (i := 3) (u := .slice Av nv cv) (by rw [hx2.cell]; rfl)
  clear ho hf hfe hti hu hv hc k1 k2 k3 e1 e2 e3 l1 l2 l3 hb1 hw2 hst hx2 hraw hmm hrb HRS
  go_wp2_with fail
  rw [← HW2.out]
  refine region_fut (by kernel_rfl) (by kernel_rfl) ?_
  repeat (go_big_quiet_step (first | (with_reducible exact HV1.out _) | (with_reducible exact HV2.out _) | (with_reducible exact HV3.out _)))
  refine wpQuiet_nil ?_
  intro w5 hw5
  obtain ⟨⟨w5, hb5⟩, rfl⟩ := hw5
  have HS5 := Lib.hid (HST.out.below hb5)
  have HB5 : Hid (Below w.heap.size w w5) := HBW.out.trans (HS5.out.bel.mono HBW.out.size)
  have hrr : (rb != rb) = false := by simp
  clear hb5 fx0 fx1 fx2 fx3 fr0 fr1 fr2 fr3 HV1 HV2 HV3 HST HX2 HW2
  go_wp2_with fail
  refine (HMY.out _).mono ?_
  rintro e w6 ⟨rfl, rfl⟩
  by_cases hn0 : 0 < n
  · have dn : decide (0 < n) = true := decide_eq_true hn0
    have dn' : decide ((0 : Int) < (n : Int)) = true := decide_eq_true (by omega)
    obtain ⟨i, hi1, hi2⟩ : ∃ i : Nat, za % (n : Int) = i ∧ i < n := ⟨(za % (n : Int)).toNat, by
      have := Int.emod_nonneg za (show (n : Int) ≠ 0 by omega)
      omega, by
      have := Int.emod_nonneg za (show (n : Int) ≠ 0 by omega)
      have := Int.emod_lt_of_pos za (show (0 : Int) < (n : Int) by omega)
      omega⟩
    obtain ⟨j, hj1, hj2⟩ : ∃ j : Nat, (y - 2) % (n : Int) = j ∧ j < n := ⟨((y - 2) % (n : Int)).toNat, by
      have := Int.emod_nonneg (y - 2) (show (n : Int) ≠ 0 by omega)
      omega, by
      have := Int.emod_nonneg (y - 2) (show (n : Int) ≠ 0 by omega)
      have := Int.emod_lt_of_pos (y - 2) (show (0 : Int) < (n : Int) by omega)
      omega⟩
    have QI := Lib.hid (fun w => mod_any za (n : Int) w (by omega) (by omega) WA.out.1 WA.out.2)
    have QJ := Lib.hid (fun w => mod_any (y - 2) (n : Int) w (by omega) (by omega) (by omega) (by omega))
    rw [hi1] at QI
    rw [hj1] at QJ
    have c0 := HS5.out.box.cell 2
    simp at c0
    have c1 := HS5.out.cellU hi2
    have f1 := Vec.frozen HS5.out.u (o + i)
    have o0 := fun x => only_cell c0 rfl x
    have o1 := fun x => only_cell c1 rfl x
    have ub1 := (HUB.out i hi2).1
    have ub2 := (HUB.out i hi2).2
    clear hi1 hj1
    go_wp2_with fail
    refine region_tail_only 14 (by kernel_rfl) (by kernel_rfl) _ rfl ?_
    simp only [List.take_succ_cons, List.take_zero, List.drop_succ_cons, List.drop_zero]
    repeat (go_big_quiet_step (first | (with_reducible exact only_call (QI.out _)) | (with_reducible exact only_call (QJ.out _))))
    refine wpQuiet_nil ?_
    clear o0 o1
    go_wp2_with fail
    all_goals
      generalize hw6 : World.drew _ = w6
      obtain ⟨z6, e6⟩ : ∃ z, w6 = (w5.setCell ⟨bu, o + i, none⟩ (.int .i64 z)).drew := ⟨_, hw6.symm⟩
      have hs6 := (HS5.out.setU hi2 z6).drew
      rw [← e6] at hs6
      generalize upd u i z6 = u6 at hs6
      have HS6 := Lib.hid hs6
      clear hs6 hw6 e6 HS5 c0 c1 f1 QI
      go_wp2_with fail
      have HV6 := Lib.hid (fun x : Fut w6 => ver_fut (HS6.out.below x.bel).ver)
      have HR6 := Lib.hid (fun x : Fut w6 => ver_fut (HS6.out.below x.bel).rver)
      obtain ⟨r6, hr6⟩ : ∃ b, verB m n n n (fun i => (tt i : Int)) u6 v cost = b := ⟨_, rfl⟩
      rw [hr6] at HV6 HR6
      have hrr6 : (r6 == r6) = true := by simp
      have fx0 := fut_cell (w := w6) (g := w1.heap.size) (i := 0) (u := .slice (some ⟨bt, 0, none⟩) n n) (by rw [HS6.out.box.cell]; rfl)
      have fx1 := fut_cell (w := w6) (g := w1.heap.size) (i := 1) (u := .int .i64 cost) (by rw [HS6.out.box.cell]; rfl)
      have fx2 := fut_cell (w := w6) (g := w1.heap.size) (i := 2) (u := .slice (some ⟨bu, o, none⟩) n n) (by rw [HS6.out.box.cell]; rfl)
      have fx3 := fut_cell (w := w6) (g := w1.heap.size) (i := 3) (u := .slice (some ⟨bv, o, none⟩) n n) (by rw [HS6.out.box.cell]; rfl)
      clear hr6
      refine region_fut (by kernel_rfl) (by kernel_rfl) ?_
      repeat (go_big_quiet_step (first | (with_reducible exact HV6.out _) | (with_reducible exact HR6.out _)))
      refine wpQuiet_nil ?_
      intro w6q hwq
      obtain ⟨⟨w6q, hbq⟩, rfl⟩ := hwq
      have HS6' := Lib.hid (HS6.out.below hbq)
      clear hbq fx0 fx1 fx2 fx3 HV6 HR6 HS6
      have c0 := HS6'.out.box.cell 3
      simp at c0
      have c1 := HS6'.out.cellV hj2
      have f1 := Vec.frozen HS6'.out.v (o + j)
      have o0 := fun x => only_cell c0 rfl x
      have o1 := fun x => only_cell c1 rfl x
      have ub3 := (HVB.out j hj2).1
      have ub4 := (HVB.out j hj2).2
      go_wp2_with fail
      refine region_tail_only 14 (by kernel_rfl) (by kernel_rfl) _ rfl ?_
      simp only [List.take_succ_cons, List.take_zero, List.drop_succ_cons, List.drop_zero]
      repeat (go_big_quiet_step (first | (with_reducible exact only_call (QJ.out _))))
      refine wpQuiet_nil ?_
      clear o0 o1
      go_wp2_with fail
      all_goals
        generalize hw8 : World.drew _ = w8
        obtain ⟨z8, e8⟩ : ∃ z, w8 = (w6q.setCell ⟨bv, o + j, none⟩ (.int .i64 z)).drew := ⟨_, hw8.symm⟩
        have hs8 := (HS6'.out.setV hj2 z8).drew
        rw [← e8] at hs8
        generalize upd v j z8 = v8 at hs8
        have HS8 := Lib.hid hs8
        clear hs8 hw8 e8 HS6' c0 c1 f1 QJ
        go_wp2_with fail
        have HV8 := Lib.hid (fun x : Fut w8 => ver_fut (HS8.out.below x.bel).ver)
        have HR8 := Lib.hid (fun x : Fut w8 => ver_fut (HS8.out.below x.bel).rver)
        obtain ⟨r8, hr8⟩ : ∃ b, verB m n n n (fun i => (tt i : Int)) u6 v8 cost = b := ⟨_, rfl⟩
        rw [hr8] at HV8 HR8
        have hrr8 : (r8 == r8) = true := by simp
        have fx0 := fut_cell (w := w8) (g := w1.heap.size) (i := 0) (u := .slice (some ⟨bt, 0, none⟩) n n) (by rw [HS8.out.box.cell]; rfl)
        have fx1 := fut_cell (w := w8) (g := w1.heap.size) (i := 1) (u := .int .i64 cost) (by rw [HS8.out.box.cell]; rfl)
        have fx2 := fut_cell (w := w8) (g := w1.heap.size) (i := 2) (u := .slice (some ⟨bu, o, none⟩) n n) (by rw [HS8.out.box.cell]; rfl)
        have fx3 := fut_cell (w := w8) (g := w1.heap.size) (i := 3) (u := .slice (some ⟨bv, o, none⟩) n n) (by rw [HS8.out.box.cell]; rfl)
        clear hr8
        refine region_fut (by kernel_rfl) (by kernel_rfl) ?_
        repeat (go_big_quiet_step (first | (with_reducible exact HV8.out _) | (with_reducible exact HR8.out _)))
        refine wpQuiet_nil ?_
        intro w8q hwq
        obtain ⟨⟨w8q, hbq⟩, rfl⟩ := hwq
        have HS8' := Lib.hid (HS8.out.below hbq)
        clear hbq fx0 fx1 fx2 fx3 HV8 HR8 HS8
        have c1 := HS8'.out.box.cell 1
        have f1 := HS8'.out.box.frozen 1
        simp at c1
        go_wp2_with fail
        generalize hw10 : World.setCell _ _ _ = w10
        obtain ⟨cost2, e10⟩ : ∃ z, w10 = w8q.setCell ⟨w1.heap.size, 1, none⟩ (.int .i64 z) := ⟨_, hw10.symm⟩
        have hs10 := HS8'.out.setC cost2
        rw [← e10] at hs10
        have HS10 := Lib.hid hs10
        clear hs10 hw10 e10 c1 f1 HS8'
        have HV10 := Lib.hid (fun x : Fut w10 => ver_fut (HS10.out.below x.bel).ver)
        have HR10 := Lib.hid (fun x : Fut w10 => ver_fut (HS10.out.below x.bel).rver)
        obtain ⟨r10, hr10⟩ : ∃ b, verB m n n n (fun i => (tt i : Int)) u6 v8 cost2 = b := ⟨_, rfl⟩
        rw [hr10] at HV10 HR10
        have hrr10 : (r10 == r10) = true := by simp
        have fx0 := fut_cell (w := w10) (g := w1.heap.size) (i := 0) (u := .slice (some ⟨bt, 0, none⟩) n n) (by rw [HS10.out.box.cell]; rfl)
        have fx1 := fut_cell (w := w10) (g := w1.heap.size) (i := 1) (u := .int .i64 cost2) (by rw [HS10.out.box.cell]; rfl)
        have fx2 := fut_cell (w := w10) (g := w1.heap.size) (i := 2) (u := .slice (some ⟨bu, o, none⟩) n n) (by rw [HS10.out.box.cell]; rfl)
        have fx3 := fut_cell (w := w10) (g := w1.heap.size) (i := 3) (u := .slice (some ⟨bv, o, none⟩) n n) (by rw [HS10.out.box.cell]; rfl)
        clear hr10
        refine region_fut (by kernel_rfl) (by kernel_rfl) ?_
        repeat (go_big_quiet_step (first | (with_reducible exact HV10.out _) | (with_reducible exact HR10.out _) | (with_reducible exact fut_call (HAW.out _))))
        refine wpQuiet_nil ?_
        intro w10q hwq
        obtain ⟨⟨w10q, hbq⟩, rfl⟩ := hwq
        have HS10' := Lib.hid (HS10.out.below hbq)
        clear hbq fx0 fx1 fx2 fx3 HV10 HR10 HS10
        have HE : Hid (Below w.heap.size w w10q) := HBW.out.trans (HS10'.out.bel.mono HBW.out.size)
        clear HS10'
        go_wp2_with fail
        go_ret
        exact ⟨rfl, HE.out⟩
  · have dn : decide (0 < n) = false := decide_eq_false hn0
    have dn' : decide ((0 : Int) < (n : Int)) = false := decide_eq_false (by omega)
    go_wp2_with fail
    have HV5 := Lib.hid (fun x : Fut w5 => ver_fut (HS5.out.below x.bel).ver)
    have HR5 := Lib.hid (fun x : Fut w5 => ver_fut (HS5.out.below x.bel).rver)
    obtain ⟨r5, hr5⟩ : ∃ b, verB m n n n (fun i => (tt i : Int)) u v cost = b := ⟨_, rfl⟩
    rw [hr5] at HV5 HR5
    have hrr5 : (r5 == r5) = true := by simp
    have fx0 := fut_cell (w := w5) (g := w1.heap.size) (i := 0) (u := .slice (some ⟨bt, 0, none⟩) n n) (by rw [HS5.out.box.cell]; rfl)
    have fx1 := fut_cell (w := w5) (g := w1.heap.size) (i := 1) (u := .int .i64 cost) (by rw [HS5.out.box.cell]; rfl)
    have fx2 := fut_cell (w := w5) (g := w1.heap.size) (i := 2) (u := .slice (some ⟨bu, o, none⟩) n n) (by rw [HS5.out.box.cell]; rfl)
    have fx3 := fut_cell (w := w5) (g := w1.heap.size) (i := 3) (u := .slice (some ⟨bv, o, none⟩) n n) (by rw [HS5.out.box.cell]; rfl)
    clear hr5
    refine region_fut (by kernel_rfl) (by kernel_rfl) ?_
    repeat (go_big_quiet_step (first | (with_reducible exact HV5.out _) | (with_reducible exact HR5.out _)))
    refine wpQuiet_nil ?_
    intro w5q hwq
    obtain ⟨⟨w5q, hbq⟩, rfl⟩ := hwq
    have HS5' := Lib.hid (HS5.out.below hbq)
    clear hbq fx0 fx1 fx2 fx3 HV5 HR5 HS5
    have HS7 := HS5'
    go_wp2_with fail
    have HV7 := Lib.hid (fun x : Fut w5q => ver_fut (HS7.out.below x.bel).ver)
    have HR7 := Lib.hid (fun x : Fut w5q => ver_fut (HS7.out.below x.bel).rver)
    obtain ⟨r7, hr7⟩ : ∃ b, verB m n n n (fun i => (tt i : Int)) u v cost = b := ⟨_, rfl⟩
    rw [hr7] at HV7 HR7
    have hrr7 : (r7 == r7) = true := by simp
    have fx0 := fut_cell (w := w5q) (g := w1.heap.size) (i := 0) (u := .slice (some ⟨bt, 0, none⟩) n n) (by rw [HS7.out.box.cell]; rfl)
    have fx1 := fut_cell (w := w5q) (g := w1.heap.size) (i := 1) (u := .int .i64 cost) (by rw [HS7.out.box.cell]; rfl)
    have fx2 := fut_cell (w := w5q) (g := w1.heap.size) (i := 2) (u := .slice (some ⟨bu, o, none⟩) n n) (by rw [HS7.out.box.cell]; rfl)
    have fx3 := fut_cell (w := w5q) (g := w1.heap.size) (i := 3) (u := .slice (some ⟨bv, o, none⟩) n n) (by rw [HS7.out.box.cell]; rfl)
    clear hr7
    refine region_fut (by kernel_rfl) (by kernel_rfl) ?_
    repeat (go_big_quiet_step (first | (with_reducible exact HV7.out _) | (with_reducible exact HR7.out _)))
    refine wpQuiet_nil ?_
    intro w7q hwq
    obtain ⟨⟨w7q, hbq⟩, rfl⟩ := hwq
    have HS7' := Lib.hid (HS7.out.below hbq)
    clear hbq fx0 fx1 fx2 fx3 HV7 HR7 HS7
    have c1 := HS7'.out.box.cell 1
    have f1 := HS7'.out.box.frozen 1
    simp at c1
    go_wp2_with fail
    generalize hw10 : World.setCell _ _ _ = w10
    obtain ⟨cost2, e10⟩ : ∃ z, w10 = w7q.setCell ⟨w1.heap.size, 1, none⟩ (.int .i64 z) := ⟨_, hw10.symm⟩
    have hs10 := HS7'.out.setC cost2
    rw [← e10] at hs10
    have HS10 := Lib.hid hs10
    clear hs10 hw10 e10 c1 f1 HS7'
    have HV10 := Lib.hid (fun x : Fut w10 => ver_fut (HS10.out.below x.bel).ver)
    have HR10 := Lib.hid (fun x : Fut w10 => ver_fut (HS10.out.below x.bel).rver)
    obtain ⟨r10, hr10⟩ : ∃ b, verB m n n n (fun i => (tt i : Int)) u v cost2 = b := ⟨_, rfl⟩
    rw [hr10] at HV10 HR10
    have hrr10 : (r10 == r10) = true := by simp
    have fx0 := fut_cell (w := w10) (g := w1.heap.size) (i := 0) (u := .slice (some ⟨bt, 0, none⟩) n n) (by rw [HS10.out.box.cell]; rfl)
    have fx1 := fut_cell (w := w10) (g := w1.heap.size) (i := 1) (u := .int .i64 cost2) (by rw [HS10.out.box.cell]; rfl)
    have fx2 := fut_cell (w := w10) (g := w1.heap.size) (i := 2) (u := .slice (some ⟨bu, o, none⟩) n n) (by rw [HS10.out.box.cell]; rfl)
    have fx3 := fut_cell (w := w10) (g := w1.heap.size) (i := 3) (u := .slice (some ⟨bv, o, none⟩) n n) (by rw [HS10.out.box.cell]; rfl)
    clear hr10
    refine region_fut (by kernel_rfl) (by kernel_rfl) ?_
    repeat (go_big_quiet_step (first | (with_reducible exact HV10.out _) | (with_reducible exact HR10.out _) | (with_reducible exact fut_call (HAW.out _))))
    refine wpQuiet_nil ?_
    intro w10q hwq
    obtain ⟨⟨w10q, hbq⟩, rfl⟩ := hwq
    have HS10' := Lib.hid (HS10.out.below hbq)
    clear hbq fx0 fx1 fx2 fx3 HV10 HR10 HS10
    have HE : Hid (Below w.heap.size w w10q) := HBW.out.trans (HS10'.out.bel.mono HBW.out.size)
    clear HS10'
    go_wp2_with fail
    go_ret
    exact ⟨rfl, HE.out⟩

theorem own : ownKnob Try.prog.godebug = none := by kernel_rfl
theorem laidOut : laidOutB Try.prog = true := by kernel_rfl
theorem specN (H : Type) (ds : List (DataW H)) (h : ds.length = 5) : Rows.assignVerifiesSpec.fn H (ds ++ []) = { results := [.lit (.bool true)], args := ds } := by
  match ds, h with
  | [_, _, _, _, _], _ => rfl

set_option maxRecDepth 100000 in
theorem lifted (os : Os) (started : os.Started) (H : Type) (enc : TypeId × Value → H) :
    ReturnsInHanded {} Try.checked os 5 .any (Rows.assignVerifiesSpec.pre6 enc Try.prog Try.f5 Rows.assignVerifiesRow.domain false) (Rows.assignVerifiesSpec.post enc Try.prog Try.f5 false true false false) := by
  refine law_of_walk (C := Try.checked) own started (by kernel_rfl) Try.func5 rfl rfl Try.underlying4 laidOut (by kernel_rfl) (fun ds h => specN H ds (h.trans (by kernel_rfl)))
    (ChangeSpec.witness6 (enc := enc) (C := Try.checked) false ⟨#[], #[.int .i64 0, .slice none 0 0, .agg #[.slice none 0 0, .int .i64 0, .slice none 0 0, .slice none 0 0], .int .i64 0, .int .i64 0], []⟩ 8 (by kernel_rfl) (by kernel_rfl) (by kernel_rfl) (by kernel_rfl)) ?_
  intro W base args ds p hval hA hsz
  have hval' : ∀ (j : Nat) t v, Try.f5.params[j]? = some t → args[j]? = some v → Value.okWide Try.prog W .any base t v := hval
  rw [Try.params5] at hval' hA hsz
  obtain ⟨v0, vs0, d0, ds0, p0, q0, hargs, rfl, rfl, h0, r0⟩ := trodAll_cons hA
  obtain ⟨v1, vs1, d1, ds1, p1, q1, rfl, rfl, rfl, h1, r1⟩ := trodAll_cons r0
  obtain ⟨v2, vs2, d2, ds2, p2, q2, rfl, rfl, rfl, h2, r2⟩ := trodAll_cons r1
  obtain ⟨v3, vs3, d3, ds3, p3, q3, rfl, rfl, rfl, h3, r3⟩ := trodAll_cons r2
  obtain ⟨v4, vs4, d4, ds4, p4, q4, rfl, rfl, rfl, h4, r4⟩ := trodAll_cons r3
  obtain ⟨rfl, rfl, rfl⟩ := trodAll_nil r4
  obtain rfl : args = #[v0, v1, v2, v3, v4] := by cases args; simp_all
  obtain ⟨a0, rfl, rfl, rfl, w0⟩ := open_int Try.underlying3 (hval' 0 3 v0 rfl rfl) h0
  obtain ⟨a1, len1, cap1, rfl⟩ := okWide_slice Try.underlying25 (hval' 1 25 v1 rfl rfl)
  obtain ⟨hw1, hc1, hm1, l1, hr1, hl1⟩ := open_i64s Try.underlying25 Try.underlying3 (by kernel_rfl) h1
  have hlen1 := len_reach hsz (j := 1) (t := 25) rfl rfl Try.underlying25 (of_decide_eq_true (by kernel_rfl)) hw1
  obtain ⟨At2, nt2, ct2, x2, Au2, nu2, cu2, Av2, nv2, cv2, t2, u2, v2', rfl, lt2, mt2, lu2, mu2, lv2, mv2, ft2, fu2, fv2⟩ := open_asg (hval' 2 27 v2 rfl rfl) h2
  obtain ⟨a3, rfl, rfl, rfl, w3⟩ := open_int Try.underlying3 (hval' 3 3 v3 rfl rfl) h3
  obtain ⟨a4, rfl, rfl, rfl, w4⟩ := open_int Try.underlying3 (hval' 4 3 v4 rfl rfl) h4
  exact walk a0 a1 len1 cap1 l1 At2 nt2 ct2 x2 Au2 nu2 cu2 Av2 nv2 cv2 t2 u2 v2' a3 a4 W w0 (Nat.le_trans hc1 hm1) hr1 hl1 lt2 mt2 lu2 mu2 lv2 mv2 ft2 fu2 fv2 w3 w4

theorem proved : Rows.AssignVerifiesSaid :=
  OpenClaim.holds_of_wide 5 Try.f5 rfl rfl rfl rfl rfl rfl rfl ⟨rfl, rfl, rfl, rfl, rfl⟩ rfl rfl rfl rfl rfl (by kernel_rfl) Try.func5 (by kernel_rfl)
    (of_decide_eq_true (by kernel_rfl)) (by unfold Func.isWrapper; first | (rw [if_pos (by decide +kernel)]; kernel_rfl) | (rw [if_neg (by decide +kernel)]; exact ⟨rfl, rfl⟩))
    (fun os started H enc _ => lifted os started H enc)
end Go.Proofs.Ytgmhinmakomabaa.assignVerifies
