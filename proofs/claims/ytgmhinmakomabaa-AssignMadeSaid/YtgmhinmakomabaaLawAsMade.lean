/-
  AssignMade: the program's assignment of a matrix that is made of any numbers is the reference's, and both accept its certificate. No condition.
-/
import Derived.Test.YtgmhinmakomabaaAsP
import Derived.Test.YtgmhinmakomabaaAsS
import Derived.Test.YtgmhinmakomabaaAsT
import Derived.Test.YtgmhinmakomabaaAsV
namespace Go.Proofs.Ytgmhinmakomabaa.assignMade
open Go.ChangeShapes Go.WideShapes Go.ChangeAt Go.RowKit
open Go.ChangeMaps (open_string shut_string)
set_option linter.unusedVariables false

set_option maxRecDepth 100000 in
set_option maxHeartbeats 4000000 in
theorem walk (z : Int) (A0 : Option Addr) (nl cl : Nat) (l : List Int) (w : World) (v1 : (Lit.int .i64 z).wf = true) (hnl : nl ≤ maxLen) (hr : Ints w w.heap.size A0 nl l) (hli : ∀ x ∈ l, inI64 x) :
    Calls Try.prog 4 #[.int .i64 z, .slice A0 nl cl] w fun e w' => e = .returned (.bool true) ∧ Below w.heap.size w w' := by
  have HL := Lib.hid (llight_any A0 nl cl w hnl)
  have HAW := Lib.hid (fun w => awake_any w)
  by_cases hle : nl ≤ 120
  rotate_left
  · rw [decide_eq_false hle] at HL
    clear hr hli
    go_enter Try.func4, Try.ntmps4
    go_wp2_with fail
    refine (HL.out).mono ?_
    rintro e w1 ⟨rfl, rfl⟩
    go_wp2_with fail
    refine (HAW.out _).mono ?_
    rintro e w9 ⟨rfl, hb9⟩
    go_wp2_with fail
    go_ret
    exact ⟨rfl, hb9⟩
  rw [decide_eq_true hle] at HL
  have HM := Lib.hid (fun w => mod_any z 9 w (by omega) (by omega) (wf_i64 v1).1 (wf_i64 v1).2)
  obtain ⟨n, hm1, hm2⟩ : ∃ n : Nat, z % 9 = n ∧ n ≤ 9 := ⟨(z % 9).toNat, by omega, by omega⟩
  rw [hm1] at HM
  have HX := Lib.hid (lawMatrix_any n A0 nl cl l w hm2 (by omega) hr hli)
  clear hm1 hr hli v1
  go_enter Try.func4, Try.ntmps4
  go_wp2_with fail
  refine (HL.out).mono ?_
  rintro e w1 ⟨rfl, rfl⟩
  go_wp2_with fail
  refine (HM.out _).mono ?_
  rintro e w1 ⟨rfl, rfl⟩
  go_wp2_with fail
  refine (HX.out).mono ?_
  rintro e wm ⟨A, m, rfl, hmat, hlen, hmb, hbm⟩
  have HBM := Lib.hid hbm
  have hwm := hbm.size
  have HS := Lib.hid (solve_yes wm A n n m hmat hmb)
  have HR : Hid (∀ w', Below wm.heap.size wm w' → Calls Try.prog 11 #[.slice A n n] w' (RSolPost w' n (mget m))) := fun w' hb => refSolve_yes w' A n n m ((hmat.below hb).more hb.size) hmb
  have HMT : Hid (∀ w', Below wm.heap.size wm w' → Mat w' w'.heap.size A n m) := fun w' hb => (hmat.below hb).more hb.size
  have HMB := Lib.hid hmb
  have HLN := Lib.hid hlen
  clear hmat hlen hmb hbm HX HM HL
  go_wp2_with fail
  refine (HS.out).mono ?_
  rintro e w1 ⟨bt, bu, bv, cost, tt, u, v, rfl, hf, hfe, hti, hu, hv, hc, k1, k2, k3, d1, d2, d3, l1, l2, l3, hb1⟩
  have HV : Hid (verB m n n n (fun i => (tt i : Int)) u v cost = true) := verB_true HMB.out HLN.out (fun _ _ => rfl) hf hfe hti hu hv hc
  have HFI := Lib.hid hf
  have HCO := Lib.hid hc
  have HB1 : Hid (Below wm.heap.size wm (w1.alloc (Obj.cells #[.slice (some ⟨bt, 0, none⟩) n n, .int .i64 cost, .slice (some ⟨bu, 0, none⟩) n n, .slice (some ⟨bv, 0, none⟩) n n] 27))) := hb1.alloc hb1.size _
  have K1 := Lib.hid k1
  have K2 := Lib.hid k2
  have K3 := Lib.hid k3
  clear hf hfe hti hu hv hc k1 k2 k3 d1 d2 d3 l1 l2 l3 hb1 HS
  go_wp2_with fail
  refine (HR.out _ HB1.out).mono ?_
  rintro e w2 ⟨bt', bu', bv', o, cost', tt', u', v', x0, y0, rfl, _, hf, _, _, _, _, hc, k1, _, _, _, _, _, _, _, _, hb2⟩
  have huq := HFI.out.unique hf
  have hcc : cost' = cost := by rw [HCO.out, hc]; exact sumTo_congr fun i hi => by rw [huq i hi]
  subst hcc
  have hx := Blk.below (Blk.new w1 27 #[.slice (some ⟨bt, 0, none⟩) n n, .int .i64 cost', .slice (some ⟨bu, 0, none⟩) n n, .slice (some ⟨bv, 0, none⟩) n n]) hb2 (by simp)
  have hz2 : w1.heap.size + 1 ≤ w2.heap.size := by have := hb2.size; simpa using this
  obtain ⟨wy, hwy⟩ : ∃ wy, wy = w2.alloc (Obj.cells #[.slice (some ⟨bt', 0, none⟩) n n, .int .i64 cost', .slice (some ⟨bu', o, none⟩) n n, .slice (some ⟨bv', o, none⟩) n n] 27) := ⟨_, rfl⟩
  have hb12 : Below w1.heap.size w1 wy := by rw [hwy]; exact ((((Below.refl _ w1).alloc (Nat.le_refl _) _).trans (hb2.mono (by simp))).alloc (by omega) _)
  have HB2 : Hid (Below wm.heap.size wm wy) := by rw [hwy]; exact (HB1.out.trans (hb2.mono HB1.out.size)).alloc (Nat.le_trans HB1.out.size hb2.size) _
  have hzy : w1.heap.size ≤ wy.heap.size := hb12.size
  have hyb : Blk wy w2.heap.size 27 #[.slice (some ⟨bt', 0, none⟩) n n, .int .i64 cost', .slice (some ⟨bu', o, none⟩) n n, .slice (some ⟨bv', o, none⟩) n n] := by rw [hwy]; exact Blk.new _ _ _
  have hty : IVec wy bt' n (fun i => (tt' i : Int)) := by rw [hwy]; exact Vec.alloc k1 _
  have HSI : Hid (∀ w', Below wy.heap.size wy w' → Calls Try.prog 12 #[.slice (some ⟨bt, 0, none⟩) n n, .slice (some ⟨bt', 0, none⟩) n n] w' (QuietP w' (.bool true))) := fun w' hb =>
    sameInts_eq _ n n _ _ n _ (fun i => (tt i : Int)) (fun i => (tt' i : Int)) w' ((IVec.fn K1.out).below (hb12.trans (hb.mono hzy))) ((IVec.fn hty).below hb) (by omega) (fun i hi => by rw [huq i hi])
  have HAS : Hid (∀ w', Below wy.heap.size wy w' → Asg w' w'.heap.size (some ⟨bt, 0, none⟩) n n (fun i => (tt i : Int)) (some ⟨bu, 0, none⟩) n n u (some ⟨bv, 0, none⟩) n n v) := fun w' hb => by
    have hb' : Below w1.heap.size w1 w' := hb12.trans (hb.mono hzy)
    exact ⟨((IVec.fn K1.out).below hb').more hb'.size, ((IVec.fn K2.out).below hb').more hb'.size, ((IVec.fn K3.out).below hb').more hb'.size, Nat.le_refl _, Nat.le_refl _, by omega, by omega, by omega⟩
  have HRV : Hid (∀ w', Below wy.heap.size wy w' → Calls Try.prog 13 #[.slice A n n, .agg #[.slice (some ⟨bt, 0, none⟩) n n, .int .i64 cost', .slice (some ⟨bu, 0, none⟩) n n, .slice (some ⟨bv, 0, none⟩) n n]] w' (VerPost w' true)) := fun w' hb => by
    have h1 := refVerify_any w' A n n m (some ⟨bt, 0, none⟩) n n (fun i => (tt i : Int)) cost' (some ⟨bu, 0, none⟩) n n u (some ⟨bv, 0, none⟩) n n v (HMT.out w' (HB2.out.trans (hb.mono HB2.out.size))) (HAS.out w' hb) (Nat.le_refl _)
    rw [HV.out] at h1
    exact h1
  have HPV : Hid (∀ w', Below wy.heap.size wy w' → Calls Try.prog 17 #[.slice A n n, .agg #[.slice (some ⟨bt, 0, none⟩) n n, .int .i64 cost', .slice (some ⟨bu, 0, none⟩) n n, .slice (some ⟨bv, 0, none⟩) n n]] w' (VerPost w' true)) := fun w' hb => by
    have h1 := verify_any w' A n n m (some ⟨bt, 0, none⟩) n n (fun i => (tt i : Int)) cost' (some ⟨bu, 0, none⟩) n n u (some ⟨bv, 0, none⟩) n n v (HMT.out w' (HB2.out.trans (hb.mono HB2.out.size))) (HAS.out w' hb)
    rw [HV.out] at h1
    exact h1
  have HWY := Lib.hid hwy
  have HXB : Hid (∀ w', Below wy.heap.size wy w' → Blk w' w1.heap.size 27 #[.slice (some ⟨bt, 0, none⟩) n n, .int .i64 cost', .slice (some ⟨bu, 0, none⟩) n n, .slice (some ⟨bv, 0, none⟩) n n]) := fun w' hb => by
    have h1 : Blk wy w1.heap.size 27 #[.slice (some ⟨bt, 0, none⟩) n n, .int .i64 cost', .slice (some ⟨bu, 0, none⟩) n n, .slice (some ⟨bv, 0, none⟩) n n] := by rw [hwy]; exact hx.alloc _
    exact h1.below hb h1.lt
  have HYB : Hid (∀ w', Below wy.heap.size wy w' → Blk w' w2.heap.size 27 #[.slice (some ⟨bt', 0, none⟩) n n, .int .i64 cost', .slice (some ⟨bu', o, none⟩) n n, .slice (some ⟨bv', o, none⟩) n n]) := fun w' hb => hyb.below hb hyb.lt
  clear hf hc k1 huq hx hb2 hb12 hty hwy hzy hyb HR HB1 HCO HFI HMT K1 K2 K3 HV HMB HLN HAS
  go_wp2_with fail
  rw [← HWY.out]
  refine (HAW.out _).mono ?_
  rintro e w3 ⟨rfl, hb3⟩
  have hk := HXB.out w3 hb3
  have r0 := hk.cell 0
  have r1 := hk.cell 1
  have r2 := hk.cell 2
  have r3 := hk.cell 3
  simp at r0 r1 r2 r3
  have hky := HYB.out w3 hb3
  have y0' := hky.cell 0
  have y1' := hky.cell 1
  simp at y0' y1'
  have hlt1 := hk.lt
  have hlt2 := hky.lt
  have HB3 := Lib.hid hb3
  clear hb3 hk hky
  go_wp2_with fail
  refine (HSI.out _ HB3.out).mono ?_
  rintro e w4 ⟨rfl, d, rfl⟩
  have hb4 : Below wy.heap.size wy (w3.drewN d) := below_drewN HB3.out d
  have HB4 := Lib.hid hb4
  clear hb4 HSI y0' y1' hlt2 HYB
  go_wp2_with fail
  refine (HRV.out _ HB4.out).mono ?_
  rintro e w5 ⟨rfl, hb5⟩
  have hb5' : Below wy.heap.size wy w5 := HB4.out.trans (hb5.mono HB4.out.size)
  have hk5 := HXB.out w5 hb5'
  have s0 := hk5.cell 0
  have s1 := hk5.cell 1
  have s2 := hk5.cell 2
  have s3 := hk5.cell 3
  simp at s0 s1 s2 s3
  have HB5 := Lib.hid hb5'
  clear hb5 hb5' hk5 r0 r1 r2 r3 HB4 HB3 HRV
  go_wp2_with fail
  refine (HPV.out _ HB5.out).mono ?_
  rintro e w6 ⟨rfl, hb6⟩
  have HE : Hid (Below w.heap.size w w6) := HBM.out.trans ((HB2.out.trans ((HB5.out.trans (hb6.mono HB5.out.size)).mono HB2.out.size)).mono HBM.out.size)
  clear hb6
  go_wp2_with fail
  go_ret
  exact ⟨rfl, HE.out⟩

theorem own : ownKnob Try.prog.godebug = none := by kernel_rfl
theorem laidOut : laidOutB Try.prog = true := by kernel_rfl
theorem specN (H : Type) (ds : List (DataW H)) (h : ds.length = 2) : Rows.assignMadeSpec.fn H (ds ++ []) = { results := [.lit (.bool true)], args := ds } := by
  match ds, h with
  | [_, _], _ => rfl

set_option maxRecDepth 100000 in
theorem lifted (os : Os) (started : os.Started) (H : Type) (enc : TypeId × Value → H) :
    ReturnsInHanded {} Try.checked os 4 .any (Rows.assignMadeSpec.pre6 enc Try.prog Try.f4 Rows.assignMadeRow.domain false) (Rows.assignMadeSpec.post enc Try.prog Try.f4 false true false false) := by
  refine law_of_walk (C := Try.checked) own started (by kernel_rfl) Try.func4 rfl rfl Try.underlying4 laidOut (by kernel_rfl) (fun ds h => specN H ds (h.trans (by kernel_rfl)))
    (ChangeSpec.witness6 (enc := enc) (C := Try.checked) false ⟨#[], #[.int .i64 0, .slice none 0 0], []⟩ 8 (by kernel_rfl) (by kernel_rfl) (by kernel_rfl) (by kernel_rfl)) ?_
  intro W base args ds p hval hA hsz
  have hval' : ∀ (j : Nat) t v, Try.f4.params[j]? = some t → args[j]? = some v → Value.okWide Try.prog W .any base t v := hval
  rw [Try.params4] at hval' hA hsz
  obtain ⟨v0, vs0, d0, ds0, p0, q0, hargs, rfl, rfl, h0, r0⟩ := trodAll_cons hA
  obtain ⟨v1, vs1, d1, ds1, p1, q1, rfl, rfl, rfl, h1, r1⟩ := trodAll_cons r0
  obtain ⟨rfl, rfl, rfl⟩ := trodAll_nil r1
  obtain rfl : args = #[v0, v1] := by cases args; simp_all
  obtain ⟨a0, rfl, rfl, rfl, w0⟩ := open_int Try.underlying3 (hval' 0 3 v0 rfl rfl) h0
  obtain ⟨a1, len1, cap1, rfl⟩ := okWide_slice Try.underlying25 (hval' 1 25 v1 rfl rfl)
  obtain ⟨hw1, hc1, hm1, l1, hr1, hl1⟩ := open_i64s Try.underlying25 Try.underlying3 (by kernel_rfl) h1
  have hlen1 := len_reach hsz (j := 1) (t := 25) rfl rfl Try.underlying25 (of_decide_eq_true (by kernel_rfl)) hw1
  exact walk a0 a1 len1 cap1 l1 W w0 (Nat.le_trans hc1 hm1) hr1 hl1

theorem proved : Rows.AssignMadeSaid :=
  OpenClaim.holds_of_wide 4 Try.f4 rfl rfl rfl rfl rfl rfl rfl ⟨rfl, rfl, rfl, rfl, rfl⟩ rfl rfl rfl rfl rfl (by kernel_rfl) Try.func4 (by kernel_rfl)
    (of_decide_eq_true (by kernel_rfl)) (by unfold Func.isWrapper; first | (rw [if_pos (by decide +kernel)]; kernel_rfl) | (rw [if_neg (by decide +kernel)]; exact ⟨rfl, rfl⟩))
    (fun os started H enc _ => lifted os started H enc)
end Go.Proofs.Ytgmhinmakomabaa.assignMade
