/-
  AssignProves: whatever certificate is accepted, no assignment is cheaper than its cost. No condition.
-/
import Derived.Test.YtgmhinmakomabaaAsTb
import Derived.Test.YtgmhinmakomabaaAsTc
import Derived.Test.YtgmhinmakomabaaAsZa
import Derived.Deep.RegionHeld3
namespace Go.Proofs.Ytgmhinmakomabaa.assignProves
open Go.ChangeShapes Go.WideShapes Go.ChangeAt Go.RowKit
open Go.ChangeMaps (open_string shut_string)
set_option linter.unusedVariables false

theorem verB_least {m : List (List Int)} {nt nu nv n : Nat} {t u v : Nat → Int} {cost : Int} (h : verB m nt nu nv t u v cost = true) (hl : m.length = n) {s : Nat → Nat} (hs : Perfect n s) : cost ≤ costOf (mget m) s n := by
  unfold verB at h
  simp only [Bool.and_eq_true] at h
  subst hl
  exact verF_least h.2 hs

set_option maxRecDepth 100000 in
set_option maxHeartbeats 16000000 in
theorem walk (z : Int) (A0 : Option Addr) (nl cl : Nat) (l : List Int) (At : Option Addr) (nt ct : Nat) (xr : Int) (Au : Option Addr) (nu cu : Nat) (Av : Option Addr) (nv cv : Nat) (tr ur vr : Nat → Int) (A1 : Option Addr) (no co : Nat) (lo : List Int) (w : World) (v1 : (Lit.int .i64 z).wf = true) (hnl : nl ≤ maxLen) (hr : Ints w w.heap.size A0 nl l) (hli : ∀ x ∈ l, inI64 x)
    (hnt : nt ≤ ct) (hnt' : ct ≤ maxLen) (hnu : nu ≤ cu) (hnu' : cu ≤ maxLen) (hnv : nv ≤ cv) (hnv' : cv ≤ maxLen) (ht : Fn w w.heap.size At nt tr) (hu : Fn w w.heap.size Au nu ur) (hv : Fn w w.heap.size Av nv vr) (hno : no ≤ maxLen) (hro : Ints w w.heap.size A1 no lo) (hlo : ∀ x ∈ lo, inI64 x) :
    Calls Try.prog 7 #[.int .i64 z, .slice A0 nl cl, .agg #[.slice At nt ct, .int .i64 xr, .slice Au nu cu, .slice Av nv cv], .slice A1 no co] w fun e w' => e = .returned (.bool true) ∧ Below w.heap.size w w' := by
  have HAW := Lib.hid (fun w => awake_any w)
  obtain ⟨wb, hwb⟩ : ∃ wb, wb = w.alloc (.cells #[.slice At nt ct, .int .i64 xr, .slice Au nu cu, .slice Av nv cv] 27) := ⟨_, rfl⟩
  have hbb : Below w.heap.size w wb := by rw [hwb]; exact (Below.refl _ w).alloc (Nat.le_refl _) _
  have hxb : Blk wb w.heap.size 27 #[.slice At nt ct, .int .i64 xr, .slice Au nu cu, .slice Av nv cv] := by rw [hwb]; exact Blk.new w _ _
  have HL := Lib.hid (llight_any A0 nl cl wb hnl)
  have b0 := hxb.cell 0
  have b2 := hxb.cell 2
  have b3 := hxb.cell 3
  simp at b0 b2 b3
  have hsz := hbb.size
  have HR := Lib.hid ((hr.below hbb).more hsz)
  have HRO := Lib.hid ((hro.below hbb).more hsz)
  have HT := Lib.hid ((ht.below hbb).more hsz)
  have HU := Lib.hid ((hu.below hbb).more hsz)
  have HVV := Lib.hid ((hv.below hbb).more hsz)
  have HXB := Lib.hid hxb
  have HBB := Lib.hid hbb
  have HWB := Lib.hid hwb
  have HLI := Lib.hid hli
  have HLO := Lib.hid hlo
  have hgt := hxb.lt
  unfold maxLen at hnl hnt' hnu' hnv' hno
  clear hr ht hu hv hxb hbb hwb hli hsz hro hlo
  by_cases hle : nl ≤ 120 ∧ nt ≤ 60 ∧ nu ≤ 60 ∧ nv ≤ 60 ∧ no ≤ 60
  rotate_left
  · by_cases k1 : nl ≤ 120
    · rw [decide_eq_true k1] at HL
      by_cases k2 : 60 < nt
      · have d2 : decide (60 < nt) = true := decide_eq_true k2
        have d2' : decide ((60 : Int) < (nt : Int)) = true := decide_eq_true (by omega)
        go_enter Try.func7, Try.ntmps7
        go_wp2_with fail
        rw [← HWB.out]
        refine (HL.out).mono ?_
        rintro e w0 ⟨rfl, rfl⟩
        go_wp2_with fail
        refine (HAW.out _).mono ?_
        rintro e w9 ⟨rfl, hb9⟩
        have HB9 : Hid (Below w.heap.size w w9) := HBB.out.trans (hb9.mono HBB.out.size)
        clear hb9
        go_wp2_with fail
        go_ret
        exact ⟨rfl, HB9.out⟩
      · have d2 : decide (60 < nt) = false := decide_eq_false k2
        have d2' : decide ((60 : Int) < (nt : Int)) = false := decide_eq_false (by omega)
        by_cases k3 : 60 < nu
        · have d3 : decide (60 < nu) = true := decide_eq_true k3
          have d3' : decide ((60 : Int) < (nu : Int)) = true := decide_eq_true (by omega)
          go_enter Try.func7, Try.ntmps7
          go_wp2_with fail
          rw [← HWB.out]
          refine (HL.out).mono ?_
          rintro e w0 ⟨rfl, rfl⟩
          go_wp2_with fail
          refine (HAW.out _).mono ?_
          rintro e w9 ⟨rfl, hb9⟩
          have HB9 : Hid (Below w.heap.size w w9) := HBB.out.trans (hb9.mono HBB.out.size)
          clear hb9
          go_wp2_with fail
          go_ret
          exact ⟨rfl, HB9.out⟩
        · have d3 : decide (60 < nu) = false := decide_eq_false k3
          have d3' : decide ((60 : Int) < (nu : Int)) = false := decide_eq_false (by omega)
          by_cases k4 : 60 < nv
          · have d4 : decide (60 < nv) = true := decide_eq_true k4
            have d4' : decide ((60 : Int) < (nv : Int)) = true := decide_eq_true (by omega)
            go_enter Try.func7, Try.ntmps7
            go_wp2_with fail
            rw [← HWB.out]
            refine (HL.out).mono ?_
            rintro e w0 ⟨rfl, rfl⟩
            go_wp2_with fail
            refine (HAW.out _).mono ?_
            rintro e w9 ⟨rfl, hb9⟩
            have HB9 : Hid (Below w.heap.size w w9) := HBB.out.trans (hb9.mono HBB.out.size)
            clear hb9
            go_wp2_with fail
            go_ret
            exact ⟨rfl, HB9.out⟩
          · have d4 : decide (60 < nv) = false := decide_eq_false k4
            have d4' : decide ((60 : Int) < (nv : Int)) = false := decide_eq_false (by omega)
            have k5 : 60 < no := by omega
            have d5 : decide (60 < no) = true := decide_eq_true k5
            have d5' : decide ((60 : Int) < (no : Int)) = true := decide_eq_true (by omega)
            go_enter Try.func7, Try.ntmps7
            go_wp2_with fail
            rw [← HWB.out]
            refine (HL.out).mono ?_
            rintro e w0 ⟨rfl, rfl⟩
            go_wp2_with fail
            refine (HAW.out _).mono ?_
            rintro e w9 ⟨rfl, hb9⟩
            have HB9 : Hid (Below w.heap.size w w9) := HBB.out.trans (hb9.mono HBB.out.size)
            clear hb9
            go_wp2_with fail
            go_ret
            exact ⟨rfl, HB9.out⟩
    · rw [decide_eq_false k1] at HL
      go_enter Try.func7, Try.ntmps7
      go_wp2_with fail
      rw [← HWB.out]
      refine (HL.out).mono ?_
      rintro e w0 ⟨rfl, rfl⟩
      go_wp2_with fail
      refine (HAW.out _).mono ?_
      rintro e w9 ⟨rfl, hb9⟩
      have HB9 : Hid (Below w.heap.size w w9) := HBB.out.trans (hb9.mono HBB.out.size)
      clear hb9
      go_wp2_with fail
      go_ret
      exact ⟨rfl, HB9.out⟩
  obtain ⟨k1, k2, k3, k4, k5⟩ := hle
  rw [decide_eq_true k1] at HL
  have d2 : decide (60 < nt) = false := decide_eq_false (by omega)
  have d2' : decide ((60 : Int) < (nt : Int)) = false := decide_eq_false (by omega)
  have d3 : decide (60 < nu) = false := decide_eq_false (by omega)
  have d3' : decide ((60 : Int) < (nu : Int)) = false := decide_eq_false (by omega)
  have d4 : decide (60 < nv) = false := decide_eq_false (by omega)
  have d4' : decide ((60 : Int) < (nv : Int)) = false := decide_eq_false (by omega)
  have d5 : decide (60 < no) = false := decide_eq_false (by omega)
  have d5' : decide ((60 : Int) < (no : Int)) = false := decide_eq_false (by omega)
  have HM := Lib.hid (fun w => mod_any z 4 w (by omega) (by omega) (wf_i64 v1).1 (wf_i64 v1).2)
  obtain ⟨n, hm1, hm2⟩ : ∃ n : Nat, z % 4 = n ∧ n ≤ 3 := ⟨(z % 4).toNat, by omega, by omega⟩
  rw [hm1] at HM
  have HX := Lib.hid (lawMatrix_any n A0 nl cl l wb (by omega) (by omega) HR.out HLI.out)
  clear hm1 v1
  go_enter Try.func7, Try.ntmps7
  go_wp2_with fail
  rw [← HWB.out]
  refine (HL.out).mono ?_
  rintro e w1 ⟨rfl, rfl⟩
  go_wp2_with fail
  refine (HM.out _).mono ?_
  rintro e w1 ⟨rfl, rfl⟩
  go_wp2_with fail
  refine (HX.out).mono ?_
  rintro e wm ⟨A, m, rfl, hmat, hlen, hmb, hbm⟩
  have hbw : Below w.heap.size w wm := HBB.out.trans (hbm.mono HBB.out.size)
  have hxm := HXB.out.below hbm HXB.out.lt
  have hraw : ∀ x : Fut wm, Asg x.to x.to.heap.size At nt ct tr Au nu cu ur Av nv cv vr := fun x => by
    have hb' : Below wb.heap.size wb x.to := hbm.trans (x.bel.mono hbm.size)
    exact ⟨(HT.out.below hb').more hb'.size, (HU.out.below hb').more hb'.size, (HVV.out.below hb').more hb'.size, hnu, hnv, by omega, by omega, by omega⟩
  have hmm : ∀ x : Fut wm, Mat x.to x.to.heap.size A n m := fun x => (hmat.below x.bel).more x.bel.size
  obtain ⟨rb, hrb⟩ : ∃ b, verB m nt nu nv tr ur vr xr = b := ⟨_, rfl⟩
  have hver : ∀ x : Fut wm, Calls Try.prog 17 #[.slice A n n, .agg #[.slice At nt ct, .int .i64 xr, .slice Au nu cu, .slice Av nv cv]] x.to (VerPost x.to rb) := fun x => by
    have h := verify_any x.to A n n m At nt ct tr xr Au nu cu ur Av nv cv vr (hmm x) (hraw x)
    rwa [hrb] at h
  have HRB := Lib.hid hrb
  have HLN := Lib.hid hlen
  have HMB := Lib.hid hmb
  have HBW := Lib.hid hbw
  have HXM := Lib.hid hxm
  have HMM := Lib.hid hmm
  have HVE := Lib.hid hver
  have HRM : Hid (∀ x : Fut wm, Ints x.to x.to.heap.size A1 no lo) := fun x => Reads.more (Reads.below HRO.out (hbm.trans (x.bel.mono hbm.size))) (Nat.le_trans hbm.size x.bel.size)
  have fr0 := fut_cell (w := wm) (g := w.heap.size) (i := 0) (u := .slice At nt ct) (by rw [hxm.cell]; rfl)
  have fr1 := fut_cell (w := wm) (g := w.heap.size) (i := 1) (u := .int .i64 xr) (by rw [hxm.cell]; rfl)
  have fr2 := fut_cell (w := wm) (g := w.heap.size) (i := 2) (u := .slice Au nu cu) (by rw [hxm.cell]; rfl)
  have fr3 := fut_cell (w := wm) (g := w.heap.size) (i := 3) (u := .slice Av nv cv) (by rw [hxm.cell]; rfl)
  clear hmat hlen hmb hbm hbw hxm hraw hmm hrb hver HX HM HL b0 b2 b3
  cases rb with
  | false =>
    have HV1 := Lib.hid (fun x : Fut wm => ver_fut (HVE.out x))
    clear HRB
    go_wp2_with fail
    refine region_fut (by kernel_rfl) (by kernel_rfl) ?_
    repeat (go_big_quiet_step (first | (with_reducible exact HV1.out _) | (with_reducible exact fut_call (HAW.out _))))
    refine wpQuiet_nil ?_
    intro w5 hw5
    obtain ⟨⟨w5, hb5⟩, rfl⟩ := hw5
    have HE : Hid (Below w.heap.size w w5) := HBW.out.trans (hb5.mono HBW.out.size)
    clear hb5 fr0 fr1 fr2 fr3 HV1
    go_wp2_with fail
    go_ret
    exact ⟨rfl, HE.out⟩
  | true =>
    have HK : Hid (∀ w', Below wm.heap.size wm w' → w'.cell? ⟨w.heap.size, 0, none⟩ = some (.slice At nt ct) ∧ w'.cell? ⟨w.heap.size, 1, none⟩ = some (.int .i64 xr) ∧ w'.cell? ⟨w.heap.size, 2, none⟩ = some (.slice Au nu cu) ∧ w'.cell? ⟨w.heap.size, 3, none⟩ = some (.slice Av nv cv)) := fun w' hb => ⟨fr0 ⟨w', hb⟩, fr1 ⟨w', hb⟩, fr2 ⟨w', hb⟩, fr3 ⟨w', hb⟩⟩
    have HC : Hid (∀ w', Below wm.heap.size wm w' → Calls Try.prog 18 #[.int .i64 (n : Int), .slice A1 no co] w' (ChoicePost w' n)) := fun w' hb => choice_any n A1 no co lo w' (by omega) (by omega) (HRM.out ⟨w', hb⟩) HLO.out
    have HTO : Hid (∀ w' Ac cc t, Below wm.heap.size wm w' → Fn w' w'.heap.size Ac n (fun i => ((t i : Nat) : Int)) → Perfect n t → ∃ d, xr ≤ d ∧ Calls Try.prog 19 #[.slice A n n, .slice Ac n cc] w' (QuietP w' (.int .i64 d))) := fun w' Ac cc t hb hf hp => by
      have hcb := matB_bounds HMB.out
      rw [HLN.out] at hcb
      exact ⟨_, verB_least HRB.out HLN.out hp, total_any A n n _ (mget m) Ac n cc _ t w' ((HMM.out ⟨w', hb⟩).sq HMB.out) hcb hf (Nat.le_refl _) (by omega) hp.1⟩
    have B0 : Hid (Below wm.heap.size wm wm.drew) := below_drewN (Below.refl _ wm) 1
    have HB0 := Lib.hid (HK.out _ B0.out)
    have q0 := fr0 ⟨wm.drew, B0.out⟩
    clear q0 HRB HRM HMM
    go_wp2_with fail
    go_region_held3 (fun w' => w'.cell? ⟨w.heap.size, 0, none⟩ = some (.slice At nt ct) ∧ w'.cell? ⟨w.heap.size, 1, none⟩ = some (.int .i64 xr) ∧ w'.cell? ⟨w.heap.size, 2, none⟩ = some (.slice Au nu cu) ∧ w'.cell? ⟨w.heap.size, 3, none⟩ = some (.slice Av nv cv)) (first | exact HK.out _ B4.out | exact HK.out _ B3.out | exact HK.out _ B2.out | exact HK.out _ B1.out | exact HK.out _ B0.out) (first | (go_at_call 19; refine (HT3.out).mono ?_; rintro e w8 ⟨rfl, q8, rfl⟩; have B4 := Lib.hid (below_drewN B3.out q8)) | (go_at_call 18; refine (HC.out _ B2.out).mono ?_; rintro e w7 ⟨Ac, cc, t, rfl, hfn, hp, hb7⟩; have B3 := Lib.hid (B2.out.trans (hb7.mono B2.out.size)); obtain ⟨d, hd, ht3⟩ := HTO.out _ Ac cc t B3.out hfn hp; have HT3 := Lib.hid ht3; clear hfn hp hb7 ht3) | (go_at_call 17; refine (HVE.out ⟨_, B1.out⟩).mono ?_; rintro e w6 ⟨rfl, hb6⟩; have B2 := Lib.hid (B1.out.trans (hb6.mono B1.out.size)); clear hb6) | (go_at_call 9; refine (HAW.out _).mono ?_; rintro e w5 ⟨rfl, hb5⟩; have B1 := Lib.hid (B0.out.trans (hb5.mono B0.out.size)); clear hb5))
    all_goals
      have HE : Hid (Below w.heap.size w _) := HBW.out.trans (B4.out.mono HBW.out.size)
      go_wp2_with fail
      go_ret
      exact ⟨rfl, HE.out⟩

theorem own : ownKnob Try.prog.godebug = none := by kernel_rfl
theorem laidOut : laidOutB Try.prog = true := by kernel_rfl
theorem specN (H : Type) (ds : List (DataW H)) (h : ds.length = 4) : Rows.assignProvesSpec.fn H (ds ++ []) = { results := [.lit (.bool true)], args := ds } := by
  match ds, h with
  | [_, _, _, _], _ => rfl

set_option maxRecDepth 100000 in
theorem lifted (os : Os) (started : os.Started) (H : Type) (enc : TypeId × Value → H) :
    ReturnsInHanded {} Try.checked os 7 .any (Rows.assignProvesSpec.pre6 enc Try.prog Try.f7 Rows.assignProvesRow.domain false) (Rows.assignProvesSpec.post enc Try.prog Try.f7 false true false false) := by
  refine law_of_walk (C := Try.checked) own started (by kernel_rfl) Try.func7 rfl rfl Try.underlying4 laidOut (by kernel_rfl) (fun ds h => specN H ds (h.trans (by kernel_rfl)))
    (ChangeSpec.witness6 (enc := enc) (C := Try.checked) false ⟨#[], #[.int .i64 0, .slice none 0 0, .agg #[.slice none 0 0, .int .i64 0, .slice none 0 0, .slice none 0 0], .slice none 0 0], []⟩ 8 (by kernel_rfl) (by kernel_rfl) (by kernel_rfl) (by kernel_rfl)) ?_
  intro W base args ds p hval hA hsz
  have hval' : ∀ (j : Nat) t v, Try.f7.params[j]? = some t → args[j]? = some v → Value.okWide Try.prog W .any base t v := hval
  rw [Try.params7] at hval' hA hsz
  obtain ⟨v0, vs0, d0, ds0, p0, q0, hargs, rfl, rfl, h0, r0⟩ := trodAll_cons hA
  obtain ⟨v1, vs1, d1, ds1, p1, q1, rfl, rfl, rfl, h1, r1⟩ := trodAll_cons r0
  obtain ⟨v2, vs2, d2, ds2, p2, q2, rfl, rfl, rfl, h2, r2⟩ := trodAll_cons r1
  obtain ⟨v3, vs3, d3, ds3, p3, q3, rfl, rfl, rfl, h3, r3⟩ := trodAll_cons r2
  obtain ⟨rfl, rfl, rfl⟩ := trodAll_nil r3
  obtain rfl : args = #[v0, v1, v2, v3] := by cases args; simp_all
  obtain ⟨a0, rfl, rfl, rfl, w0⟩ := open_int Try.underlying3 (hval' 0 3 v0 rfl rfl) h0
  obtain ⟨a1, len1, cap1, rfl⟩ := okWide_slice Try.underlying25 (hval' 1 25 v1 rfl rfl)
  obtain ⟨hw1, hc1, hm1, l1, hr1, hl1⟩ := open_i64s Try.underlying25 Try.underlying3 (by kernel_rfl) h1
  have hlen1 := len_reach hsz (j := 1) (t := 25) rfl rfl Try.underlying25 (of_decide_eq_true (by kernel_rfl)) hw1
  obtain ⟨At2, nt2, ct2, x2, Au2, nu2, cu2, Av2, nv2, cv2, t2, u2, v2', rfl, lt2, mt2, lu2, mu2, lv2, mv2, ft2, fu2, fv2⟩ := open_asg (hval' 2 27 v2 rfl rfl) h2
  obtain ⟨a3, len3, cap3, rfl⟩ := okWide_slice Try.underlying25 (hval' 3 25 v3 rfl rfl)
  obtain ⟨hw3, hc3, hm3, l3, hr3, hl3⟩ := open_i64s Try.underlying25 Try.underlying3 (by kernel_rfl) h3
  have hlen3 := len_reach hsz (j := 3) (t := 25) rfl rfl Try.underlying25 (of_decide_eq_true (by kernel_rfl)) hw3
  exact walk a0 a1 len1 cap1 l1 At2 nt2 ct2 x2 Au2 nu2 cu2 Av2 nv2 cv2 t2 u2 v2' a3 len3 cap3 l3 W w0 (Nat.le_trans hc1 hm1) hr1 hl1 lt2 mt2 lu2 mu2 lv2 mv2 ft2 fu2 fv2 (Nat.le_trans hc3 hm3) hr3 hl3

theorem proved : Rows.AssignProvesSaid :=
  OpenClaim.holds_of_wide 7 Try.f7 rfl rfl rfl rfl rfl rfl rfl ⟨rfl, rfl, rfl, rfl, rfl⟩ rfl rfl rfl rfl rfl (by kernel_rfl) Try.func7 (by kernel_rfl)
    (of_decide_eq_true (by kernel_rfl)) (by unfold Func.isWrapper; first | (rw [if_pos (by decide +kernel)]; kernel_rfl) | (rw [if_neg (by decide +kernel)]; exact ⟨rfl, rfl⟩))
    (fun os started H enc _ => lifted os started H enc)
end Go.Proofs.Ytgmhinmakomabaa.assignProves
