/-
  PositionBetween: for every input the law returns true, and its arguments are as they were. No condition beside the given statement's own.
-/
import Derived.Test.YtikabbpipdekfaaPsX
namespace Go.Proofs.Ytikabbpipdekfaa.positionBetween
open Go.ChangeShapes Go.WideShapes Go.ChangeAt Go.RowKit
open Go.ChangeMaps (open_string shut_string)
set_option linter.unusedVariables false

set_option maxRecDepth 100000 in
set_option maxHeartbeats 3200000 in
theorem walk (lo hi : ByteArray) (w : World) (hs : lo.size ≤ 140737488351232) (hs2 : hi.size ≤ 140737488351232) : Calls Try.prog 3 #[.string lo, .string hi] w (Ret w (.bool true)) := by
  by_cases h1 : 200 < lo.size
  · have d1 : decide (200 < (lo.size : Int)) = true := decide_eq_true (by omega)
    go_enter Try.func3, Try.ntmps3
    go_wp2_with fail
    refine (awake_any _).mono ?_
    rintro e w8 ⟨rfl, hb8⟩
    have HB8 := Lib.hid hb8
    clear hb8
    go_wp2_with fail
    go_ret
    exact ⟨rfl, HB8.out⟩
  have d1 : decide (200 < (lo.size : Int)) = false := decide_eq_false (by omega)
  by_cases h2 : 200 < hi.size
  · have d2 : decide (200 < (hi.size : Int)) = true := decide_eq_true (by omega)
    go_enter Try.func3, Try.ntmps3
    go_wp2_with fail
    refine (awake_any _).mono ?_
    rintro e w8 ⟨rfl, hb8⟩
    have HB8 := Lib.hid hb8
    clear hb8
    go_wp2_with fail
    go_ret
    exact ⟨rfl, HB8.out⟩
  have d2 : decide (200 < (hi.size : Int)) = false := decide_eq_false (by omega)
  have HA := Lib.hid (fun w' : World => between_any lo hi w' hs hs2)
  have HR := Lib.hid (fun w' : World => rbetween_any lo hi w' hs hs2)
  have HV1 := Lib.hid (fun w' : World => valid_any lo w' hs)
  have HV2 := Lib.hid (fun w' : World => rvalid_any lo w' hs)
  have HV3 := Lib.hid (fun w' : World => valid_any hi w' hs2)
  have HV4 := Lib.hid (fun w' : World => rvalid_any hi w' hs2)
  unfold VldPost at HV1 HV2 HV3 HV4
  obtain ⟨b1, hb1⟩ : ∃ b, keyB lo.data.toList = b := ⟨_, rfl⟩
  obtain ⟨b2, hb2⟩ : ∃ b, keyB hi.data.toList = b := ⟨_, rfl⟩
  rw [hb1] at HV1 HV2
  rw [hb2] at HV3 HV4
  clear hb1 hb2
  go_enter Try.func3, Try.ntmps3
  go_wp2_with fail
  refine (HA.out _).mono ?_
  rintro e w1 ⟨hb1, t, x, rfl, hbi⟩
  have HI := Lib.hid hbi
  have HB1 := Lib.hid hb1
  clear hb1 hbi
  go_wp2_with fail
  refine (HR.out _).mono ?_
  rintro e w2 ⟨hb2, t', x', rfl, hbi⟩
  obtain ⟨h1, rfl⟩ := hbi.unique HI.out
  obtain rfl : t' = t := ByteArray.ext (Array.toList_inj.1 h1)
  have HB2 := Lib.hid (HB1.out.trans (hb2.mono HB1.out.size))
  clear hb2 hbi h1
  go_wp2_with fail
  refine (awake_any _).mono ?_
  rintro e w3 ⟨rfl, hb3⟩
  have HB3 := Lib.hid (HB2.out.trans (hb3.mono HB2.out.size))
  clear hb3
  cases b1 <;> cases b2
  all_goals
    go_wp2_with fail
    refine (HV1.out _).mono ?_
    rintro e w' ⟨rfl, rfl⟩
    go_wp2_with fail
    refine (HV2.out _).mono ?_
    rintro e w' ⟨rfl, rfl⟩
    go_wp2_with fail
    refine (HV3.out _).mono ?_
    rintro e w' ⟨rfl, rfl⟩
    go_wp2_with fail
    refine (HV4.out _).mono ?_
    rintro e w' ⟨rfl, rfl⟩
    go_wp2_with fail
    go_ret
    exact ⟨rfl, HB3.out⟩

theorem own : ownKnob Try.prog.godebug = none := by kernel_rfl
theorem laidOut : laidOutB Try.prog = true := by kernel_rfl
theorem specN (H : Type) (ds : List (DataW H)) (h : ds.length = 2) : Rows.positionBetweenSpec.fn H (ds ++ []) = { results := [.lit (.bool true)], args := ds } := by
  match ds, h with
  | [_, _], _ => rfl

set_option maxRecDepth 100000 in
theorem lifted (os : Os) (started : os.Started) (H : Type) (enc : TypeId × Value → H) :
    ReturnsInHanded {} Try.checked os 3 .any (Rows.positionBetweenSpec.pre6 enc Try.prog Try.f3 Rows.positionBetweenRow.domain false) (Rows.positionBetweenSpec.post enc Try.prog Try.f3 false true false false) := by
  refine law_of_walk (C := Try.checked) own started (by kernel_rfl) Try.func3 rfl rfl Try.underlying4 laidOut (by kernel_rfl) (fun ds h => specN H ds (h.trans (by kernel_rfl)))
    (ChangeSpec.witness6 (enc := enc) (C := Try.checked) false ⟨#[], #[.string ByteArray.empty, .string ByteArray.empty], []⟩ 8 (by kernel_rfl) (by kernel_rfl) (by kernel_rfl) (by kernel_rfl)) ?_
  intro W base args ds p hval hA hsz
  have hval' : ∀ (j : Nat) t v, Try.f3.params[j]? = some t → args[j]? = some v → Value.okWide Try.prog W .any base t v := hval
  rw [Try.params3] at hval' hA hsz
  obtain ⟨v0, vs0, d0, ds0, p0, q0, hargs, rfl, rfl, h0, r0⟩ := trodAll_cons hA
  obtain ⟨v1, vs1, d1, ds1, p1, q1, rfl, rfl, rfl, h1, r1⟩ := trodAll_cons r0
  obtain ⟨rfl, rfl, rfl⟩ := trodAll_nil r1
  obtain rfl : args = #[v0, v1] := by cases args; simp_all
  obtain ⟨s0, rfl, rfl, rfl, w0⟩ := open_string Try.underlying9 (hval' 0 9 v0 rfl rfl) h0
  have z0 := sm_str (sm_arg hsz (j := 0) (t := 9) rfl rfl)
  rw [size_data] at z0
  obtain ⟨s1, rfl, rfl, rfl, w1⟩ := open_string Try.underlying9 (hval' 1 9 v1 rfl rfl) h1
  have z1 := sm_str (sm_arg hsz (j := 1) (t := 9) rfl rfl)
  rw [size_data] at z1
  exact walk s0 s1 W z0 z1

theorem proved : Rows.PositionBetweenSaid :=
  OpenClaim.holds_of_wide 3 Try.f3 rfl rfl rfl rfl rfl rfl rfl ⟨rfl, rfl, rfl, rfl, rfl⟩ rfl rfl rfl rfl rfl (by kernel_rfl) Try.func3 (by kernel_rfl)
    (of_decide_eq_true (by kernel_rfl)) (by unfold Func.isWrapper; first | (rw [if_pos (by decide +kernel)]; kernel_rfl) | (rw [if_neg (by decide +kernel)]; exact ⟨rfl, rfl⟩))
    (fun os started H enc _ => lifted os started H enc)
end Go.Proofs.Ytikabbpipdekfaa.positionBetween
