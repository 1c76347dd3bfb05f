/-
  SequenceLeast: for every input the law returns true, and its arguments are as they were. No condition beside the given statement's own.
-/
import Derived.Test.YtaadaekpmblpaaaSqZ
namespace Go.Proofs.Ytaadaekpmblpaaa.sequenceLeast
open Go.ChangeShapes Go.WideShapes Go.ChangeAt Go.RowKit
open Go.ChangeMaps (open_string shut_string)
set_option linter.unusedVariables false

set_option maxRecDepth 100000 in
set_option maxHeartbeats 1600000 in
theorem walk (z1 z2 : Int) (A : Option Addr) (n c : Nat) (l : List Int) (Ap : Option Addr) (np cp : Nat) (ps : List (Int × Int)) (w : World) (v1 : (Lit.int .i64 z1).wf = true) (v2 : (Lit.int .i64 z2).wf = true) (hn : n ≤ maxLen) (hr : Ints w w.heap.size A n l) (hl : ∀ x ∈ l, -9223372036854775808 ≤ x ∧ x ≤ 9223372036854775807) (hnp : np ≤ maxLen) (hps : Prs w w.heap.size Ap np ps) :
    Calls Try.prog 7 #[.int .i64 z1, .int .i64 z2, .slice A n c, .slice Ap np cp] w fun e w' => e = .returned (.bool true) ∧ Below w.heap.size w w' := by
  have HA := fun w => Lib.hid (awake_any w)
  have HG := Lib.hid (llight_any A n c w hn)
  have HM1 := Lib.hid (fun w => mod_any z1 9 w (by omega) (by omega) (wf_i64 v1).1 (wf_i64 v1).2)
  have HM2 := Lib.hid (fun w => mod_any z2 9 w (by omega) (by omega) (wf_i64 v2).1 (wf_i64 v2).2)
  obtain ⟨m1, hm1, hm1'⟩ : ∃ m : Nat, z1 % 9 = m ∧ m ≤ 9 := ⟨(z1 % 9).toNat, by omega, by omega⟩
  obtain ⟨m2, hm2, hm2'⟩ : ∃ m : Nat, z2 % 9 = m ∧ m ≤ 9 := ⟨(z2 % 9).toNat, by omega, by omega⟩
  rw [hm1] at HM1
  rw [hm2] at HM2
  clear hm1 hm2
  have HLX := Lib.hid hl
  have HR := Lib.hid hr
  have HPS := Lib.hid hps
  unfold maxLen at hn hnp
  clear hl hr hps
  by_cases hle : n ≤ 120
  rotate_left
  · rw [decide_eq_false hle] at HG
    go_enter Try.func7, Try.ntmps7
    go_wp2_with fail
    refine (HG.out).mono ?_
    rintro e w0 ⟨rfl, rfl⟩
    go_wp2_with fail
    refine ((HA _).out).mono ?_
    rintro e w9 ⟨rfl, hb9⟩
    go_wp2_with fail
    go_ret
    exact ⟨rfl, hb9⟩
  rw [decide_eq_true hle] at HG
  by_cases hlp : 40 < np
  · have dlp : decide (40 < np) = true := by simpa using hlp
    have dlp' : decide ((40 : Int) < (np : Int)) = true := decide_eq_true (by omega)
    go_enter Try.func7, Try.ntmps7
    go_wp2_with fail
    refine (HG.out).mono ?_
    rintro e w0 ⟨rfl, rfl⟩
    go_wp2_with fail
    refine ((HA _).out).mono ?_
    rintro e w9 ⟨rfl, hb9⟩
    go_wp2_with fail
    go_ret
    exact ⟨rfl, hb9⟩
  have dlp : decide (40 < np) = false := by simpa using hlp
  have dlp' : decide ((40 : Int) < (np : Int)) = false := decide_eq_false (by omega)
  go_enter Try.func7, Try.ntmps7
  go_wp2_with fail
  refine (HG.out).mono ?_
  rintro e w0 ⟨rfl, rfl⟩
  go_wp2_with fail
  refine (HM1.out _).mono ?_
  rintro e w0 ⟨rfl, rfl⟩
  go_wp2_with fail
  refine (HM2.out _).mono ?_
  rintro e w0 ⟨rfl, rfl⟩
  have HPR := Lib.hid (lawProper_any m1 m2 A n c l w hm1' hm2' (by omega) HR.out HLX.out)
  go_wp2_with fail
  refine (HPR.out).mono ?_
  rintro e w0 ⟨A1, c1, A2, c2, A3, drop, add, cost, rfl, hT, hpr, hb0⟩
  have HT := Lib.hid hT
  have HB0 := Lib.hid hb0
  have HPP := Lib.hid hpr
  clear hT hb0 hpr HPR
  have HC := Lib.hid (align_yes A1 m1 c1 A2 m2 c2 A3 m1 m1 drop add cost w0 HT.out HPP.out)
  have hv := align_verified HPP.out
  have hca := align_cost HPP.out
  obtain ⟨px, hpx⟩ : ∃ x, potF drop add cost drop.length add.length = x := ⟨_, rfl⟩
  unfold AlPost at HC
  rw [hpx] at HC hv hca
  have hle0 : ∀ d, costL drop add cost ps = (d, true) → px ≤ d := fun d h => ver_least hv h
  obtain ⟨⟨r1, r2⟩, hrr⟩ : ∃ r, costL drop add cost ps = r := ⟨_, rfl⟩
  rw [hrr] at hle0
  have HRR := Lib.hid hrr
  have HLE := Lib.hid hle0
  have HV := Lib.hid hv
  have HCA := Lib.hid hca
  clear hv hca hpx hle0 hrr
  go_wp2_with fail
  refine (HC.out).mono ?_
  rintro e w1 ⟨B, k, d, g, bs, rfl, hp1, hm1, hbs1, hb1, -⟩
  obtain ⟨M, hM⟩ : ∃ M, drop.length + 1 = M := ⟨_, rfl⟩
  rw [hM]
  have hmat : Mat w1 w1.heap.size (some ⟨g, 0, none⟩) (drop.length + 1) (potM drop add cost) := hm1.mat hbs1
  rw [hM] at hmat
  have hx1 := Blk.new w1 28 #[.slice B k d, .int .i64 px, .slice (some ⟨g, 0, none⟩) M M]
  have hbx := below_alloc w1 (.cells #[.slice B k d, .int .i64 px, .slice (some ⟨g, 0, none⟩) M M] 28)
  have hMl : M ≤ 401 := by have := (proper_parts HPP.out).1; omega
  have hkl : k ≤ 400 := by
    have h1 := Prs.len hp1
    have h2 := resP_len drop add cost
    unfold resP at h2
    rw [HPP.out, if_pos rfl] at h2
    omega
  have HB1 := Lib.hid (Below.on (Below.on HB0.out hb1) hbx)
  have HT1 := Lib.hid ((HT.out.on hb1).on hbx)
  have HPS1 := Lib.hid (((HPS.out.on HB0.out).on hb1).on hbx)
  have HP1 := Lib.hid (hp1.on hbx)
  have HM1 := Lib.hid (hmat.on hbx)
  have HX1 := Lib.hid hx1
  have HK1 := Lib.hid (cost_any A1 m1 c1 A2 m2 c2 A3 m1 m1 B k d drop add cost _ _ HT1.out HP1.out (by omega))
  rw [HCA.out] at HK1
  clear hp1 hm1 hbs1 hb1 hx1 hbx hmat hM HC
  go_wp2_with fail
  refine (HK1.out).mono ?_
  rintro e w2 ⟨rfl, hb2⟩
  have HB2 := Lib.hid (Below.on HB1.out hb2)
  have HT2 := Lib.hid (HT1.out.on hb2)
  have HPS2 := Lib.hid (HPS1.out.on hb2)
  have HP2 := Lib.hid (HP1.out.on hb2)
  have HM2 := Lib.hid (HM1.out.on hb2)
  have HX2 := Lib.hid (HX1.out.below hb2 HX1.out.lt)
  have HK2 := Lib.hid (cost_any A1 m1 c1 A2 m2 c2 A3 m1 m1 Ap np cp drop add cost ps w2 HT2.out HPS2.out (by omega))
  rw [HRR.out] at HK2
  clear hb2 HK1 HT1 HPS1 HP1 HM1 HX1
  go_wp2_with fail
  refine (HK2.out).mono ?_
  rintro e w3 ⟨rfl, hb3⟩
  have HB3 := Lib.hid (Below.on HB2.out hb3)
  have HT3 := Lib.hid (HT2.out.on hb3)
  have HP3 := Lib.hid (HP2.out.on hb3)
  have HM3 := Lib.hid (HM2.out.on hb3)
  have HX3 := Lib.hid (HX2.out.below hb3 HX2.out.lt)
  clear hb3 HK2 HT2 HPS2 HP2 HM2 HX2
  go_wp2_with fail
  refine ((HA _).out).mono ?_
  rintro e w4 ⟨rfl, hb4⟩
  have HB4 := Lib.hid (Below.on HB3.out hb4)
  have hx4 := HX3.out.below hb4 HX3.out.lt
  have q0 := hx4.cell 0
  have q1 := hx4.cell 1
  have q2 := hx4.cell 2
  simp at q0 q1 q2
  have HVC := Lib.hid (verify_any A1 m1 c1 A2 m2 c2 A3 m1 m1 B k d px (some ⟨g, 0, none⟩) M M drop add cost _ _ w4 (HT3.out.on hb4) (HP3.out.on hb4) (by omega) (HM3.out.on hb4) (by omega) (fun r hr => by
    unfold potM at hr
    obtain ⟨i, _, rfl⟩ := List.mem_map.1 hr
    have := (proper_parts HPP.out).2.1
    simp; omega))
  rw [HV.out] at HVC
  clear hb4 hx4 HX3 HT3 HP3 HM3
  cases r2 with
  | false =>
    go_wp2_with fail
    refine (HVC.out).mono ?_
    rintro e w5 ⟨rfl, hb5⟩
    have HB5 := Lib.hid (Below.on HB4.out hb5)
    clear hb5
    go_wp2_with fail
    go_ret
    exact ⟨rfl, HB5.out⟩
  | true =>
    have hge := HLE.out r1 rfl
    have dge : decide (px ≤ r1) = true := by simpa using hge
    go_wp2_with fail
    refine (HVC.out).mono ?_
    rintro e w5 ⟨rfl, hb5⟩
    have HB5 := Lib.hid (Below.on HB4.out hb5)
    clear hb5
    go_wp2_with fail
    go_ret
    exact ⟨rfl, HB5.out⟩

theorem own : ownKnob Try.prog.godebug = none := by kernel_rfl
theorem laidOut : laidOutB Try.prog = true := by kernel_rfl
theorem specN (H : Type) (ds : List (DataW H)) (h : ds.length = 4) : Rows.sequenceLeastSpec.fn H (ds ++ []) = { results := [.lit (.bool true)], args := ds } := by
  match ds, h with
  | [_, _, _, _], _ => rfl

set_option maxRecDepth 100000 in
theorem lifted (os : Os) (started : os.Started) (H : Type) (enc : TypeId × Value → H) :
    ReturnsInHanded {} Try.checked os 7 .any (Rows.sequenceLeastSpec.pre6 enc Try.prog Try.f7 Rows.sequenceLeastRow.domain false) (Rows.sequenceLeastSpec.post enc Try.prog Try.f7 false true false false) := by
  refine law_of_walk (C := Try.checked) own started (by kernel_rfl) Try.func7 rfl rfl Try.underlying4 laidOut (by kernel_rfl) (fun ds h => specN H ds (h.trans (by kernel_rfl)))
    (ChangeSpec.witness6 (enc := enc) (C := Try.checked) false ⟨#[], #[.int .i64 0, .int .i64 0, .slice none 0 0, .slice none 0 0], []⟩ 8 (by kernel_rfl) (by kernel_rfl) (by kernel_rfl) (by kernel_rfl)) ?_
  intro W base args ds p hval hA hsz
  have hval' : ∀ (j : Nat) t v, Try.f7.params[j]? = some t → args[j]? = some v → Value.okWide Try.prog W .any base t v := hval
  rw [Try.params7] at hval' hA hsz
  obtain ⟨v0, vs0, d0, ds0, p0, q0, hargs, rfl, rfl, h0, r0⟩ := trodAll_cons hA
  obtain ⟨v1, vs1, d1, ds1, p1, q1, rfl, rfl, rfl, h1, r1⟩ := trodAll_cons r0
  obtain ⟨v2, vs2, d2, ds2, p2, q2, rfl, rfl, rfl, h2, r2⟩ := trodAll_cons r1
  obtain ⟨v3, vs3, d3, ds3, p3, q3, rfl, rfl, rfl, h3, r3⟩ := trodAll_cons r2
  obtain ⟨rfl, rfl, rfl⟩ := trodAll_nil r3
  obtain rfl : args = #[v0, v1, v2, v3] := by cases args; simp_all
  obtain ⟨a0, rfl, rfl, rfl, w0⟩ := open_int Try.underlying3 (hval' 0 3 v0 rfl rfl) h0
  obtain ⟨a1, rfl, rfl, rfl, w1⟩ := open_int Try.underlying3 (hval' 1 3 v1 rfl rfl) h1
  obtain ⟨a2, len2, cap2, rfl⟩ := okWide_slice Try.underlying22 (hval' 2 22 v2 rfl rfl)
  obtain ⟨hw2, hc2, hm2, l2, hr2, hl2⟩ := open_i64s Try.underlying22 Try.underlying3 (by kernel_rfl) h2
  have hlen2 := len_reach hsz (j := 2) (t := 22) rfl rfl Try.underlying22 (of_decide_eq_true (by kernel_rfl)) hw2
  obtain ⟨a3, len3, cap3, rfl⟩ := okWide_slice Try.underlying26 (hval' 3 26 v3 rfl rfl)
  obtain ⟨hm3, l3, hr3⟩ := open_prs' h3
  exact walk a0 a1 a2 len2 cap2 l2 a3 len3 cap3 l3 W w0 w1 (by omega) hr2 hl2 hm3 hr3

theorem proved : Rows.SequenceLeastSaid :=
  OpenClaim.holds_of_wide 7 Try.f7 rfl rfl rfl rfl rfl rfl rfl ⟨rfl, rfl, rfl, rfl, rfl⟩ rfl rfl rfl rfl rfl (by kernel_rfl) Try.func7 (by kernel_rfl)
    (of_decide_eq_true (by kernel_rfl)) (by unfold Func.isWrapper; first | (rw [if_pos (by decide +kernel)]; kernel_rfl) | (rw [if_neg (by decide +kernel)]; exact ⟨rfl, rfl⟩))
    (fun os started H enc _ => lifted os started H enc)
end Go.Proofs.Ytaadaekpmblpaaa.sequenceLeast
