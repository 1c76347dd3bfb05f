/-
  SequenceProves: for every input the law returns true, and its arguments are as they were. No condition beside the given statement's own.
-/
import Derived.Test.YtaadaekpmblpaaaSqZ
namespace Go.Proofs.Ytaadaekpmblpaaa.sequenceProves
open Go.ChangeShapes Go.WideShapes Go.ChangeAt Go.RowKit
open Go.ChangeMaps (open_string shut_string)
set_option linter.unusedVariables false

set_option maxRecDepth 100000 in
set_option maxHeartbeats 1600000 in
theorem walk (z1 z2 : Int) (A : Option Addr) (n c : Nat) (l : List Int) (Aa : Option Addr) (na ca : Nat) (xa : Int) (Ab : Option Addr) (nb cb : Nat) (qs : List (Int × Int)) (pot : List (List Int)) (Ap : Option Addr) (np cp : Nat) (ps : List (Int × Int)) (w : World) (v1 : (Lit.int .i64 z1).wf = true) (v2 : (Lit.int .i64 z2).wf = true) (hn : n ≤ maxLen) (hr : Ints w w.heap.size A n l) (hl : ∀ x ∈ l, -9223372036854775808 ≤ x ∧ x ≤ 9223372036854775807) (hna : na ≤ maxLen) (hnb : nb ≤ maxLen) (hqs : Prs w w.heap.size Aa na qs) (hpot : Mat w w.heap.size Ab nb pot) (hnp : np ≤ maxLen) (hps : Prs w w.heap.size Ap np ps) :
    Calls Try.prog 8 #[.int .i64 z1, .int .i64 z2, .slice A n c, .agg #[.slice Aa na ca, .int .i64 xa, .slice Ab nb cb], .slice Ap np cp] w fun e w' => e = .returned (.bool true) ∧ Below w.heap.size w w' := by
  have HA := fun w => Lib.hid (awake_any w)
  have HG := Lib.hid (fun w => llight_any A n c w hn)
  have HM1 := Lib.hid (fun w => mod_any z1 5 w (by omega) (by omega) (wf_i64 v1).1 (wf_i64 v1).2)
  have HM2 := Lib.hid (fun w => mod_any z2 5 w (by omega) (by omega) (wf_i64 v2).1 (wf_i64 v2).2)
  obtain ⟨m1, hm1, hm1'⟩ : ∃ m : Nat, z1 % 5 = m ∧ m ≤ 9 := ⟨(z1 % 5).toNat, by omega, by omega⟩
  obtain ⟨m2, hm2, hm2'⟩ : ∃ m : Nat, z2 % 5 = m ∧ m ≤ 9 := ⟨(z2 % 5).toNat, by omega, by omega⟩
  rw [hm1] at HM1
  rw [hm2] at HM2
  clear hm1 hm2
  obtain ⟨wb, hwb⟩ : ∃ wb, wb = w.alloc (.cells #[.slice Aa na ca, .int .i64 xa, .slice Ab nb cb] 28) := ⟨_, rfl⟩
  have hbb : Below w.heap.size w wb := by rw [hwb]; exact below_alloc w _
  have hxb : Blk wb w.heap.size 28 #[.slice Aa na ca, .int .i64 xa, .slice Ab nb cb] := by rw [hwb]; exact Blk.new w 28 _
  have HXB := Lib.hid hxb
  have HBB := Lib.hid hbb
  have HWB := Lib.hid hwb
  have b0 := hxb.cell 0
  have b1 := hxb.cell 1
  have b2 := hxb.cell 2
  simp at b0 b1 b2
  have HLX := Lib.hid hl
  have HR := Lib.hid (hr.on hbb)
  have HQS := Lib.hid (hqs.on hbb)
  have HPOT := Lib.hid (hpot.on hbb)
  have HLI := Lib.hid (light_any none 0 0 none 0 0 Ab nb cb _ [] [] pot wb rfl rfl (hpot.on hbb))
  have hgt := hxb.lt
  have HPS := Lib.hid (hps.on hbb)
  unfold maxLen at hn hnp hna hnb
  clear hl hr hps hqs hpot hbb hxb hwb
  by_cases hle : n ≤ 120
  rotate_left
  · rw [decide_eq_false hle] at HG
    go_enter Try.func8, Try.ntmps8
    go_wp2_with fail
    rw [← HWB.out]
    refine (HG.out _).mono ?_
    rintro e w0 ⟨rfl, rfl⟩
    go_wp2_with fail
    refine ((HA _).out).mono ?_
    rintro e w9 ⟨rfl, hb9⟩
    have HB9 := Lib.hid (Below.on HBB.out hb9)
    clear hb9
    go_wp2_with fail
    go_ret
    exact ⟨rfl, HB9.out⟩
  rw [decide_eq_true hle] at HG
  by_cases hl_np : 40 < np
  · have dlp : decide (40 < np) = true := decide_eq_true hl_np
    have dlp' : decide ((40 : Int) < (np : Int)) = true := decide_eq_true (by omega)
    go_enter Try.func8, Try.ntmps8
    go_wp2_with fail
    rw [← HWB.out]
    refine (HG.out _).mono ?_
    rintro e w0 ⟨rfl, rfl⟩
    go_wp2_with fail
    refine ((HA _).out).mono ?_
    rintro e w9 ⟨rfl, hb9⟩
    have HB9 := Lib.hid (Below.on HBB.out hb9)
    clear hb9
    go_wp2_with fail
    go_ret
    exact ⟨rfl, HB9.out⟩
  have dl_np : decide (40 < np) = false := decide_eq_false hl_np
  have dl_np' : decide ((40 : Int) < (np : Int)) = false := decide_eq_false (by omega)
  by_cases hl_na : 40 < na
  · have dlp : decide (40 < na) = true := decide_eq_true hl_na
    have dlp' : decide ((40 : Int) < (na : Int)) = true := decide_eq_true (by omega)
    go_enter Try.func8, Try.ntmps8
    go_wp2_with fail
    rw [← HWB.out]
    refine (HG.out _).mono ?_
    rintro e w0 ⟨rfl, rfl⟩
    go_wp2_with fail
    refine ((HA _).out).mono ?_
    rintro e w9 ⟨rfl, hb9⟩
    have HB9 := Lib.hid (Below.on HBB.out hb9)
    clear hb9
    go_wp2_with fail
    go_ret
    exact ⟨rfl, HB9.out⟩
  have dl_na : decide (40 < na) = false := decide_eq_false hl_na
  have dl_na' : decide ((40 : Int) < (na : Int)) = false := decide_eq_false (by omega)
  cases hli : lightL [] [] pot with
  | false =>
    rw [hli] at HLI
    clear hli
    go_enter Try.func8, Try.ntmps8
    go_wp2_with fail
    rw [← HWB.out]
    refine (HG.out _).mono ?_
    rintro e w0 ⟨rfl, rfl⟩
    go_wp2_with fail
    refine (HLI.out).mono ?_
    rintro e w0 ⟨rfl, rfl⟩
    go_wp2_with fail
    refine ((HA _).out).mono ?_
    rintro e w9 ⟨rfl, hb9⟩
    have HB9 := Lib.hid (Below.on HBB.out hb9)
    clear hb9
    go_wp2_with fail
    go_ret
    exact ⟨rfl, HB9.out⟩
  | true =>
    have HLQ := Lib.hid (light_parts hli)
    rw [hli] at HLI
    clear hli
    go_enter Try.func8, Try.ntmps8
    go_wp2_with fail
    rw [← HWB.out]
    refine (HG.out _).mono ?_
    rintro e w0 ⟨rfl, rfl⟩
    go_wp2_with fail
    refine (HLI.out).mono ?_
    rintro e w0 ⟨rfl, rfl⟩
    go_wp2_with fail
    refine (HM1.out _).mono ?_
    rintro e w0 ⟨rfl, rfl⟩
    go_wp2_with fail
    refine (HM2.out _).mono ?_
    rintro e w0 ⟨rfl, rfl⟩
    have HPR := Lib.hid (lawProper_any m1 m2 A n c l wb hm1' hm2' (by omega) HR.out HLX.out)
    go_wp2_with fail
    refine (HPR.out).mono ?_
    rintro e w0 ⟨A1, c1, A2, c2, A3, drop, add, cost, rfl, hT, hpr, hb0⟩
    have HT := Lib.hid hT
    have HB0 := Lib.hid hb0
    have HPP := Lib.hid hpr
    clear hT hb0 hpr HPR
    have hx0 := HXB.out.below HB0.out HXB.out.lt
    have d0 := hx0.cell 0
    have d1 := hx0.cell 1
    have d2 := hx0.cell 2
    simp at d0 d1 d2
    have HX0 := Lib.hid hx0
    have HBA := Lib.hid (Below.on HBB.out HB0.out)
    have HPS0 := Lib.hid (HPS.out.on HB0.out)
    have HQS0 := Lib.hid (HQS.out.on HB0.out)
    have hnb6 : nb ≤ 60 := by
      have h1 := Mat.len HPOT.out
      have h2 := HLQ.out.2.2.1
      omega
    have HV := Lib.hid (verify_any A1 m1 c1 A2 m2 c2 A3 m1 m1 Aa na ca xa Ab nb cb drop add cost qs pot w0 HT.out HQS0.out (by omega) (HPOT.out.on HB0.out) (by omega) (fun r hr => by have := HLQ.out.2.2.2 r hr; omega))
    clear hx0
    cases hv : verL drop add cost qs xa pot with
    | false =>
      rw [hv] at HV
      clear hv
      go_wp2_with fail
      refine (HV.out).mono ?_
      rintro e w1 ⟨rfl, hb1⟩
      have HB1 := Lib.hid (Below.on HBA.out hb1)
      clear hb1
      go_wp2_with fail
      refine ((HA _).out).mono ?_
      rintro e w2 ⟨rfl, hb2⟩
      have HB2 := Lib.hid (Below.on HB1.out hb2)
      clear hb2
      go_wp2_with fail
      go_ret
      exact ⟨rfl, HB2.out⟩
    | true =>
      have hca := ver_cost hv
      have hle0 : ∀ d, costL drop add cost ps = (d, true) → xa ≤ d := fun d h => ver_least hv h
      obtain ⟨⟨r1, r2⟩, hrr⟩ : ∃ r, costL drop add cost ps = r := ⟨_, rfl⟩
      rw [hrr] at hle0
      rw [hv] at HV
      have HRR := Lib.hid hrr
      have HLE := Lib.hid hle0
      have HCA := Lib.hid hca
      clear hv hca hle0 hrr
      go_wp2_with fail
      refine (HV.out).mono ?_
      rintro e w1 ⟨rfl, hb1⟩
      have HB1 := Lib.hid (Below.on HBA.out hb1)
      have HT1 := Lib.hid (HT.out.on hb1)
      have HPS1 := Lib.hid (HPS0.out.on hb1)
      have hx1 := HX0.out.below hb1 HX0.out.lt
      have e0 := hx1.cell 0
      have e1 := hx1.cell 1
      simp at e0 e1
      have HX1 := Lib.hid hx1
      have HK1 := Lib.hid (cost_any A1 m1 c1 A2 m2 c2 A3 m1 m1 Aa na ca drop add cost qs w1 HT1.out (HQS0.out.on hb1) (by omega))
      rw [HCA.out] at HK1
      clear hb1 hx1 HV
      go_wp2_with fail
      refine (HK1.out).mono ?_
      rintro e w2 ⟨rfl, hb2⟩
      have HB2 := Lib.hid (Below.on HB1.out hb2)
      have HX2 := Lib.hid (HX1.out.below hb2 HX1.out.lt)
      have HK2 := Lib.hid (cost_any A1 m1 c1 A2 m2 c2 A3 m1 m1 Ap np cp drop add cost ps w2 (HT1.out.on hb2) (HPS1.out.on hb2) (by omega))
      rw [HRR.out] at HK2
      clear hb2 HK1
      go_wp2_with fail
      refine (HK2.out).mono ?_
      rintro e w3 ⟨rfl, hb3⟩
      have HB3 := Lib.hid (Below.on HB2.out hb3)
      have HX3 := Lib.hid (HX2.out.below hb3 HX2.out.lt)
      clear hb3 HK2
      go_wp2_with fail
      refine ((HA _).out).mono ?_
      rintro e w4 ⟨rfl, hb4⟩
      have HB4 := Lib.hid (Below.on HB3.out hb4)
      have hx4 := HX3.out.below hb4 HX3.out.lt
      have q1 := hx4.cell 1
      simp at q1
      clear hb4 hx4
      cases r2 with
      | false =>
        go_wp2_with fail
        go_ret
        exact ⟨rfl, HB4.out⟩
      | true =>
        have hge := HLE.out r1 rfl
        have dge : decide (xa ≤ r1) = true := by simpa using hge
        go_wp2_with fail
        go_ret
        exact ⟨rfl, HB4.out⟩

theorem own : ownKnob Try.prog.godebug = none := by kernel_rfl
theorem laidOut : laidOutB Try.prog = true := by kernel_rfl
theorem specN (H : Type) (ds : List (DataW H)) (h : ds.length = 5) : Rows.sequenceProvesSpec.fn H (ds ++ []) = { results := [.lit (.bool true)], args := ds } := by
  match ds, h with
  | [_, _, _, _, _], _ => rfl

set_option maxRecDepth 100000 in
theorem lifted (os : Os) (started : os.Started) (H : Type) (enc : TypeId × Value → H) :
    ReturnsInHanded {} Try.checked os 8 .any (Rows.sequenceProvesSpec.pre6 enc Try.prog Try.f8 Rows.sequenceProvesRow.domain false) (Rows.sequenceProvesSpec.post enc Try.prog Try.f8 false true false false) := by
  refine law_of_walk (C := Try.checked) own started (by kernel_rfl) Try.func8 rfl rfl Try.underlying4 laidOut (by kernel_rfl) (fun ds h => specN H ds (h.trans (by kernel_rfl)))
    (ChangeSpec.witness6 (enc := enc) (C := Try.checked) false ⟨#[], #[.int .i64 0, .int .i64 0, .slice none 0 0, .agg #[.slice none 0 0, .int .i64 0, .slice none 0 0], .slice none 0 0], []⟩ 8 (by kernel_rfl) (by kernel_rfl) (by kernel_rfl) (by kernel_rfl)) ?_
  intro W base args ds p hval hA hsz
  have hval' : ∀ (j : Nat) t v, Try.f8.params[j]? = some t → args[j]? = some v → Value.okWide Try.prog W .any base t v := hval
  rw [Try.params8] at hval' hA hsz
  obtain ⟨v0, vs0, d0, ds0, p0, q0, hargs, rfl, rfl, h0, r0⟩ := trodAll_cons hA
  obtain ⟨v1, vs1, d1, ds1, p1, q1, rfl, rfl, rfl, h1, r1⟩ := trodAll_cons r0
  obtain ⟨v2, vs2, d2, ds2, p2, q2, rfl, rfl, rfl, h2, r2⟩ := trodAll_cons r1
  obtain ⟨v3, vs3, d3, ds3, p3, q3, rfl, rfl, rfl, h3, r3⟩ := trodAll_cons r2
  obtain ⟨v4, vs4, d4, ds4, p4, q4, rfl, rfl, rfl, h4, r4⟩ := trodAll_cons r3
  obtain ⟨rfl, rfl, rfl⟩ := trodAll_nil r4
  obtain rfl : args = #[v0, v1, v2, v3, v4] := by cases args; simp_all
  obtain ⟨a0, rfl, rfl, rfl, w0⟩ := open_int Try.underlying3 (hval' 0 3 v0 rfl rfl) h0
  obtain ⟨a1, rfl, rfl, rfl, w1⟩ := open_int Try.underlying3 (hval' 1 3 v1 rfl rfl) h1
  obtain ⟨a2, len2, cap2, rfl⟩ := okWide_slice Try.underlying22 (hval' 2 22 v2 rfl rfl)
  obtain ⟨hw2, hc2, hm2, l2, hr2, hl2⟩ := open_i64s Try.underlying22 Try.underlying3 (by kernel_rfl) h2
  have hlen2 := len_reach hsz (j := 2) (t := 22) rfl rfl Try.underlying22 (of_decide_eq_true (by kernel_rfl)) hw2
  obtain ⟨Aa3, na3, ca3, xa3, Ab3, nb3, cb3, ps3, pot3, rfl, hna3, hnb3, hpa3, hpb3, hwx3⟩ := open_al (hval' 3 28 v3 rfl rfl) h3
  obtain ⟨a4, len4, cap4, rfl⟩ := okWide_slice Try.underlying26 (hval' 4 26 v4 rfl rfl)
  obtain ⟨hm4, l4, hr4⟩ := open_prs' h4
  exact walk a0 a1 a2 len2 cap2 l2 Aa3 na3 ca3 xa3 Ab3 nb3 cb3 ps3 pot3 a4 len4 cap4 l4 W w0 w1 (by omega) hr2 hl2 hna3 hnb3 hpa3 hpb3 hm4 hr4

theorem proved : Rows.SequenceProvesSaid :=
  OpenClaim.holds_of_wide 8 Try.f8 rfl rfl rfl rfl rfl rfl rfl ⟨rfl, rfl, rfl, rfl, rfl⟩ rfl rfl rfl rfl rfl (by kernel_rfl) Try.func8 (by kernel_rfl)
    (of_decide_eq_true (by kernel_rfl)) (by unfold Func.isWrapper; first | (rw [if_pos (by decide +kernel)]; kernel_rfl) | (rw [if_neg (by decide +kernel)]; exact ⟨rfl, rfl⟩))
    (fun os started H enc _ => lifted os started H enc)
end Go.Proofs.Ytaadaekpmblpaaa.sequenceProves
