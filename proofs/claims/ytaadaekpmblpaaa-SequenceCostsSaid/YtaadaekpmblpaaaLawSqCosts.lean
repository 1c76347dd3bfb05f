/-
  SequenceCosts: for every input the law returns true, and its arguments are as they were. No condition beside the given statement's own.
-/
import Derived.Test.YtaadaekpmblpaaaSqZ
namespace Go.Proofs.Ytaadaekpmblpaaa.sequenceCosts
open Go.ChangeShapes Go.WideShapes Go.ChangeAt Go.RowKit
open Go.ChangeMaps (open_string shut_string)
set_option linter.unusedVariables false

set_option maxRecDepth 100000 in
set_option maxHeartbeats 1600000 in
theorem walk (z1 z2 : Int) (A : Option Addr) (n c : Nat) (l : List Int) (Ap : Option Addr) (np cp : Nat) (ps : List (Int × Int)) (Ar : Option Addr) (nr cr : Nat) (raw : List (List Int)) (w : World) (v1 : (Lit.int .i64 z1).wf = true) (v2 : (Lit.int .i64 z2).wf = true) (hn : n ≤ maxLen) (hr : Ints w w.heap.size A n l) (hl : ∀ x ∈ l, -9223372036854775808 ≤ x ∧ x ≤ 9223372036854775807) (hnp : np ≤ maxLen) (hps : Prs w w.heap.size Ap np ps) (hraw : Mat w w.heap.size Ar nr raw) :
    Calls Try.prog 5 #[.int .i64 z1, .int .i64 z2, .slice A n c, .slice Ap np cp, .slice Ar nr cr] w fun e w' => e = .returned (.bool true) ∧ Below w.heap.size w w' := by
  have HA := fun w => Lib.hid (awake_any w)
  have HG := Lib.hid (llight_any A n c w hn)
  have HM1 := Lib.hid (fun w => mod_any z1 9 w (by omega) (by omega) (wf_i64 v1).1 (wf_i64 v1).2)
  have HM2 := Lib.hid (fun w => mod_any z2 9 w (by omega) (by omega) (wf_i64 v2).1 (wf_i64 v2).2)
  obtain ⟨m1, hm1, hm1'⟩ : ∃ m : Nat, z1 % 9 = m ∧ m ≤ 9 := ⟨(z1 % 9).toNat, by omega, by omega⟩
  obtain ⟨m2, hm2, hm2'⟩ : ∃ m : Nat, z2 % 9 = m ∧ m ≤ 9 := ⟨(z2 % 9).toNat, by omega, by omega⟩
  rw [hm1] at HM1
  rw [hm2] at HM2
  clear hm1 hm2
  have HLX := Lib.hid hl
  have HR := Lib.hid hr
  have HPS := Lib.hid hps
  have HRA := Lib.hid hraw
  have HLI := Lib.hid (light_any none 0 0 none 0 0 Ar nr cr _ [] [] raw w rfl rfl hraw)
  unfold maxLen at hn hnp
  clear hl hr hps hraw
  by_cases hle : n ≤ 120
  rotate_left
  · rw [decide_eq_false hle] at HG
    go_enter Try.func5, Try.ntmps5
    go_wp2_with fail
    refine (HG.out).mono ?_
    rintro e w0 ⟨rfl, rfl⟩
    go_wp2_with fail
    refine ((HA _).out).mono ?_
    rintro e w9 ⟨rfl, hb9⟩
    go_wp2_with fail
    go_ret
    exact ⟨rfl, hb9⟩
  rw [decide_eq_true hle] at HG
  by_cases hlp : 40 < np
  · have dlp : decide (40 < np) = true := by simpa using hlp
    have dlp' : decide ((40 : Int) < (np : Int)) = true := decide_eq_true (by omega)
    go_enter Try.func5, Try.ntmps5
    go_wp2_with fail
    refine (HG.out).mono ?_
    rintro e w0 ⟨rfl, rfl⟩
    go_wp2_with fail
    refine ((HA _).out).mono ?_
    rintro e w9 ⟨rfl, hb9⟩
    go_wp2_with fail
    go_ret
    exact ⟨rfl, hb9⟩
  have dlp : decide (40 < np) = false := by simpa using hlp
  have dlp' : decide ((40 : Int) < (np : Int)) = false := decide_eq_false (by omega)
  cases hli : lightL [] [] raw with
  | false =>
    rw [hli] at HLI
    clear hli
    go_enter Try.func5, Try.ntmps5
    go_wp2_with fail
    refine (HG.out).mono ?_
    rintro e w0 ⟨rfl, rfl⟩
    go_wp2_with fail
    refine (HLI.out).mono ?_
    rintro e w0 ⟨rfl, rfl⟩
    go_wp2_with fail
    refine ((HA _).out).mono ?_
    rintro e w9 ⟨rfl, hb9⟩
    go_wp2_with fail
    go_ret
    exact ⟨rfl, hb9⟩
  | true =>
    have HLQ := Lib.hid (light_parts hli)
    rw [hli] at HLI
    clear hli
    go_enter Try.func5, Try.ntmps5
    go_wp2_with fail
    refine (HG.out).mono ?_
    rintro e w0 ⟨rfl, rfl⟩
    go_wp2_with fail
    refine (HLI.out).mono ?_
    rintro e w0 ⟨rfl, rfl⟩
    go_wp2_with fail
    refine (HM1.out _).mono ?_
    rintro e w0 ⟨rfl, rfl⟩
    go_wp2_with fail
    refine (HM2.out _).mono ?_
    rintro e w0 ⟨rfl, rfl⟩
    have HPR := Lib.hid (lawProper_any m1 m2 A n c l w hm1' hm2' (by omega) HR.out HLX.out)
    go_wp2_with fail
    refine (HPR.out).mono ?_
    rintro e w0 ⟨A1, c1, A2, c2, A3, drop, add, cost, rfl, hT, hpr, hb0⟩
    have HT := Lib.hid hT
    have HB0 := Lib.hid hb0
    have HPP := Lib.hid hpr
    clear hT hb0 hpr HPR
    have hTr : Three w0 w0.heap.size A1 m1 A2 m2 Ar nr drop add raw := by
      have hh := Mat.on HRA.out HB0.out
      have hlen := Mat.len hh
      obtain ⟨-, -, q3, q4⟩ := HLQ.out
      exact ⟨HT.out.d, HT.out.a, hh, HT.out.l1, HT.out.l2, by omega, fun r hr => by have := q4 r hr; omega⟩
    have HTR := Lib.hid hTr
    have HPS0 := Lib.hid (HPS.out.on HB0.out)
    have HC1 := Lib.hid (cost_any A1 m1 c1 A2 m2 c2 A3 m1 m1 Ap np cp drop add cost ps w0 HT.out HPS0.out (by omega))
    obtain ⟨⟨r1, r2⟩, hr⟩ : ∃ r, costL drop add cost ps = r := ⟨_, rfl⟩
    obtain ⟨⟨s1, s2⟩, hs⟩ : ∃ r, costL drop add raw ps = r := ⟨_, rfl⟩
    have HCR := Lib.hid hr
    have HCS := Lib.hid hs
    rw [hr] at HC1
    clear hr hs hTr
    go_wp2_with fail
    refine (HC1.out).mono ?_
    rintro e w1 ⟨rfl, hb1⟩
    have HB1 := Lib.hid (Below.on HB0.out hb1)
    have HT1 := Lib.hid (HT.out.on hb1)
    have HTR1 := Lib.hid (HTR.out.on hb1)
    have HPS1 := Lib.hid (HPS0.out.on hb1)
    have HC2 := Lib.hid (refCostB A1 m1 c1 A2 m2 c2 A3 m1 m1 Ap np cp drop add cost ps w1 HT1.out HPS1.out (by omega))
    rw [HCR.out] at HC2
    clear hb1 HC1
    go_wp2_with fail
    refine (HC2.out).mono ?_
    rintro e w2 ⟨rfl, hb2⟩
    have HB2 := Lib.hid (Below.on HB1.out hb2)
    have HTR2 := Lib.hid (HTR1.out.on hb2)
    have HPS2 := Lib.hid (HPS1.out.on hb2)
    have HC3 := Lib.hid (cost_any A1 m1 c1 A2 m2 c2 Ar nr cr Ap np cp drop add raw ps w2 HTR2.out HPS2.out (by omega))
    rw [HCS.out] at HC3
    clear hb2 HC2
    go_wp2_with fail
    refine (HC3.out).mono ?_
    rintro e w3 ⟨rfl, hb3⟩
    have HB3 := Lib.hid (Below.on HB2.out hb3)
    have HTR3 := Lib.hid (HTR2.out.on hb3)
    have HPS3 := Lib.hid (HPS2.out.on hb3)
    have HC4 := Lib.hid (refCostB A1 m1 c1 A2 m2 c2 Ar nr cr Ap np cp drop add raw ps w3 HTR3.out HPS3.out (by omega))
    rw [HCS.out] at HC4
    clear hb3 HC3
    go_wp2_with fail
    refine (HC4.out).mono ?_
    rintro e w4 ⟨rfl, hb4⟩
    have HB4 := Lib.hid (Below.on HB3.out hb4)
    clear hb4 HC4
    go_wp2_with fail
    refine ((HA _).out).mono ?_
    rintro e w5 ⟨rfl, hb5⟩
    have HB5 := Lib.hid (Below.on HB4.out hb5)
    clear hb5
    go_wp2_with fail
    go_ret
    exact ⟨rfl, HB5.out⟩

theorem own : ownKnob Try.prog.godebug = none := by kernel_rfl
theorem laidOut : laidOutB Try.prog = true := by kernel_rfl
theorem specN (H : Type) (ds : List (DataW H)) (h : ds.length = 5) : Rows.sequenceCostsSpec.fn H (ds ++ []) = { results := [.lit (.bool true)], args := ds } := by
  match ds, h with
  | [_, _, _, _, _], _ => rfl

set_option maxRecDepth 100000 in
theorem lifted (os : Os) (started : os.Started) (H : Type) (enc : TypeId × Value → H) :
    ReturnsInHanded {} Try.checked os 5 .any (Rows.sequenceCostsSpec.pre6 enc Try.prog Try.f5 Rows.sequenceCostsRow.domain false) (Rows.sequenceCostsSpec.post enc Try.prog Try.f5 false true false false) := by
  refine law_of_walk (C := Try.checked) own started (by kernel_rfl) Try.func5 rfl rfl Try.underlying4 laidOut (by kernel_rfl) (fun ds h => specN H ds (h.trans (by kernel_rfl)))
    (ChangeSpec.witness6 (enc := enc) (C := Try.checked) false ⟨#[], #[.int .i64 0, .int .i64 0, .slice none 0 0, .slice none 0 0, .slice none 0 0], []⟩ 8 (by kernel_rfl) (by kernel_rfl) (by kernel_rfl) (by kernel_rfl)) ?_
  intro W base args ds p hval hA hsz
  have hval' : ∀ (j : Nat) t v, Try.f5.params[j]? = some t → args[j]? = some v → Value.okWide Try.prog W .any base t v := hval
  rw [Try.params5] at hval' hA hsz
  obtain ⟨v0, vs0, d0, ds0, p0, q0, hargs, rfl, rfl, h0, r0⟩ := trodAll_cons hA
  obtain ⟨v1, vs1, d1, ds1, p1, q1, rfl, rfl, rfl, h1, r1⟩ := trodAll_cons r0
  obtain ⟨v2, vs2, d2, ds2, p2, q2, rfl, rfl, rfl, h2, r2⟩ := trodAll_cons r1
  obtain ⟨v3, vs3, d3, ds3, p3, q3, rfl, rfl, rfl, h3, r3⟩ := trodAll_cons r2
  obtain ⟨v4, vs4, d4, ds4, p4, q4, rfl, rfl, rfl, h4, r4⟩ := trodAll_cons r3
  obtain ⟨rfl, rfl, rfl⟩ := trodAll_nil r4
  obtain rfl : args = #[v0, v1, v2, v3, v4] := by cases args; simp_all
  obtain ⟨a0, rfl, rfl, rfl, w0⟩ := open_int Try.underlying3 (hval' 0 3 v0 rfl rfl) h0
  obtain ⟨a1, rfl, rfl, rfl, w1⟩ := open_int Try.underlying3 (hval' 1 3 v1 rfl rfl) h1
  obtain ⟨a2, len2, cap2, rfl⟩ := okWide_slice Try.underlying22 (hval' 2 22 v2 rfl rfl)
  obtain ⟨hw2, hc2, hm2, l2, hr2, hl2⟩ := open_i64s Try.underlying22 Try.underlying3 (by kernel_rfl) h2
  have hlen2 := len_reach hsz (j := 2) (t := 22) rfl rfl Try.underlying22 (of_decide_eq_true (by kernel_rfl)) hw2
  obtain ⟨a3, len3, cap3, rfl⟩ := okWide_slice Try.underlying26 (hval' 3 26 v3 rfl rfl)
  obtain ⟨hm3, l3, hr3⟩ := open_prs' h3
  obtain ⟨a4, len4, cap4, rfl⟩ := okWide_slice Try.underlying23 (hval' 4 23 v4 rfl rfl)
  obtain ⟨hm4, l4, hr4⟩ := open_mat' h4
  exact walk a0 a1 a2 len2 cap2 l2 a3 len3 cap3 l3 a4 len4 cap4 l4 W w0 w1 (by omega) hr2 hl2 hm3 hr3 hr4

theorem proved : Rows.SequenceCostsSaid :=
  OpenClaim.holds_of_wide 5 Try.f5 rfl rfl rfl rfl rfl rfl rfl ⟨rfl, rfl, rfl, rfl, rfl⟩ rfl rfl rfl rfl rfl (by kernel_rfl) Try.func5 (by kernel_rfl)
    (of_decide_eq_true (by kernel_rfl)) (by unfold Func.isWrapper; first | (rw [if_pos (by decide +kernel)]; kernel_rfl) | (rw [if_neg (by decide +kernel)]; exact ⟨rfl, rfl⟩))
    (fun os started H enc _ => lifted os started H enc)
end Go.Proofs.Ytaadaekpmblpaaa.sequenceCosts
