/-
  SequenceMade: for every input the law returns true, and its arguments are as they were. No condition beside the given statement's own.
-/
import Derived.Test.YtaadaekpmblpaaaSqZ
namespace Go.Proofs.Ytaadaekpmblpaaa.sequenceMade
open Go.ChangeShapes Go.WideShapes Go.ChangeAt Go.RowKit
open Go.ChangeMaps (open_string shut_string)
set_option linter.unusedVariables false

set_option maxRecDepth 100000 in
set_option maxHeartbeats 1600000 in
theorem walk (z1 z2 : Int) (A : Option Addr) (n c : Nat) (l : List Int) (w : World) (v1 : (Lit.int .i64 z1).wf = true) (v2 : (Lit.int .i64 z2).wf = true) (hn : n ≤ maxLen) (hr : Ints w w.heap.size A n l) (hl : ∀ x ∈ l, -9223372036854775808 ≤ x ∧ x ≤ 9223372036854775807) :
    Calls Try.prog 4 #[.int .i64 z1, .int .i64 z2, .slice A n c] w fun e w' => e = .returned (.bool true) ∧ Below w.heap.size w w' := by
  have HA := fun w => Lib.hid (awake_any w)
  have HG := Lib.hid (llight_any A n c w hn)
  have HM1 := Lib.hid (fun w => mod_any z1 9 w (by omega) (by omega) (wf_i64 v1).1 (wf_i64 v1).2)
  have HM2 := Lib.hid (fun w => mod_any z2 9 w (by omega) (by omega) (wf_i64 v2).1 (wf_i64 v2).2)
  obtain ⟨m1, hm1, hm1'⟩ : ∃ m : Nat, z1 % 9 = m ∧ m ≤ 9 := ⟨(z1 % 9).toNat, by omega, by omega⟩
  obtain ⟨m2, hm2, hm2'⟩ : ∃ m : Nat, z2 % 9 = m ∧ m ≤ 9 := ⟨(z2 % 9).toNat, by omega, by omega⟩
  rw [hm1] at HM1
  rw [hm2] at HM2
  clear hm1 hm2
  have HLX := Lib.hid hl
  have HR := Lib.hid hr
  unfold maxLen at hn
  by_cases hle : n ≤ 120
  · rw [decide_eq_true hle] at HG
    clear hl hr
    go_enter Try.func4, Try.ntmps4
    go_wp2_with fail
    refine (HG.out).mono ?_
    rintro e w0 ⟨rfl, rfl⟩
    go_wp2_with fail
    refine (HM1.out _).mono ?_
    rintro e w0 ⟨rfl, rfl⟩
    go_wp2_with fail
    refine (HM2.out _).mono ?_
    rintro e w0 ⟨rfl, rfl⟩
    have HPR := Lib.hid (lawProper_any m1 m2 A n c l w hm1' hm2' (by omega) HR.out HLX.out)
    go_wp2_with fail
    refine (HPR.out).mono ?_
    rintro e w0 ⟨A1, c1, A2, c2, A3, drop, add, cost, rfl, hT, hpr, hb0⟩
    have HT := Lib.hid hT
    have HB0 := Lib.hid hb0
    have HPP := Lib.hid hpr
    clear hT hb0 hpr HPR
    have hre : resE drop add cost = 0 := by unfold resE; rw [HPP.out]; rfl
    have HC := Lib.hid (align_any A1 m1 c1 A2 m2 c2 A3 m1 m1 drop add cost w0 HT.out)
    go_wp2_with fail
    refine (HC.out).mono ?_
    rintro e w1 ⟨A, n, c, A', n', c', rfl, hp1, hm1, hb1⟩
    have hx1 := Blk.new w1 28 #[.slice A n c, .int .i64 (resX drop add cost), .slice A' n' c']
    have hbx := below_alloc w1 (.cells #[.slice A n c, .int .i64 (resX drop add cost), .slice A' n' c'] 28)
    have HC2 := Lib.hid (refAlign_any A1 m1 c1 A2 m2 c2 A3 m1 m1 drop add cost _ ((HT.out.on hb1).on hbx))
    have HP1 := Lib.hid (hp1.on hbx)
    have HM1 := Lib.hid (hm1.on hbx)
    have HX1 := Lib.hid hx1
    have HB1 := Lib.hid (Below.on (Below.on HB0.out hb1) hbx)
    clear hp1 hm1 hb1 hx1 hbx HC
    go_wp2_with fail
    refine (HC2.out).mono ?_
    rintro e w2 ⟨B, k, d, B', k', d', rfl, hp2, hm2, hb2⟩
    have hx2 := Blk.new w2 28 #[.slice B k d, .int .i64 (resX drop add cost), .slice B' k' d']
    have hby := below_alloc w2 (.cells #[.slice B k d, .int .i64 (resX drop add cost), .slice B' k' d'] 28)
    have HB2 := Lib.hid (Below.on (Below.on HB1.out hb2) hby)
    have HP1' := Lib.hid ((HP1.out.on hb2).on hby)
    have HM1' := Lib.hid ((HM1.out.on hb2).on hby)
    have HP2 := Lib.hid (hp2.on hby)
    have HM2 := Lib.hid (hm2.on hby)
    have HX1' := Lib.hid ((HX1.out.below hb2 HX1.out.lt).alloc (.cells #[.slice B k d, .int .i64 (resX drop add cost), .slice B' k' d'] 28))
    have HX2 := Lib.hid hx2
    clear hp2 hm2 hb2 hby hx2 HC2 HP1 HM1 HX1
    go_wp2_with fail
    refine ((HA _).out).mono ?_
    rintro e w3 ⟨rfl, hb3⟩
    have HS := Lib.hid (same_any (c := c) (c1 := c') (c' := d) (c1' := d') (HP1'.out.on hb3) (HM1'.out.on hb3) (HP2.out.on hb3) (HM2.out.on hb3))
    have HB3 := Lib.hid (Below.on HB2.out hb3)
    have y1 := HX1'.out.below hb3 HX1'.out.lt
    have y2 := HX2.out.below hb3 HX2.out.lt
    have p0 := y1.cell 0
    have p1 := y1.cell 1
    have p2 := y1.cell 2
    have q0 := y2.cell 0
    have q1 := y2.cell 1
    have q2 := y2.cell 2
    simp at p0 p1 p2 q0 q1 q2
    clear hb3 y1 y2 HX1' HX2 HP1' HM1' HP2 HM2
    go_wp2_with fail
    refine (HS.out).mono ?_
    rintro e w4 ⟨rfl, hb4⟩
    have HB4 := Lib.hid (Below.on HB3.out hb4)
    clear hb4
    go_wp2_with fail
    go_ret
    exact ⟨rfl, HB4.out⟩
  · rw [decide_eq_false hle] at HG
    clear hl hr
    go_enter Try.func4, Try.ntmps4
    go_wp2_with fail
    refine (HG.out).mono ?_
    rintro e w0 ⟨rfl, rfl⟩
    go_wp2_with fail
    refine ((HA _).out).mono ?_
    rintro e w9 ⟨rfl, hb9⟩
    go_wp2_with fail
    go_ret
    exact ⟨rfl, hb9⟩

theorem own : ownKnob Try.prog.godebug = none := by kernel_rfl
theorem laidOut : laidOutB Try.prog = true := by kernel_rfl
theorem specN (H : Type) (ds : List (DataW H)) (h : ds.length = 3) : Rows.sequenceMadeSpec.fn H (ds ++ []) = { results := [.lit (.bool true)], args := ds } := by
  match ds, h with
  | [_, _, _], _ => rfl

set_option maxRecDepth 100000 in
theorem lifted (os : Os) (started : os.Started) (H : Type) (enc : TypeId × Value → H) :
    ReturnsInHanded {} Try.checked os 4 .any (Rows.sequenceMadeSpec.pre6 enc Try.prog Try.f4 Rows.sequenceMadeRow.domain false) (Rows.sequenceMadeSpec.post enc Try.prog Try.f4 false true false false) := by
  refine law_of_walk (C := Try.checked) own started (by kernel_rfl) Try.func4 rfl rfl Try.underlying4 laidOut (by kernel_rfl) (fun ds h => specN H ds (h.trans (by kernel_rfl)))
    (ChangeSpec.witness6 (enc := enc) (C := Try.checked) false ⟨#[], #[.int .i64 0, .int .i64 0, .slice none 0 0], []⟩ 8 (by kernel_rfl) (by kernel_rfl) (by kernel_rfl) (by kernel_rfl)) ?_
  intro W base args ds p hval hA hsz
  have hval' : ∀ (j : Nat) t v, Try.f4.params[j]? = some t → args[j]? = some v → Value.okWide Try.prog W .any base t v := hval
  rw [Try.params4] at hval' hA hsz
  obtain ⟨v0, vs0, d0, ds0, p0, q0, hargs, rfl, rfl, h0, r0⟩ := trodAll_cons hA
  obtain ⟨v1, vs1, d1, ds1, p1, q1, rfl, rfl, rfl, h1, r1⟩ := trodAll_cons r0
  obtain ⟨v2, vs2, d2, ds2, p2, q2, rfl, rfl, rfl, h2, r2⟩ := trodAll_cons r1
  obtain ⟨rfl, rfl, rfl⟩ := trodAll_nil r2
  obtain rfl : args = #[v0, v1, v2] := by cases args; simp_all
  obtain ⟨a0, rfl, rfl, rfl, w0⟩ := open_int Try.underlying3 (hval' 0 3 v0 rfl rfl) h0
  obtain ⟨a1, rfl, rfl, rfl, w1⟩ := open_int Try.underlying3 (hval' 1 3 v1 rfl rfl) h1
  obtain ⟨a2, len2, cap2, rfl⟩ := okWide_slice Try.underlying22 (hval' 2 22 v2 rfl rfl)
  obtain ⟨hw2, hc2, hm2, l2, hr2, hl2⟩ := open_i64s Try.underlying22 Try.underlying3 (by kernel_rfl) h2
  have hlen2 := len_reach hsz (j := 2) (t := 22) rfl rfl Try.underlying22 (of_decide_eq_true (by kernel_rfl)) hw2
  exact walk a0 a1 a2 len2 cap2 l2 W w0 w1 (by omega) hr2 hl2

theorem proved : Rows.SequenceMadeSaid :=
  OpenClaim.holds_of_wide 4 Try.f4 rfl rfl rfl rfl rfl rfl rfl ⟨rfl, rfl, rfl, rfl, rfl⟩ rfl rfl rfl rfl rfl (by kernel_rfl) Try.func4 (by kernel_rfl)
    (of_decide_eq_true (by kernel_rfl)) (by unfold Func.isWrapper; first | (rw [if_pos (by decide +kernel)]; kernel_rfl) | (rw [if_neg (by decide +kernel)]; exact ⟨rfl, rfl⟩))
    (fun os started H enc _ => lifted os started H enc)
end Go.Proofs.Ytaadaekpmblpaaa.sequenceMade
