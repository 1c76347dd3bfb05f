/-
  WireInts: for every input the law returns true, and its arguments are as they were. No condition beside the given statement's own.
-/
import Derived.Test.YtnnclopojiegfaaAwake
import Derived.Test.YtnnclopojiegfaaRow
namespace Go.Proofs.Ytnnclopojiegfaa.wireInts
open Go.ChangeShapes Go.WideShapes Go.ChangeAt Go.RowKit
open Go.ChangeMaps (open_string shut_string)
set_option linter.unusedVariables false

theorem own : ownKnob Try.prog.godebug = none := by kernel_rfl
theorem laidOut : laidOutB Try.prog = true := by kernel_rfl

set_option maxRecDepth 100000 in
set_option maxHeartbeats 400000 in
/-- The law's walk: it returns true, and writes nothing that was there. -/
theorem walk (a0 : Option Addr) (len0 cap0 : Nat) (a1 : Int) (a2 : Int) (w : World) (bs : List Nat) (hm : len0 ≤ maxLen) (hr : Reads w w.heap.size 1 a0 len0 (bs.map byt)) (hbs : ∀ x ∈ bs, x < 256) (w1 : (Lit.int .i64 a1).wf = true) (w2 : (Lit.int .i64 a2).wf = true) :
    Calls Try.prog 3 #[.slice a0 len0 cap0, .int .i64 a1, .int .i64 a2] w fun e w' => e = .returned (.bool true) ∧ Below w.heap.size w w' := by
  unfold maxLen at hm
  have v1 := wf_i64 w1
  have HA := fun W => Lib.hid (awake_any W)
  by_cases hn : 2000 < len0
  · clear hr hbs w1 w2 v1
    go_enter Try.func3, Try.ntmps3
    go_wp2_with fail
    refine ((HA _).out).mono ?_
    rintro e w1 ⟨rfl, hb⟩
    have HB := Lib.hid hb
    clear hb HA
    go_wp2_with fail
    go_ret
    exact ⟨rfl, HB.out⟩
  · have hl : bs.length = len0 := by have := hr.1; simpa using this
    have H1 := Lib.hid (getInt_any a0 len0 cap0 a2 bs w (by omega) hr hbs)
    have HR := Lib.hid hr
    have HS := Lib.hid hbs
    have HL := Lib.hid hl
    have hall : ∀ x ∈ bs ++ encI a1, x < 256 := fun x hx => by
      rcases List.mem_append.1 hx with h | h
      · exact hbs x h
      · exact encI_byte _ x h
    obtain ⟨all, he⟩ : ∃ all, all = bs ++ encI a1 := ⟨_, rfl⟩
    rw [← he] at hall
    have HALL := Lib.hid hall
    have HE := Lib.hid he
    have HV := Lib.hid v1
    clear hr hbs w1 w2 v1 hl hall he
    obtain ⟨x1, x2, x3, hres⟩ : ∃ x1 x2 x3 : Int, resI (getI bs a2) = .returned (.tuple #[.int .i64 x1, .int .i64 x2, .int .i64 x3]) := by
      cases getI bs a2 with
      | none => exact ⟨0, 0, 13, rfl⟩
      | some y => exact ⟨y.1, y.2, 0, rfl⟩
    rw [hres] at H1
    have HRES := Lib.hid hres
    clear hres
    go_enter Try.func3, Try.ntmps3
    go_wp2_with fail
    refine (H1.out).mono ?_
    rintro e y1 ⟨rfl, hb1⟩
    have hr1 := HR.out.below hb1
    have h2 := refGetInt_any a0 len0 cap0 a2 bs y1 (by omega) _ hr1 HS.out
    rw [HRES.out] at h2
    have H2 := Lib.hid h2
    have HB1 := Lib.hid hb1
    clear H1 hb1 hr1 h2
    go_wp2_with fail
    refine (H2.out).mono ?_
    rintro e y1' ⟨rfl, rfl⟩
    have h3 := int_any a0 len0 cap0 bs a1 y1 (by omega) ((HR.out.below HB1.out).more HB1.out.size) HV.out.1 HV.out.2
    rw [← HE.out] at h3
    have H3 := Lib.hid h3
    clear h3 H2
    go_wp2_with fail
    refine (H3.out).mono ?_
    rintro e y2 ⟨v2, rfl, hown2, hb2⟩
    have HB2 := Lib.hid (HB1.out.trans (hb2.mono HB1.out.size))
    obtain ⟨A2, c2, rfl, hr2⟩ := new_reads hown2
    have h4 := refInt_any a0 len0 cap0 bs a1 y2 (by omega) ((HR.out.below HB2.out).more HB2.out.size) HV.out.1 HV.out.2
    rw [← HE.out] at h4
    have H4 := Lib.hid h4
    have HR2 := Lib.hid hr2
    clear h4 H3 hown2 hr2 hb2
    go_wp2_with fail
    refine (H4.out).mono ?_
    rintro e y3 ⟨v3, rfl, hown3, hb3⟩
    have HB3 := Lib.hid (HB2.out.trans (hb3.mono HB2.out.size))
    obtain ⟨A3, c3, rfl, hr3⟩ := new_reads hown3
    have H5 := Lib.hid (same_eq A2 A3 _ c2 c3 _ _ _ y3 (HR2.out.below hb3) hr3 HALL.out)
    clear H4 hown3 hr3 hb3 HR2
    go_wp2_with fail
    refine (H5.out).mono ?_
    rintro e y3' ⟨rfl, rfl⟩
    clear H5
    go_wp2_with fail
    refine ((HA _).out).mono ?_
    rintro e y4 ⟨rfl, hb4⟩
    have HB4 := Lib.hid (HB3.out.trans (hb4.mono HB3.out.size))
    clear hb4 HA
    go_wp2_with fail
    go_ret
    exact ⟨rfl, HB4.out⟩

/-! ### THE ROW's STEP: WRITTEN OUT: LEAVE IT -/
set_option maxRecDepth 100000 in
theorem lifted (os : Os) (started : os.Started) (H : Type) (enc : TypeId × Value → H) :
    ReturnsInHanded {} Try.checked os 3 .any (Rows.wireIntsSpec.pre6 enc Try.prog Try.f3 Rows.wireIntsRow.domain false) (Rows.wireIntsSpec.post enc Try.prog Try.f3 false true false false) := by
  refine returnsInHanded_of_change (C := Try.checked) own started (by kernel_rfl) Try.func3
    (ChangeSpec.witness6 (enc := enc) (C := Try.checked) false ⟨#[], #[.slice none 0 0, .int .i64 0, .int .i64 0], []⟩ 8 (by kernel_rfl) (by kernel_rfl) (by kernel_rfl) (by kernel_rfl)) ?_
  intro W base args ds gs before hval0 hW hcnd _
  have hval : ∀ (j : Nat) t v, Try.f3.params[j]? = some t → args[j]? = some v → Value.okWide Try.prog W .any base t v := hval0
  have hW' := hW
  obtain ⟨p, q, hA0, hV, rfl, hfz, hnd⟩ := hW
  have hA : DataW.TrodAll enc Try.prog W 0 (fun _ => true) true Try.f3.params.toList args.toList ds p := hA0
  rw [Try.params3] at hA hval
  obtain ⟨v0, vs0, d0, ds0, p0, q0, hargs, rfl, rfl, h0, r0⟩ := trodAll_cons hA
  obtain ⟨v1, vs1, d1, ds1, p1, q1, rfl, rfl, rfl, h1, r1⟩ := trodAll_cons r0
  obtain ⟨v2, vs2, d2, ds2, p2, q2, rfl, rfl, rfl, h2, r2⟩ := trodAll_cons r1
  obtain ⟨rfl, rfl, rfl⟩ := trodAll_nil r2
  obtain rfl : args = #[v0, v1, v2] := by cases args; simp_all
  obtain ⟨rfl, rfl⟩ := trodVars_none hV
  obtain ⟨a0, len0, cap0, rfl⟩ := okWide_slice Try.underlying22 (hval 0 22 v0 rfl rfl)
  have k0 := h0
  have lt0 : ∀ x ∈ p0, x.block < W.heap.size := by obtain ⟨m, hm⟩ := k0; exact DataW.trod_lt m _ _ _ hm
  obtain ⟨hm0, bs0, hr0, hbs0⟩ := open_bytes Try.underlying22 Try.underlying5 (by kernel_rfl) h0
  obtain ⟨a1, rfl, rfl, rfl, w1⟩ := open_int Try.underlying3 (hval 1 3 v1 rfl rfl) h1
  obtain ⟨a2, rfl, rfl, rfl, w2⟩ := open_int Try.underlying3 (hval 2 3 v2 rfl rfl) h2
  clear hA0 hval0
  refine (walk a0 len0 cap0 a1 a2 W bs0 hm0 hr0 hbs0 w1 w2).mono fun e W' ⟨he, bel⟩ => ?_
  subst he
  exact ⟨_, rfl, _, _, _, [], _, [], hW', trodAll_mk1 (shut_bool Try.underlying4 _), (trodAll_cons_mk (Below.trod laidOut (by kernel_rfl) (of_decide_eq_true (by kernel_rfl)) k0 bel lt0) (trodAll_cons_mk (shut_int Try.underlying3 w1) (trodAll_cons_mk (shut_int Try.underlying3 w2) trodAll_mk0))), rfl, bel.frame _, fun h => by cases h⟩

theorem over : Rows.wireIntsRow.holds Try.pinned (OpenSpec.ofChange Rows.wireIntsSpec) :=
  OpenClaim.holds_of_wide 3 Try.f3 rfl rfl rfl rfl rfl rfl rfl ⟨rfl, rfl, rfl, rfl, rfl⟩ rfl rfl rfl rfl rfl (by kernel_rfl) Try.func3 (by kernel_rfl)
    (of_decide_eq_true (by kernel_rfl)) (by unfold Func.isWrapper; first | (rw [if_pos (by decide +kernel)]; kernel_rfl) | (rw [if_neg (by decide +kernel)]; exact ⟨rfl, rfl⟩))
    (fun os started H enc _ => lifted os started H enc)

/-- ████ THE STATEMENT ████ -/
theorem proved : Rows.WireIntsSaid := over
end Go.Proofs.Ytnnclopojiegfaa.wireInts
