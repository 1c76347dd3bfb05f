/-
  TreeSames: for every input the law returns true, and its arguments are as they were. No condition beside the given statement's own.
-/
import Derived.Test.YthaepakpeamajaaTrP
namespace Go.Proofs.Ythaepakpeamajaa.treeSames
open Go.ChangeShapes Go.WideShapes Go.ChangeAt Go.RowKit
open Go.ChangeMaps (open_string shut_string)
set_option linter.unusedVariables false

set_option maxRecDepth 100000 in
set_option maxHeartbeats 3200000 in
theorem walk (a b : TX) (w : World) (ha : Tr w w.heap.size a) (hb : Tr w w.heap.size b) :
    Calls Try.prog 4 #[a.val, b.val] w fun e w' => e = .returned (.bool true) ∧ Below w.heap.size w w' := by
  unfold TX.val
  obtain ⟨W, hW⟩ : ∃ W, (w.alloc (.cells #[.int .i64 a.kind, .string a.text, .slice a.lA a.leads.length a.lc, .slice a.kA a.kids.length a.kc] 25)).alloc (.cells #[.int .i64 b.kind, .string b.text, .slice b.lA b.leads.length b.lc, .slice b.kA b.kids.length b.kc] 25) = W := ⟨_, rfl⟩
  have HBW : Hid (Below w.heap.size w W) := by subst hW; exact ((Below.refl _ w).alloc (Nat.le_refl _) _).alloc (by simp) _
  have HX : Hid (Blk W w.heap.size 25 #[.int .i64 a.kind, .string a.text, .slice a.lA a.leads.length a.lc, .slice a.kA a.kids.length a.kc]) := by subst hW; exact (Blk.new w 25 _).alloc _
  have HY : Hid (Blk W (w.heap.size + 1) 25 #[.int .i64 b.kind, .string b.text, .slice b.lA b.leads.length b.lc, .slice b.kA b.kids.length b.kc]) := by subst hW; exact Blk.new' 25 _ (by simp)
  have c0 := HX.out.cell 0
  have c1 := HX.out.cell 1
  have c2 := HX.out.cell 2
  have c3 := HX.out.cell 3
  simp at c0 c1 c2 c3
  have HTA := Lib.hid (ha.up (Nat.le_refl _) HBW.out)
  have HTB := Lib.hid (hb.up (Nat.le_refl _) HBW.out)
  have HL := Lib.hid (light_any a none 0 0 W HTA.out (by omega))
  unfold TX.val at HL
  clear ha hb
  go_enter Try.func4, Try.ntmps4
  go_wp2_with fail
  refine (HL.out).mono ?_
  rintro e w1 ⟨rfl, hb1⟩
  have HB1 := Lib.hid hb1
  generalize (decide (wrap64 (a.plain.size : Int) ≤ 300) && decide (0 ≤ 100)) = bl
  clear hb1 HL
  cases bl
  · go_wp2_with fail
    refine (awake_any _).mono ?_
    rintro e w8 ⟨rfl, hb8⟩
    have HB8 := Lib.hid (HBW.out.trans ((HB1.out.trans (hb8.mono HB1.out.size)).mono HBW.out.size))
    clear hb8
    go_wp2_with fail
    go_ret
    exact ⟨rfl, HB8.out⟩
  · have HY1 := Lib.hid (HY.out.below HB1.out HY.out.lt)
    have d0 := HY1.out.cell 0
    have d1 := HY1.out.cell 1
    have d2 := HY1.out.cell 2
    have d3 := HY1.out.cell 3
    simp at d0 d1 d2 d3
    have HL := Lib.hid (light_any b none 0 0 w1 (HTB.out.up (Nat.le_refl _) HB1.out) (by omega))
    unfold TX.val at HL
    go_wp2_with fail
    refine (HL.out).mono ?_
    rintro e w2 ⟨rfl, hb2⟩
    have HB2 := Lib.hid (HB1.out.trans (hb2.mono HB1.out.size))
    generalize (decide (wrap64 (b.plain.size : Int) ≤ 300) && decide (0 ≤ 100)) = bl
    clear hb2 HL d0 d1 d2 d3
    cases bl
    · go_wp2_with fail
      refine (awake_any _).mono ?_
      rintro e w8 ⟨rfl, hb8⟩
      have HB8 := Lib.hid (HBW.out.trans ((HB2.out.trans (hb8.mono HB2.out.size)).mono HBW.out.size))
      clear hb8
      go_wp2_with fail
      go_ret
      exact ⟨rfl, HB8.out⟩
    · have HTA2 := Lib.hid (HTA.out.up (Nat.le_refl _) HB2.out)
      have HTB2 := Lib.hid (HTB.out.up (Nat.le_refl _) HB2.out)
      have HX2 := Lib.hid (HX.out.below HB2.out HX.out.lt)
      have HY2 := Lib.hid (HY.out.below HB2.out HY.out.lt)
      have HSK : Hid (∀ w' : World, Below w2.heap.size w2 w' → w'.cell? ⟨w.heap.size, 0, none⟩ = some (.int .i64 a.kind) ∧ w'.cell? ⟨w.heap.size, 1, none⟩ = some (.string a.text) ∧ w'.cell? ⟨w.heap.size, 2, none⟩ = some (.slice a.lA a.leads.length a.lc) ∧ w'.cell? ⟨w.heap.size, 3, none⟩ = some (.slice a.kA a.kids.length a.kc) ∧ w'.cell? ⟨w.heap.size + 1, 0, none⟩ = some (.int .i64 b.kind) ∧ w'.cell? ⟨w.heap.size + 1, 1, none⟩ = some (.string b.text) ∧ w'.cell? ⟨w.heap.size + 1, 2, none⟩ = some (.slice b.lA b.leads.length b.lc) ∧ w'.cell? ⟨w.heap.size + 1, 3, none⟩ = some (.slice b.kA b.kids.length b.kc)) := fun w' hw => by
        have q1 := HX2.out.below hw HX2.out.lt
        have q2 := HY2.out.below hw HY2.out.lt
        exact ⟨by rw [q1.cell]; rfl, by rw [q1.cell]; rfl, by rw [q1.cell]; rfl, by rw [q1.cell]; rfl, by rw [q2.cell]; rfl, by rw [q2.cell]; rfl, by rw [q2.cell]; rfl, by rw [q2.cell]; rfl⟩
      have HD : Hid (Below w2.heap.size w2 w2.drew) := below_drewN (Below.refl _ _) 1
      clear hW c0 c1 c2 c3
      go_upto_region 3 with fail
      go_region_held3 (fun w' => w'.cell? ⟨w.heap.size, 0, none⟩ = some (.int .i64 a.kind) ∧ w'.cell? ⟨w.heap.size, 1, none⟩ = some (.string a.text) ∧ w'.cell? ⟨w.heap.size, 2, none⟩ = some (.slice a.lA a.leads.length a.lc) ∧ w'.cell? ⟨w.heap.size, 3, none⟩ = some (.slice a.kA a.kids.length a.kc) ∧ w'.cell? ⟨w.heap.size + 1, 0, none⟩ = some (.int .i64 b.kind) ∧ w'.cell? ⟨w.heap.size + 1, 1, none⟩ = some (.string b.text) ∧ w'.cell? ⟨w.heap.size + 1, 2, none⟩ = some (.slice b.lA b.leads.length b.lc) ∧ w'.cell? ⟨w.heap.size + 1, 3, none⟩ = some (.slice b.kA b.kids.length b.kc)) (first | exact HSK.out _ HD.out | exact HSK.out _ HA1.out | exact HSK.out _ HA2.out | exact HSK.out _ HA3.out | exact HSK.out _ HA4.out | exact HSK.out _ HA5.out | exact HSK.out _ HA6.out | exact HSK.out _ HA7.out) (first | (go_at_call 13; refine (rsame_any r1 r2 _ HR1.out HR2.out).mono ?_; intro e w10 hq; obtain ⟨rfl, hb10⟩ := hq.yes HRP.out; have HA7 := Lib.hid (HA6.out.trans (hb10.mono HA6.out.size)); clear hb10 hq) | (go_at_call 18; refine (rbare_any a _ (HTA2.out.up (Nat.le_refl _) HA5.out)).mono ?_; rintro e w9 ⟨r2, rfl, hp9, ht9, -, hb9⟩; have HR2 := Lib.hid ht9; have HR1 := Lib.hid (HR0.out.up (Nat.le_refl _) hb9); have HRP := Lib.hid (HP0.out.trans hp9.symm); have HA6 := Lib.hid (HA5.out.trans (hb9.mono HA5.out.size)); clear hb9 hp9 ht9; unfold TX.val) | (go_at_call 17; refine (bare_any a _ (HTA2.out.up (Nat.le_refl _) HA4.out)).mono ?_; rintro e w8 ⟨r1, rfl, hp8, hf8, hb8⟩; have HR0 := Lib.hid hf8.tr; have HP0 := Lib.hid hp8; have HA5 := Lib.hid (HA4.out.trans (hb8.mono HA4.out.size)); clear hb8 hp8 hf8; unfold TX.val) | (go_at_call 16; refine (same_any a a _ (HTA2.out.up (Nat.le_refl _) HA3.out) (HTA2.out.up (Nat.le_refl _) HA3.out)).mono ?_; intro e w7 hq; obtain ⟨rfl, hb7⟩ := hq.yes rfl; have HA4 := Lib.hid (HA3.out.trans (hb7.mono HA3.out.size)); clear hb7 hq) | (go_at_call 13; refine (rsame_any a b _ (HTA2.out.up (Nat.le_refl _) HA2.out) (HTB2.out.up (Nat.le_refl _) HA2.out)).mono ?_; rintro e w6 ⟨b2, hv2, rfl, hb6⟩; obtain rfl : b2 = b1 := Bool.eq_iff_iff.2 (hv2.trans HV1.out.symm); have HA3 := Lib.hid (HA2.out.trans (hb6.mono HA2.out.size)); clear hb6 hv2) | (go_at_call 16; refine (same_any a b _ (HTA2.out.up (Nat.le_refl _) HA1.out) (HTB2.out.up (Nat.le_refl _) HA1.out)).mono ?_; rintro e w5 ⟨b1, hv1, rfl, hb5⟩; have HV1 := Lib.hid hv1; have HA2 := Lib.hid (HA1.out.trans (hb5.mono HA1.out.size)); clear hb5 hv1) | (go_at_call 10; refine (awake_any _).mono ?_; rintro e w4 ⟨rfl, hb4⟩; have HA1 := Lib.hid (HD.out.trans (hb4.mono HD.out.size)); clear hb4))
      go_wp2_with fail
      go_ret
      exact ⟨rfl, HBW.out.trans ((HB2.out.trans (HA7.out.mono HB2.out.size)).mono HBW.out.size)⟩


theorem own : ownKnob Try.prog.godebug = none := by kernel_rfl
theorem laidOut : laidOutB Try.prog = true := by kernel_rfl
theorem specN (H : Type) (ds : List (DataW H)) (h : ds.length = 2) : Rows.treeSamesSpec.fn H (ds ++ []) = { results := [.lit (.bool true)], args := ds } := by
  match ds, h with
  | [_, _], _ => rfl

set_option maxRecDepth 100000 in
theorem lifted (os : Os) (started : os.Started) (H : Type) (enc : TypeId × Value → H) :
    ReturnsInHanded {} Try.checked os 4 .any (Rows.treeSamesSpec.pre6 enc Try.prog Try.f4 Rows.treeSamesRow.domain false) (Rows.treeSamesSpec.post enc Try.prog Try.f4 false true false false) := by
  refine law_of_walk (C := Try.checked) own started (by kernel_rfl) Try.func4 rfl rfl Try.underlying4 laidOut (by kernel_rfl) (fun ds h => specN H ds (h.trans (by kernel_rfl)))
    (ChangeSpec.witness6 (enc := enc) (C := Try.checked) false ⟨#[], #[.agg #[.int .i64 0, .string ByteArray.empty, .slice none 0 0, .slice none 0 0], .agg #[.int .i64 0, .string ByteArray.empty, .slice none 0 0, .slice none 0 0]], []⟩ 8 (by kernel_rfl) (by kernel_rfl) (by kernel_rfl) (by kernel_rfl)) ?_
  intro W base args ds p hval hA hsz
  have hval' : ∀ (j : Nat) t v, Try.f4.params[j]? = some t → args[j]? = some v → Value.okWide Try.prog W .any base t v := hval
  rw [Try.params4] at hval' hA hsz
  obtain ⟨v0, vs0, d0, ds0, p0, q0, hargs, rfl, rfl, h0, r0⟩ := trodAll_cons hA
  obtain ⟨v1, vs1, d1, ds1, p1, q1, rfl, rfl, rfl, h1, r1⟩ := trodAll_cons r0
  obtain ⟨rfl, rfl, rfl⟩ := trodAll_nil r1
  obtain rfl : args = #[v0, v1] := by cases args; simp_all
  obtain ⟨t0, rfl, ht0⟩ := arg_tree (hval' 0 25 v0 rfl rfl) h0 (sm_arg hsz (j := 0) rfl rfl)
  obtain ⟨t1, rfl, ht1⟩ := arg_tree (hval' 1 25 v1 rfl rfl) h1 (sm_arg hsz (j := 1) rfl rfl)
  exact walk t0 t1 W ht0 ht1

theorem proved : Rows.TreeSamesSaid :=
  OpenClaim.holds_of_wide 4 Try.f4 rfl rfl rfl rfl rfl rfl rfl ⟨rfl, rfl, rfl, rfl, rfl⟩ rfl rfl rfl rfl rfl (by kernel_rfl) Try.func4 (by kernel_rfl)
    (of_decide_eq_true (by kernel_rfl)) (by unfold Func.isWrapper; first | (rw [if_pos (by decide +kernel)]; kernel_rfl) | (rw [if_neg (by decide +kernel)]; exact ⟨rfl, rfl⟩))
    (fun os started H enc _ => lifted os started H enc)
end Go.Proofs.Ythaepakpeamajaa.treeSames
