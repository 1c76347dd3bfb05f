/-
  TreeReplaces: for every input the law returns true, and its arguments are as they were. No condition beside the given statement's own.
-/
import Derived.Test.YthaepakpeamajaaTrS
namespace Go.Proofs.Ythaepakpeamajaa.treeReplaces
open Go.ChangeShapes Go.WideShapes Go.ChangeAt Go.RowKit
open Go.ChangeMaps (open_string shut_string)
set_option linter.unusedVariables false

def replP : Option T → T
  | none => TX.zero.plain
  | some u => u
theorem ReplPost.get {w w' : World} {o : Option T} {e : Ending} (h : ReplPost w o e w') : ∃ x : TX, e = .returned (.tuple #[x.val, .bool o.isSome]) ∧ x.plain = replP o ∧ Tr w' w'.heap.size x ∧ Below w.heap.size w w' := by
  obtain ⟨hb, h⟩ := h
  cases o with
  | none => exact ⟨TX.zero, h, rfl, TX.zero_tr _ _, hb⟩
  | some u =>
    obtain ⟨x, he, hp, ht⟩ := h
    exact ⟨x, he, hp, ht, hb⟩
theorem RReplPost.plain {w w' : World} {t u : TX} {o : Option T} {e : Ending} (h : RReplPost w t u o e w') : ReplPost w o e w' := by
  obtain ⟨hb, h⟩ := h
  cases o with
  | none => exact ⟨hb, h⟩
  | some T' =>
    obtain ⟨x, he, hp, ht, -⟩ := h
    exact ⟨hb, x, he, hp, ht⟩
set_option maxRecDepth 100000 in
set_option maxHeartbeats 3200000 in
theorem walk (t u : TX) (A : Option Addr) (c : Nat) (p : List Int) (w : World) (h : Tr w w.heap.size t) (hu : Tr w w.heap.size u) (hp : Reads w w.heap.size 1 A p.length (p.map (Value.int .i64))) (hc : p.length ≤ c) (hl : p.length ≤ 140737488351232) (hb : ∀ x ∈ p, -9223372036854775808 ≤ x ∧ x ≤ 9223372036854775807) :
    Calls Try.prog 5 #[t.val, .slice A p.length c, u.val] w fun e w' => e = .returned (.bool true) ∧ Below w.heap.size w w' := by
  unfold TX.val
  obtain ⟨W, hW⟩ : ∃ W, (w.alloc (.cells #[.int .i64 t.kind, .string t.text, .slice t.lA t.leads.length t.lc, .slice t.kA t.kids.length t.kc] 25)).alloc (.cells #[.int .i64 u.kind, .string u.text, .slice u.lA u.leads.length u.lc, .slice u.kA u.kids.length u.kc] 25) = W := ⟨_, rfl⟩
  have HBW : Hid (Below w.heap.size w W) := by subst hW; exact ((Below.refl _ w).alloc (Nat.le_refl _) _).alloc (by simp) _
  have HX : Hid (Blk W w.heap.size 25 #[.int .i64 t.kind, .string t.text, .slice t.lA t.leads.length t.lc, .slice t.kA t.kids.length t.kc]) := by subst hW; exact (Blk.new w 25 _).alloc _
  have HY : Hid (Blk W (w.heap.size + 1) 25 #[.int .i64 u.kind, .string u.text, .slice u.lA u.leads.length u.lc, .slice u.kA u.kids.length u.kc]) := by subst hW; exact Blk.new' 25 _ (by simp)
  have c0 := HX.out.cell 0
  have c1 := HX.out.cell 1
  have c2 := HX.out.cell 2
  have c3 := HX.out.cell 3
  simp at c0 c1 c2 c3
  have HT := Lib.hid (h.up (Nat.le_refl _) HBW.out)
  have HU := Lib.hid (hu.up (Nat.le_refl _) HBW.out)
  have HP : Hid (Reads W W.heap.size 1 A p.length (p.map (Value.int .i64))) := (hp.below HBW.out).more HBW.out.size
  have HPB := Lib.hid hb
  have HL := Lib.hid (light_any t A p.length c W HT.out hl)
  unfold TX.val at HL
  clear h hu hp hb
  go_enter Try.func5, Try.ntmps5
  go_wp2_with fail
  refine (HL.out).mono ?_
  rintro e w1 ⟨rfl, hb1⟩
  have HB1 := Lib.hid hb1
  generalize (decide (wrap64 (t.plain.size : Int) ≤ 300) && decide (p.length ≤ 100)) = bl
  clear hb1 HL
  cases bl
  · go_wp2_with fail
    refine (awake_any _).mono ?_
    rintro e w8 ⟨rfl, hb8⟩
    have HB8 := Lib.hid (HBW.out.trans ((HB1.out.trans (hb8.mono HB1.out.size)).mono HBW.out.size))
    clear hb8
    go_wp2_with fail
    go_ret
    exact ⟨rfl, HB8.out⟩
  · have HY1 := Lib.hid (HY.out.below HB1.out HY.out.lt)
    have d0 := HY1.out.cell 0
    have d1 := HY1.out.cell 1
    have d2 := HY1.out.cell 2
    have d3 := HY1.out.cell 3
    simp at d0 d1 d2 d3
    have HL := Lib.hid (light_any u none 0 0 w1 (HU.out.up (Nat.le_refl _) HB1.out) (by omega))
    unfold TX.val at HL
    go_wp2_with fail
    refine (HL.out).mono ?_
    rintro e w2 ⟨rfl, hb2⟩
    have HB2 := Lib.hid (HB1.out.trans (hb2.mono HB1.out.size))
    generalize (decide (wrap64 (u.plain.size : Int) ≤ 300) && decide (0 ≤ 100)) = bl
    clear hb2 HL d0 d1 d2 d3
    cases bl
    · go_wp2_with fail
      refine (awake_any _).mono ?_
      rintro e w8 ⟨rfl, hb8⟩
      have HB8 := Lib.hid (HBW.out.trans ((HB2.out.trans (hb8.mono HB2.out.size)).mono HBW.out.size))
      clear hb8
      go_wp2_with fail
      go_ret
      exact ⟨rfl, HB8.out⟩
    · have HX2 := Lib.hid (HX.out.below HB2.out HX.out.lt)
      have HY2 := Lib.hid (HY.out.below HB2.out HY.out.lt)
      have d0 := HX2.out.cell 0
      have d1 := HX2.out.cell 1
      have d2 := HX2.out.cell 2
      have d3 := HX2.out.cell 3
      simp at d0 d1 d2 d3
      have e0 := HY2.out.cell 0
      have e1 := HY2.out.cell 1
      have e2 := HY2.out.cell 2
      have e3 := HY2.out.cell 3
      simp at e0 e1 e2 e3
      have HA := Lib.hid (replace_any t u A c p w2 (HT.out.up (Nat.le_refl _) HB2.out) (HU.out.up (Nat.le_refl _) HB2.out) ((HP.out.below HB2.out).more HB2.out.size) hl HPB.out)
      unfold TX.val at HA
      go_wp2_with fail
      refine (HA.out).mono ?_
      intro e w3 hq
      obtain ⟨x, rfl, hx1, hx2, hx3⟩ := ReplPost.get hq
      have HP3 := Lib.hid hx1
      have HT3 := Lib.hid hx2
      have HB3 := Lib.hid (HB2.out.trans (hx3.mono HB2.out.size))
      clear hq hx1 hx2 hx3 HA d0 d1 d2 d3 e0 e1 e2 e3
      unfold TX.val
      obtain ⟨w4, hw4⟩ : ∃ w4, w3.alloc (.cells #[.int .i64 x.kind, .string x.text, .slice x.lA x.leads.length x.lc, .slice x.kA x.kids.length x.kc] 25) = w4 := ⟨_, rfl⟩
      have HN4 : Hid (Below w3.heap.size w3 w4) := by subst hw4; exact (Below.refl _ w3).alloc (Nat.le_refl _) _
      have HK4 : Hid (Blk w4 w3.heap.size 25 #[.int .i64 x.kind, .string x.text, .slice x.lA x.leads.length x.lc, .slice x.kA x.kids.length x.kc]) := by subst hw4; exact Blk.new w3 25 _
      have HT4 := Lib.hid (HT3.out.up (Nat.le_refl _) HN4.out)
      have HB4 := Lib.hid (HB3.out.trans (HN4.out.mono HB3.out.size))
      have HX4 := Lib.hid (HX.out.below HB4.out HX.out.lt)
      have HY4 := Lib.hid (HY.out.below HB4.out HY.out.lt)
      have d0 := HX4.out.cell 0
      have d1 := HX4.out.cell 1
      have d2 := HX4.out.cell 2
      have d3 := HX4.out.cell 3
      simp at d0 d1 d2 d3
      have e0 := HY4.out.cell 0
      have e1 := HY4.out.cell 1
      have e2 := HY4.out.cell 2
      have e3 := HY4.out.cell 3
      simp at e0 e1 e2 e3
      have HA := Lib.hid (rreplace_any p t u A c w4 (HT.out.up (Nat.le_refl _) HB4.out) (HU.out.up (Nat.le_refl _) HB4.out) ((HP.out.below HB4.out).more HB4.out.size) hc hl)
      unfold TX.val at HA
      go_wp2_with fail
      refine (HA.out).mono ?_
      intro e w5 hq
      obtain ⟨y, rfl, hx1, hx2, hx3⟩ := ReplPost.get (RReplPost.plain hq)
      have HPP : Hid (x.plain = y.plain) := HP3.out.trans hx1.symm
      have HN5 := Lib.hid hx3
      have HT5 := Lib.hid hx2
      have HB5 := Lib.hid (HB4.out.trans (hx3.mono HB4.out.size))
      clear hq hx1 hx2 hx3 HA d0 d1 d2 d3 e0 e1 e2 e3
      unfold TX.val
      obtain ⟨w6, hw6⟩ : ∃ w6, w5.alloc (.cells #[.int .i64 y.kind, .string y.text, .slice y.lA y.leads.length y.lc, .slice y.kA y.kids.length y.kc] 25) = w6 := ⟨_, rfl⟩
      have HN6 : Hid (Below w5.heap.size w5 w6) := by subst hw6; exact (Below.refl _ w5).alloc (Nat.le_refl _) _
      have HK6 : Hid (Blk w6 w5.heap.size 25 #[.int .i64 y.kind, .string y.text, .slice y.lA y.leads.length y.lc, .slice y.kA y.kids.length y.kc]) := by subst hw6; exact Blk.new w5 25 _
      have HB6 := Lib.hid (HB5.out.trans (HN6.out.mono HB5.out.size))
      have HTX := Lib.hid ((HT4.out.up (Nat.le_refl _) HN5.out).up (Nat.le_refl _) HN6.out)
      have HTY := Lib.hid (HT5.out.up (Nat.le_refl _) HN6.out)
      have HK4' := Lib.hid ((HK4.out.below HN5.out HK4.out.lt).below HN6.out (HK4.out.below HN5.out HK4.out.lt).lt)
      generalize (t.plain.repl p u.plain).isSome = bo
      cases bo
      all_goals
        go_wp2_with fail
        refine (awake_any _).mono ?_
        rintro e w7 ⟨rfl, hb7⟩
        have HB7 := Lib.hid (HB6.out.trans (hb7.mono HB6.out.size))
        have HKX := Lib.hid (HK4'.out.below hb7 HK4'.out.lt)
        have HKY := Lib.hid (HK6.out.below hb7 HK6.out.lt)
        have d0 := HKX.out.cell 0
        have d1 := HKX.out.cell 1
        have d2 := HKX.out.cell 2
        have d3 := HKX.out.cell 3
        simp at d0 d1 d2 d3
        have e0 := HKY.out.cell 0
        have e1 := HKY.out.cell 1
        have e2 := HKY.out.cell 2
        have e3 := HKY.out.cell 3
        simp at e0 e1 e2 e3
        have HS := Lib.hid (rsame_any x y w7 (HTX.out.up (Nat.le_refl _) hb7) (HTY.out.up (Nat.le_refl _) hb7))
        unfold SameAt TX.val at HS
        clear hb7
        go_wp2_with fail
        refine (HS.out).mono ?_
        intro e w8 hq
        obtain ⟨rfl, hb8⟩ := hq.yes HPP.out
        have HB8 := Lib.hid (HB7.out.trans (hb8.mono HB7.out.size))
        clear hb8 hq
        go_wp2_with fail
        go_ret
        exact ⟨rfl, HBW.out.trans (HB8.out.mono HBW.out.size)⟩


theorem own : ownKnob Try.prog.godebug = none := by kernel_rfl
theorem laidOut : laidOutB Try.prog = true := by kernel_rfl
theorem specN (H : Type) (ds : List (DataW H)) (h : ds.length = 3) : Rows.treeReplacesSpec.fn H (ds ++ []) = { results := [.lit (.bool true)], args := ds } := by
  match ds, h with
  | [_, _, _], _ => rfl

set_option maxRecDepth 100000 in
theorem lifted (os : Os) (started : os.Started) (H : Type) (enc : TypeId × Value → H) :
    ReturnsInHanded {} Try.checked os 5 .any (Rows.treeReplacesSpec.pre6 enc Try.prog Try.f5 Rows.treeReplacesRow.domain false) (Rows.treeReplacesSpec.post enc Try.prog Try.f5 false true false false) := by
  refine law_of_walk (C := Try.checked) own started (by kernel_rfl) Try.func5 rfl rfl Try.underlying4 laidOut (by kernel_rfl) (fun ds h => specN H ds (h.trans (by kernel_rfl)))
    (ChangeSpec.witness6 (enc := enc) (C := Try.checked) false ⟨#[], #[.agg #[.int .i64 0, .string ByteArray.empty, .slice none 0 0, .slice none 0 0], .slice none 0 0, .agg #[.int .i64 0, .string ByteArray.empty, .slice none 0 0, .slice none 0 0]], []⟩ 8 (by kernel_rfl) (by kernel_rfl) (by kernel_rfl) (by kernel_rfl)) ?_
  intro W base args ds p hval hA hsz
  have hval' : ∀ (j : Nat) t v, Try.f5.params[j]? = some t → args[j]? = some v → Value.okWide Try.prog W .any base t v := hval
  rw [Try.params5] at hval' hA hsz
  obtain ⟨v0, vs0, d0, ds0, p0, q0, hargs, rfl, rfl, h0, r0⟩ := trodAll_cons hA
  obtain ⟨v1, vs1, d1, ds1, p1, q1, rfl, rfl, rfl, h1, r1⟩ := trodAll_cons r0
  obtain ⟨v2, vs2, d2, ds2, p2, q2, rfl, rfl, rfl, h2, r2⟩ := trodAll_cons r1
  obtain ⟨rfl, rfl, rfl⟩ := trodAll_nil r2
  obtain rfl : args = #[v0, v1, v2] := by cases args; simp_all
  obtain ⟨t0, rfl, ht0⟩ := arg_tree (hval' 0 25 v0 rfl rfl) h0 (sm_arg hsz (j := 0) rfl rfl)
  obtain ⟨a1, len1, cap1, rfl⟩ := okWide_slice Try.underlying26 (hval' 1 26 v1 rfl rfl)
  obtain ⟨fu1, hf1⟩ := h1
  obtain ⟨hcp1, hl1, xs1, rfl, hr1, hb1⟩ := open_intsS Try.underlying26 Try.underlying3 (by kernel_rfl) (of_decide_eq_true (by kernel_rfl)) hf1 (sm_arg hsz (j := 1) rfl rfl)
  obtain ⟨t2, rfl, ht2⟩ := arg_tree (hval' 2 25 v2 rfl rfl) h2 (sm_arg hsz (j := 2) rfl rfl)
  exact walk t0 t2 a1 cap1 xs1 W ht0 ht2 hr1 hcp1 hl1 hb1

theorem proved : Rows.TreeReplacesSaid :=
  OpenClaim.holds_of_wide 5 Try.f5 rfl rfl rfl rfl rfl rfl rfl ⟨rfl, rfl, rfl, rfl, rfl⟩ rfl rfl rfl rfl rfl (by kernel_rfl) Try.func5 (by kernel_rfl)
    (of_decide_eq_true (by kernel_rfl)) (by unfold Func.isWrapper; first | (rw [if_pos (by decide +kernel)]; kernel_rfl) | (rw [if_neg (by decide +kernel)]; exact ⟨rfl, rfl⟩))
    (fun os started H enc _ => lifted os started H enc)
end Go.Proofs.Ythaepakpeamajaa.treeReplaces
