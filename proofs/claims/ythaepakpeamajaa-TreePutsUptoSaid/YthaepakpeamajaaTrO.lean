/-
  awake. No condition.
-/
import Derived.Test.YthaepakpeamajaaTrN
namespace Go.Proofs.Ythaepakpeamajaa
open Go.RowKit
set_option linter.unusedVariables false

theorem AtPost.get {w w' : World} {s : TX} {e : Ending} (h : AtPost w (some s) e w') : ∃ y : TX, e = .returned (.tuple #[y.val, .bool true]) ∧ y.plain = s.plain ∧ Tr w' w'.heap.size y ∧ Below w.heap.size w w' := by
  obtain ⟨hb, y, he, hp, hf⟩ := h
  exact ⟨y, he, hp, hf.tr, hb⟩
theorem RetB.yes {w w' : World} {P : Prop} {e : Ending} (h : RetB w P e w') (hp : P) : e = .returned (.bool true) ∧ Below w.heap.size w w' := by
  obtain ⟨b, hb, he, hw⟩ := h
  have := hb.2 hp
  subst this
  exact ⟨he, hw⟩
theorem plain_text {y s : TX} (h : y.plain = s.plain) : y.text = s.text := (plain_ne h).2.1

set_option maxRecDepth 100000 in
set_option maxHeartbeats 1600000 in
theorem awake_any (w : World) : Calls Try.prog 10 #[] w (Ret w (.bool true)) := by
  have H1 := Lib.hid (leaf_any ⟨#[49]⟩ w)
  go_enter Try.func10, Try.ntmps10
  go_wp2_with fail
  refine (H1.out).mono ?_
  rintro e w1 ⟨y1, rfl, hp1, ht1, hb1⟩
  have HP1 := Lib.hid hp1
  have HT1 := Lib.hid ht1
  have HB1 := Lib.hid hb1
  have H2 := Lib.hid (leaf_any ⟨#[50]⟩ w1)
  clear hp1 ht1 hb1 H1
  unfold TX.val
  go_wp2_with fail
  refine (H2.out).mono ?_
  rintro e w2 ⟨y2, rfl, hp2, ht2, hb2⟩
  have HP2 := Lib.hid hp2
  have HT2 := Lib.hid ht2
  have HT1' := Lib.hid (HT1.out.up (Nat.le_refl _) hb2)
  have HB2 := Lib.hid (HB1.out.trans (hb2.mono HB1.out.size))
  clear hp2 ht2 hb2 H2 HT1
  unfold TX.val
  obtain ⟨t, ht⟩ : ∃ t, t = TX.node 21 ⟨#[43]⟩ none [] 0 (some ⟨w2.heap.size, 0, none⟩) [y1, y2] 2 := ⟨_, rfl⟩
  have HSZ : Hid (wrap64 (t.plain.size : Int) = 3) := by unfold Hid; rw [ht]; exact two_size HP1.out HP2.out
  have HDP : Hid (t.plain.dW = 2) := by unfold Hid; rw [ht]; exact two_depth HP1.out HP2.out
  have HFD : Hid (t.find [1] = some y2) := by unfold Hid; rw [ht]; exact two_find
  have HNM : Hid (t.numW [1] = 2) := by unfold Hid; rw [ht]; exact two_num HP1.out
  have HV : Hid (t.val = .agg #[.int .i64 21, .string ⟨#[43]⟩, .slice none 0 0, .slice (some ⟨w2.heap.size, 0, none⟩) 2 2]) := by unfold Hid; rw [ht]; rfl
  have HX2 : Hid (y2.text = ⟨#[50]⟩) := by have := HP2.out; rw [TX.plain_eq] at this; injection this
  obtain ⟨W, hW⟩ : ∃ W, (w2.alloc (.cells #[.int .i64 y1.kind, .string y1.text, .slice y1.lA y1.leads.length y1.lc, .slice y1.kA y1.kids.length y1.kc, .int .i64 y2.kind, .string y2.text, .slice y2.lA y2.leads.length y2.lc, .slice y2.kA y2.kids.length y2.kc] 25)).alloc (.cells #[.int .i64 21, .string ⟨#[43]⟩, .slice none 0 0, .slice (some ⟨w2.heap.size, 0, none⟩) 2 2] 25) = W := ⟨_, rfl⟩
  have HZW : Hid (W.heap.size = w2.heap.size + 1 + 1) := by subst hW; simp [Hid]
  have HBK : Hid (Below w2.heap.size w2 W) := by subst hW; exact ((Below.refl _ w2).alloc (Nat.le_refl _) _).alloc (by simp) _
  have HBW : Hid (Below w.heap.size w W) := HB2.out.trans (HBK.out.mono HB2.out.size)
  have HTW : Hid (Tr W W.heap.size t) := by
    have hk : Blk W w2.heap.size 25 ([y1, y2].flatMap TX.cells).toArray := by subst hW; exact (Blk.new w2 25 _).alloc _
    unfold Hid; rw [ht]
    exact two_tree (HT1'.out.up (Nat.le_refl _) HBK.out) (HT2.out.up (Nat.le_refl _) HBK.out) hk
  have HXW : Hid (Blk W (w2.heap.size + 1) 25 #[.int .i64 21, .string ⟨#[43]⟩, .slice none 0 0, .slice (some ⟨w2.heap.size, 0, none⟩) 2 2]) := by subst hW; exact Blk.new' 25 _ (by simp)
  have c0 := HXW.out.cell 0
  have c1 := HXW.out.cell 1
  have c2 := HXW.out.cell 2
  have c3 := HXW.out.cell 3
  simp at c0 c1 c2 c3
  obtain ⟨W1, hW1⟩ : ∃ W1, W.alloc (.cells #[.int .i64 1] 3) = W1 := ⟨_, rfl⟩
  have HB1' : Hid (Below W.heap.size W W1) := by subst hW1; exact (Below.refl _ W).alloc (Nat.le_refl _) _
  have HK1 : Hid (Blk W1 W.heap.size 3 [Value.int .i64 1].toArray) := by subst hW1; exact Blk.new W 3 _
  have HA := Lib.hid (at_any t (some ⟨W.heap.size, 0, none⟩) 1 [1] W1 (HTW.out.up (Nat.le_refl _) HB1'.out) (blk_reads HK1.out rfl) (by simp) (by simp))
  rw [HFD.out, HV.out] at HA
  have HTT := Lib.hid ht
  clear ht
  go_wp2_with fail
  refine (HA.out).mono ?_
  intro e w3 hq
  obtain ⟨y, rfl, hy1, hy2, hy3⟩ := hq.get
  have hyx : y.text = ⟨#[50]⟩ := (plain_text hy1).trans HX2.out
  have HB3 : Hid (Below W.heap.size W w3) := HB1'.out.trans (hy3.mono HB1'.out.size)
  unfold TX.val
  rw [hyx]
  obtain ⟨w4, hw4⟩ : ∃ w4, w3.alloc (.cells #[.int .i64 y.kind, .string ⟨#[50]⟩, .slice y.lA y.leads.length y.lc, .slice y.kA y.kids.length y.kc] 25) = w4 := ⟨_, rfl⟩
  have HK4 : Hid (Blk w4 w3.heap.size 25 #[.int .i64 y.kind, .string ⟨#[50]⟩, .slice y.lA y.leads.length y.lc, .slice y.kA y.kids.length y.kc]) := by subst hw4; exact Blk.new w3 25 _
  have HB4 : Hid (Below W.heap.size W w4) := by subst hw4; exact HB3.out.alloc HB3.out.size _
  have k1 := HK4.out.cell 1
  simp at k1
  have HX4 := Lib.hid (HXW.out.below HB4.out HXW.out.lt)
  have f0 := HX4.out.cell 0
  have f1 := HX4.out.cell 1
  have f2 := HX4.out.cell 2
  have f3 := HX4.out.cell 3
  simp at f0 f1 f2 f3
  have HS := Lib.hid (size_any t w4 (HTW.out.up (Nat.le_refl _) HB4.out))
  unfold SizeAt at HS
  rw [HSZ.out, HV.out] at HS
  clear hq hy1 hy2 hy3 hyx
  go_wp2_with fail
  refine (HS.out).mono ?_
  rintro e w5 ⟨rfl, hb5⟩
  have HB5 := Lib.hid (HB4.out.trans (hb5.mono HB4.out.size))
  clear hb5 f0 f1 f2 f3
  have HX5 := Lib.hid (HXW.out.below HB5.out HXW.out.lt)
  have f0 := HX5.out.cell 0
  have f1 := HX5.out.cell 1
  have f2 := HX5.out.cell 2
  have f3 := HX5.out.cell 3
  simp at f0 f1 f2 f3
  have HD := Lib.hid (depth_any t w5 (HTW.out.up (Nat.le_refl _) HB5.out))
  unfold DepthAt at HD
  rw [HDP.out, HV.out] at HD
  go_wp2_with fail
  refine (HD.out).mono ?_
  rintro e w6 ⟨rfl, hb6⟩
  have HB6 := Lib.hid (HB5.out.trans (hb6.mono HB5.out.size))
  clear hb6 f0 f1 f2 f3
  have HX6 := Lib.hid (HXW.out.below HB6.out HXW.out.lt)
  have f0 := HX6.out.cell 0
  have f1 := HX6.out.cell 1
  have f2 := HX6.out.cell 2
  have f3 := HX6.out.cell 3
  simp at f0 f1 f2 f3
  obtain ⟨w7, hw7⟩ : ∃ w7, w6.alloc (.cells #[.int .i64 1] 3) = w7 := ⟨_, rfl⟩
  have HB7' : Hid (Below w6.heap.size w6 w7) := by subst hw7; exact (Below.refl _ w6).alloc (Nat.le_refl _) _
  have HB7 := Lib.hid (HB6.out.trans (HB7'.out.mono HB6.out.size))
  have HK7 : Hid (Blk w7 w6.heap.size 3 [Value.int .i64 1].toArray) := by subst hw7; exact Blk.new w6 3 _
  have HN := Lib.hid (number_any t (some ⟨w6.heap.size, 0, none⟩) 1 [1] w7 (HTW.out.up (Nat.le_refl _) HB7.out) (blk_reads HK7.out rfl) (by simp) (by simp))
  rw [HNM.out, HV.out] at HN
  go_wp2_with fail
  refine (HN.out).mono ?_
  rintro e w8 ⟨rfl, hb8⟩
  have HB8 := Lib.hid (HB7.out.trans (hb8.mono HB7.out.size))
  clear hb8 f0 f1 f2 f3
  have HX8 := Lib.hid (HXW.out.below HB8.out HXW.out.lt)
  have f0 := HX8.out.cell 0
  have f1 := HX8.out.cell 1
  have f2 := HX8.out.cell 2
  have f3 := HX8.out.cell 3
  simp at f0 f1 f2 f3
  have HM := Lib.hid (same_any t t w8 (HTW.out.up (Nat.le_refl _) HB8.out) (HTW.out.up (Nat.le_refl _) HB8.out))
  unfold SameAt at HM
  rw [HV.out] at HM
  go_wp2_with fail
  refine (HM.out).mono ?_
  intro e w9 hq
  obtain ⟨rfl, hb9⟩ := hq.yes trivial
  have HB9 := Lib.hid (HB8.out.trans (hb9.mono HB8.out.size))
  clear hq hb9
  go_wp2_with fail
  go_ret
  exact ⟨rfl, HBW.out.trans (HB9.out.mono HBW.out.size)⟩
end Go.Proofs.Ythaepakpeamajaa
