/-
  TreeFinds: for every input the law returns true, and its arguments are as they were. No condition beside the given statement's own.
-/
import Derived.Test.YthaepakpeamajaaTrP
namespace Go.Proofs.Ythaepakpeamajaa.treeFinds
open Go.ChangeShapes Go.WideShapes Go.ChangeAt Go.RowKit
open Go.ChangeMaps (open_string shut_string)
set_option linter.unusedVariables false

set_option maxRecDepth 100000 in
set_option maxHeartbeats 3200000 in
theorem walk (t : TX) (A : Option Addr) (c : Nat) (p : List Int) (w : World) (h : Tr w w.heap.size t) (hp : Reads w w.heap.size 1 A p.length (p.map (Value.int .i64))) (hl : p.length ≤ 140737488351232) (hb : ∀ x ∈ p, -9223372036854775808 ≤ x ∧ x ≤ 9223372036854775807) :
    Calls Try.prog 3 #[t.val, .slice A p.length c] w fun e w' => e = .returned (.bool true) ∧ Below w.heap.size w w' := by
  unfold TX.val
  obtain ⟨W, hW⟩ : ∃ W, w.alloc (.cells #[.int .i64 t.kind, .string t.text, .slice t.lA t.leads.length t.lc, .slice t.kA t.kids.length t.kc] 25) = W := ⟨_, rfl⟩
  have HBW : Hid (Below w.heap.size w W) := by subst hW; exact (Below.refl _ w).alloc (Nat.le_refl _) _
  have HX : Hid (Blk W w.heap.size 25 #[.int .i64 t.kind, .string t.text, .slice t.lA t.leads.length t.lc, .slice t.kA t.kids.length t.kc]) := by subst hW; exact Blk.new w 25 _
  have c0 := HX.out.cell 0
  have c1 := HX.out.cell 1
  have c2 := HX.out.cell 2
  have c3 := HX.out.cell 3
  simp at c0 c1 c2 c3
  have HT := Lib.hid (h.up (Nat.le_refl _) HBW.out)
  have HP : Hid (Reads W W.heap.size 1 A p.length (p.map (Value.int .i64))) := (hp.below HBW.out).more HBW.out.size
  have HPB := Lib.hid hb
  have HL := Lib.hid (light_any t A p.length c W HT.out hl)
  unfold TX.val at HL
  clear h hp hb
  go_enter Try.func3, Try.ntmps3
  go_wp2_with fail
  refine (HL.out).mono ?_
  rintro e w1 ⟨rfl, hb1⟩
  have HB1 := Lib.hid hb1
  generalize (decide (wrap64 (t.plain.size : Int) ≤ 300) && decide (p.length ≤ 100)) = bl
  clear hb1 HL
  cases bl
  · go_wp2_with fail
    refine (awake_any _).mono ?_
    rintro e w2 ⟨rfl, hb2⟩
    have HB2 := Lib.hid (HBW.out.trans ((HB1.out.trans (hb2.mono HB1.out.size)).mono HBW.out.size))
    clear hb2
    go_wp2_with fail
    go_ret
    exact ⟨rfl, HB2.out⟩
  · have HX1 := Lib.hid (HX.out.below HB1.out HX.out.lt)
    have d0 := HX1.out.cell 0
    have d1 := HX1.out.cell 1
    have d2 := HX1.out.cell 2
    have d3 := HX1.out.cell 3
    simp at d0 d1 d2 d3
    have HA := Lib.hid (at_any t A c p w1 (HT.out.up (Nat.le_refl _) HB1.out) ((HP.out.below HB1.out).more HB1.out.size) hl HPB.out)
    unfold TX.val at HA
    go_wp2_with fail
    refine (HA.out).mono ?_
    intro e w2 hq
    obtain ⟨x, rfl, hx1, hx2, hx3⟩ := hq.found
    have HP2 := Lib.hid hx1
    have HT2 := Lib.hid hx2
    have HB2 := Lib.hid (HB1.out.trans (hx3.mono HB1.out.size))
    clear hq hx1 hx2 hx3 HA d0 d1 d2 d3
    unfold TX.val
    obtain ⟨w3, hw3⟩ : ∃ w3, w2.alloc (.cells #[.int .i64 x.kind, .string x.text, .slice x.lA x.leads.length x.lc, .slice x.kA x.kids.length x.kc] 25) = w3 := ⟨_, rfl⟩
    have HN3 : Hid (Below w2.heap.size w2 w3) := by subst hw3; exact (Below.refl _ w2).alloc (Nat.le_refl _) _
    have HK3 : Hid (Blk w3 w2.heap.size 25 #[.int .i64 x.kind, .string x.text, .slice x.lA x.leads.length x.lc, .slice x.kA x.kids.length x.kc]) := by subst hw3; exact Blk.new w2 25 _
    have HT3 := Lib.hid (HT2.out.up (Nat.le_refl _) HN3.out)
    have HB3 := Lib.hid (HB2.out.trans (HN3.out.mono HB2.out.size))
    have HX3 := Lib.hid (HX.out.below HB3.out HX.out.lt)
    have d0 := HX3.out.cell 0
    have d1 := HX3.out.cell 1
    have d2 := HX3.out.cell 2
    have d3 := HX3.out.cell 3
    simp at d0 d1 d2 d3
    have HA := Lib.hid (rat_any t A c p w3 (HT.out.up (Nat.le_refl _) HB3.out) ((HP.out.below HB3.out).more HB3.out.size) hl)
    unfold TX.val at HA
    go_wp2_with fail
    refine (HA.out).mono ?_
    intro e w4 hq
    obtain ⟨y, rfl, hx1, hx2, hx3⟩ := FindPost.found (HT.out.up (Nat.le_refl _) HB3.out) hq
    have HP4 : Hid (x.plain = y.plain) := HP2.out.trans hx1.symm
    have HN4 := Lib.hid hx3
    have HT4 := Lib.hid hx2
    have HB4 := Lib.hid (HB3.out.trans (hx3.mono HB3.out.size))
    clear hq hx1 hx2 hx3 HA d0 d1 d2 d3
    unfold TX.val
    obtain ⟨w5, hw5⟩ : ∃ w5, w4.alloc (.cells #[.int .i64 y.kind, .string y.text, .slice y.lA y.leads.length y.lc, .slice y.kA y.kids.length y.kc] 25) = w5 := ⟨_, rfl⟩
    have HN5 : Hid (Below w4.heap.size w4 w5) := by subst hw5; exact (Below.refl _ w4).alloc (Nat.le_refl _) _
    have HK5 : Hid (Blk w5 w4.heap.size 25 #[.int .i64 y.kind, .string y.text, .slice y.lA y.leads.length y.lc, .slice y.kA y.kids.length y.kc]) := by subst hw5; exact Blk.new w4 25 _
    have HB5 := Lib.hid (HB4.out.trans (HN5.out.mono HB4.out.size))
    have HTX := Lib.hid ((HT3.out.up (Nat.le_refl _) HN4.out).up (Nat.le_refl _) HN5.out)
    have HTY := Lib.hid (HT4.out.up (Nat.le_refl _) HN5.out)
    have HTT := Lib.hid (HT.out.up (Nat.le_refl _) HB5.out)
    have HPP : Hid (Reads w5 w5.heap.size 1 A p.length (p.map (Value.int .i64))) := (HP.out.below HB5.out).more HB5.out.size
    have HX5 := Lib.hid (HX.out.below HB5.out HX.out.lt)
    have HX3' := Lib.hid ((HK3.out.below HN4.out HK3.out.lt).below HN5.out (HK3.out.below HN4.out HK3.out.lt).lt)
    have HSK : Hid (∀ w' : World, Below w5.heap.size w5 w' → w'.cell? ⟨w.heap.size, 0, none⟩ = some (.int .i64 t.kind) ∧ w'.cell? ⟨w.heap.size, 1, none⟩ = some (.string t.text) ∧ w'.cell? ⟨w.heap.size, 2, none⟩ = some (.slice t.lA t.leads.length t.lc) ∧ w'.cell? ⟨w.heap.size, 3, none⟩ = some (.slice t.kA t.kids.length t.kc) ∧ w'.cell? ⟨w2.heap.size, 0, none⟩ = some (.int .i64 x.kind) ∧ w'.cell? ⟨w2.heap.size, 1, none⟩ = some (.string x.text) ∧ w'.cell? ⟨w2.heap.size, 2, none⟩ = some (.slice x.lA x.leads.length x.lc) ∧ w'.cell? ⟨w2.heap.size, 3, none⟩ = some (.slice x.kA x.kids.length x.kc) ∧ w'.cell? ⟨w4.heap.size, 0, none⟩ = some (.int .i64 y.kind) ∧ w'.cell? ⟨w4.heap.size, 1, none⟩ = some (.string y.text) ∧ w'.cell? ⟨w4.heap.size, 2, none⟩ = some (.slice y.lA y.leads.length y.lc) ∧ w'.cell? ⟨w4.heap.size, 3, none⟩ = some (.slice y.kA y.kids.length y.kc)) := fun w' hw => by
      have q1 := HX5.out.below hw HX5.out.lt
      have q2 := HX3'.out.below hw HX3'.out.lt
      have q3 := HK5.out.below hw HK5.out.lt
      exact ⟨by rw [q1.cell]; rfl, by rw [q1.cell]; rfl, by rw [q1.cell]; rfl, by rw [q1.cell]; rfl, by rw [q2.cell]; rfl, by rw [q2.cell]; rfl, by rw [q2.cell]; rfl, by rw [q2.cell]; rfl, by rw [q3.cell]; rfl, by rw [q3.cell]; rfl, by rw [q3.cell]; rfl, by rw [q3.cell]; rfl⟩
    have HD : Hid (Below w5.heap.size w5 w5.drew) := below_drewN (Below.refl _ _) 1
    have HW := Lib.hid hW
    have HW3 := Lib.hid hw3
    clear hW hw3 c0 c1 c2 c3
    go_upto_region 5 with fail
    have HW5 := Lib.hid hw5
    clear hw5
    generalize (t.find p).isSome = bo
    cases bo
    all_goals
      go_region_held3 (fun w' => w'.cell? ⟨w.heap.size, 0, none⟩ = some (.int .i64 t.kind) ∧ w'.cell? ⟨w.heap.size, 1, none⟩ = some (.string t.text) ∧ w'.cell? ⟨w.heap.size, 2, none⟩ = some (.slice t.lA t.leads.length t.lc) ∧ w'.cell? ⟨w.heap.size, 3, none⟩ = some (.slice t.kA t.kids.length t.kc) ∧ w'.cell? ⟨w2.heap.size, 0, none⟩ = some (.int .i64 x.kind) ∧ w'.cell? ⟨w2.heap.size, 1, none⟩ = some (.string x.text) ∧ w'.cell? ⟨w2.heap.size, 2, none⟩ = some (.slice x.lA x.leads.length x.lc) ∧ w'.cell? ⟨w2.heap.size, 3, none⟩ = some (.slice x.kA x.kids.length x.kc) ∧ w'.cell? ⟨w4.heap.size, 0, none⟩ = some (.int .i64 y.kind) ∧ w'.cell? ⟨w4.heap.size, 1, none⟩ = some (.string y.text) ∧ w'.cell? ⟨w4.heap.size, 2, none⟩ = some (.slice y.lA y.leads.length y.lc) ∧ w'.cell? ⟨w4.heap.size, 3, none⟩ = some (.slice y.kA y.kids.length y.kc)) (first | exact HSK.out _ HD.out | exact HSK.out _ HA1.out | exact HSK.out _ HA2.out | exact HSK.out _ HA3.out | exact HSK.out _ HA4.out) (first | (go_at_call 15; refine (rnumber_any t A c p _ (HTT.out.up (Nat.le_refl _) HA3.out) ((HPP.out.below HA3.out).more HA3.out.size) hl).mono ?_; rintro e w9 ⟨rfl, hb9⟩; have HA4 := Lib.hid (HA3.out.trans (hb9.mono HA3.out.size)); clear hb9) | (go_at_call 14; refine (number_any t A c p _ (HTT.out.up (Nat.le_refl _) HA2.out) ((HPP.out.below HA2.out).more HA2.out.size) hl HPB.out).mono ?_; rintro e w8 ⟨rfl, hb8⟩; have HA3 := Lib.hid (HA2.out.trans (hb8.mono HA2.out.size)); clear hb8) | (go_at_call 13; refine (rsame_any x y _ (HTX.out.up (Nat.le_refl _) HA1.out) (HTY.out.up (Nat.le_refl _) HA1.out)).mono ?_; intro e w7 hq; obtain ⟨rfl, hb7⟩ := hq.yes HP4.out; have HA2 := Lib.hid (HA1.out.trans (hb7.mono HA1.out.size)); clear hb7 hq) | (go_at_call 10; refine (awake_any _).mono ?_; rintro e w6 ⟨rfl, hb6⟩; have HA1 := Lib.hid (HD.out.trans (hb6.mono HD.out.size)); clear hb6))
      go_wp2_with fail
      go_ret
      exact ⟨rfl, HBW.out.trans ((HB5.out.trans (HA4.out.mono HB5.out.size)).mono HBW.out.size)⟩


theorem own : ownKnob Try.prog.godebug = none := by kernel_rfl
theorem laidOut : laidOutB Try.prog = true := by kernel_rfl
theorem specN (H : Type) (ds : List (DataW H)) (h : ds.length = 2) : Rows.treeFindsSpec.fn H (ds ++ []) = { results := [.lit (.bool true)], args := ds } := by
  match ds, h with
  | [_, _], _ => rfl

set_option maxRecDepth 100000 in
theorem lifted (os : Os) (started : os.Started) (H : Type) (enc : TypeId × Value → H) :
    ReturnsInHanded {} Try.checked os 3 .any (Rows.treeFindsSpec.pre6 enc Try.prog Try.f3 Rows.treeFindsRow.domain false) (Rows.treeFindsSpec.post enc Try.prog Try.f3 false true false false) := by
  refine law_of_walk (C := Try.checked) own started (by kernel_rfl) Try.func3 rfl rfl Try.underlying4 laidOut (by kernel_rfl) (fun ds h => specN H ds (h.trans (by kernel_rfl)))
    (ChangeSpec.witness6 (enc := enc) (C := Try.checked) false ⟨#[], #[.agg #[.int .i64 0, .string ByteArray.empty, .slice none 0 0, .slice none 0 0], .slice none 0 0], []⟩ 8 (by kernel_rfl) (by kernel_rfl) (by kernel_rfl) (by kernel_rfl)) ?_
  intro W base args ds p hval hA hsz
  have hval' : ∀ (j : Nat) t v, Try.f3.params[j]? = some t → args[j]? = some v → Value.okWide Try.prog W .any base t v := hval
  rw [Try.params3] at hval' hA hsz
  obtain ⟨v0, vs0, d0, ds0, p0, q0, hargs, rfl, rfl, h0, r0⟩ := trodAll_cons hA
  obtain ⟨v1, vs1, d1, ds1, p1, q1, rfl, rfl, rfl, h1, r1⟩ := trodAll_cons r0
  obtain ⟨rfl, rfl, rfl⟩ := trodAll_nil r1
  obtain rfl : args = #[v0, v1] := by cases args; simp_all
  obtain ⟨t0, rfl, ht0⟩ := arg_tree (hval' 0 25 v0 rfl rfl) h0 (sm_arg hsz (j := 0) rfl rfl)
  obtain ⟨a1, len1, cap1, rfl⟩ := okWide_slice Try.underlying26 (hval' 1 26 v1 rfl rfl)
  obtain ⟨fu1, hf1⟩ := h1
  obtain ⟨-, hl1, xs1, rfl, hr1, hb1⟩ := open_intsS Try.underlying26 Try.underlying3 (by kernel_rfl) (of_decide_eq_true (by kernel_rfl)) hf1 (sm_arg hsz (j := 1) rfl rfl)
  exact walk t0 a1 cap1 xs1 W ht0 hr1 hl1 hb1

theorem proved : Rows.TreeFindsSaid :=
  OpenClaim.holds_of_wide 3 Try.f3 rfl rfl rfl rfl rfl rfl rfl ⟨rfl, rfl, rfl, rfl, rfl⟩ rfl rfl rfl rfl rfl (by kernel_rfl) Try.func3 (by kernel_rfl)
    (of_decide_eq_true (by kernel_rfl)) (by unfold Func.isWrapper; first | (rw [if_pos (by decide +kernel)]; kernel_rfl) | (rw [if_neg (by decide +kernel)]; exact ⟨rfl, rfl⟩))
    (fun os started H enc _ => lifted os started H enc)
end Go.Proofs.Ythaepakpeamajaa.treeFinds
