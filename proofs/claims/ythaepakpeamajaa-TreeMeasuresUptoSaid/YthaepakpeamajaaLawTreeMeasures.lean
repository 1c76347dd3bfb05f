/-
  TreeMeasures: for every input of bulk at most 1048576 the law returns true, and its arguments are as they were. No condition beside the given statement's own.
-/
import Derived.Test.YthaepakpeamajaaTrW
import Derived.Test.YthaepakpeamajaaTrY
namespace Go.Proofs.Ythaepakpeamajaa.treeMeasures
open Go.ChangeShapes Go.WideShapes Go.ChangeAt Go.RowKit
open Go.ChangeMaps (open_string shut_string)
set_option linter.unusedVariables false

theorem paths_few {t : TX} {xs : List PX} (h : xs.map PX.l = t.plain.paths []) (hs : t.plain.size ≤ 1000000) : xs.length ≤ 1000000 := by
  have := congrArg List.length h
  rw [List.length_map, paths_len] at this
  omega
theorem paths_short {t : TX} {xs : List PX} (h : xs.map PX.l = t.plain.paths []) (hs : t.plain.size ≤ 1000000) : ∀ x ∈ xs, x.l.length ≤ 1000000 := fun x hx => by
  have h1 : x.l ∈ t.plain.paths [] := by rw [← h]; exact List.mem_map.2 ⟨x, hx, rfl⟩
  have := paths_len_le t [] x.l h1
  simp at this
  omega
set_option maxRecDepth 100000 in
set_option maxHeartbeats 3200000 in
theorem walk (t : TX) (w : World) (h : Tr w w.heap.size t) (hs : t.plain.size ≤ 1048576) :
    Calls Try.prog 6 #[t.val] w fun e w' => e = .returned (.bool true) ∧ Below w.heap.size w w' := by
  unfold TX.val
  obtain ⟨W, hW⟩ : ∃ W, w.alloc (.cells #[.int .i64 t.kind, .string t.text, .slice t.lA t.leads.length t.lc, .slice t.kA t.kids.length t.kc] 25) = W := ⟨_, rfl⟩
  have HBW : Hid (Below w.heap.size w W) := by subst hW; exact (Below.refl _ w).alloc (Nat.le_refl _) _
  have HX : Hid (Blk W w.heap.size 25 #[.int .i64 t.kind, .string t.text, .slice t.lA t.leads.length t.lc, .slice t.kA t.kids.length t.kc]) := by subst hW; exact Blk.new w 25 _
  have c0 := HX.out.cell 0
  have c1 := HX.out.cell 1
  have c2 := HX.out.cell 2
  have c3 := HX.out.cell 3
  simp at c0 c1 c2 c3
  have HT := Lib.hid (h.up (Nat.le_refl _) HBW.out)
  have HL := Lib.hid (light_any t none 0 0 W HT.out (by omega))
  unfold TX.val at HL
  clear h
  go_enter Try.func6, Try.ntmps6
  go_wp2_with fail
  refine (HL.out).mono ?_
  rintro e w1 ⟨rfl, hb1⟩
  have HB1 := Lib.hid hb1
  have HBL : Hid ((decide (wrap64 (t.plain.size : Int) ≤ 300) && decide (0 ≤ 100)) = true → t.plain.size ≤ 300) := by
    intro h
    have h1 : wrap64 (t.plain.size : Int) = (t.plain.size : Int) := IntWalk.wrap64_in _ (by omega)
    rw [h1] at h
    simp at h
    omega
  obtain ⟨bl, hbl⟩ : ∃ bl, (decide (wrap64 (t.plain.size : Int) ≤ 300) && decide (0 ≤ 100)) = bl := ⟨_, rfl⟩
  rw [hbl] at HBL ⊢
  clear hb1 HL hbl
  cases bl
  · go_wp2_with fail
    refine (awake_any _).mono ?_
    rintro e w8 ⟨rfl, hb8⟩
    have HB8 := Lib.hid (HBW.out.trans ((HB1.out.trans (hb8.mono HB1.out.size)).mono HBW.out.size))
    clear hb8
    go_wp2_with fail
    go_ret
    exact ⟨rfl, HB8.out⟩
  · have hs3 := HBL.out rfl
    have HSM : Hid (t.plain.size ≤ 1000000) := by unfold Hid; omega
    have HT2 := Lib.hid (HT.out.up (Nat.le_refl _) HB1.out)
    have HX2 := Lib.hid (HX.out.below HB1.out HX.out.lt)
    have HSK : Hid (∀ w' : World, Below w1.heap.size w1 w' → w'.cell? ⟨w.heap.size, 0, none⟩ = some (.int .i64 t.kind) ∧ w'.cell? ⟨w.heap.size, 1, none⟩ = some (.string t.text) ∧ w'.cell? ⟨w.heap.size, 2, none⟩ = some (.slice t.lA t.leads.length t.lc) ∧ w'.cell? ⟨w.heap.size, 3, none⟩ = some (.slice t.kA t.kids.length t.kc)) := fun w' hw => by
      have q1 := HX2.out.below hw HX2.out.lt
      exact ⟨by rw [q1.cell]; rfl, by rw [q1.cell]; rfl, by rw [q1.cell]; rfl, by rw [q1.cell]; rfl⟩
    have HA0 : Hid (Below w1.heap.size w1 w1.drew) := below_drewN (Below.refl _ _) 1
    clear hW c0 c1 c2 c3
    go_upto_region 3 with fail
    go_region_held3 (fun w' => w'.cell? ⟨w.heap.size, 0, none⟩ = some (.int .i64 t.kind) ∧ w'.cell? ⟨w.heap.size, 1, none⟩ = some (.string t.text) ∧ w'.cell? ⟨w.heap.size, 2, none⟩ = some (.slice t.lA t.leads.length t.lc) ∧ w'.cell? ⟨w.heap.size, 3, none⟩ = some (.slice t.kA t.kids.length t.kc)) (first | exact HSK.out _ HA0.out | exact HSK.out _ HA1.out | exact HSK.out _ HA2.out | exact HSK.out _ HA3.out | exact HSK.out _ HA4.out | exact HSK.out _ HA5.out | exact HSK.out _ HA6.out | exact HSK.out _ HA7.out | exact HSK.out _ HA8.out) (first | (go_at_call 25; refine (samePaths_any A1 A2 c1 c2 xs ys _ HP1.out HP2.out HPE.out HXL.out HXX.out).mono ?_; rintro e w11 ⟨rfl, hb8⟩; have HA8 := Lib.hid (HA7.out.trans (hb8.mono HA7.out.size)); clear hb8) | (go_at_call 27; refine (rpaths_any t _ (HT2.out.up (Nat.le_refl _) HA6.out) HSM.out).mono ?_; rintro e w10 ⟨A2, c2, ys, rfl, hp2, hl2, hb7⟩; have HP1 := Lib.hid (HP0.out.up hb7); have HP2 := Lib.hid hp2; have HPE := Lib.hid (HL0.out.trans hl2.symm); clear hp2 hl2; have HA7 := Lib.hid (HA6.out.trans (hb7.mono HA6.out.size)); clear hb7) | (go_at_call 26; refine (paths_any t _ (HT2.out.up (Nat.le_refl _) HA5.out) HSM.out).mono ?_; rintro e w9 ⟨A1, c1, xs, rfl, hp1, hl1, hb6⟩; have HP0 := Lib.hid hp1; have HL0 := Lib.hid hl1; have HXL := Lib.hid (paths_few hl1 HSM.out); have HXX := Lib.hid (paths_short hl1 HSM.out); clear hp1 hl1; have HA6 := Lib.hid (HA5.out.trans (hb6.mono HA5.out.size)); clear hb6) | (go_at_call 24; refine (rdepth_any t _ (HT2.out.up (Nat.le_refl _) HA4.out)).mono ?_; rintro e w8 ⟨rfl, hb5⟩; have HA5 := Lib.hid (HA4.out.trans (hb5.mono HA4.out.size)); clear hb5) | (go_at_call 23; refine (depth_any t _ (HT2.out.up (Nat.le_refl _) HA3.out)).mono ?_; rintro e w7 ⟨rfl, hb4⟩; have HA4 := Lib.hid (HA3.out.trans (hb4.mono HA3.out.size)); clear hb4) | (go_at_call 22; refine (rsize_any t _ (HT2.out.up (Nat.le_refl _) HA2.out)).mono ?_; rintro e w6 ⟨rfl, hb3⟩; have HA3 := Lib.hid (HA2.out.trans (hb3.mono HA2.out.size)); clear hb3) | (go_at_call 21; refine (size_any t _ (HT2.out.up (Nat.le_refl _) HA1.out)).mono ?_; rintro e w5 ⟨rfl, hb2⟩; have HA2 := Lib.hid (HA1.out.trans (hb2.mono HA1.out.size)); clear hb2) | (go_at_call 10; refine (awake_any _).mono ?_; rintro e w4 ⟨rfl, hb1⟩; have HA1 := Lib.hid (HA0.out.trans (hb1.mono HA0.out.size)); clear hb1))
    go_wp2_with fail
    go_ret
    exact ⟨rfl, HBW.out.trans ((HB1.out.trans (HA8.out.mono HB1.out.size)).mono HBW.out.size)⟩


theorem own : ownKnob Try.prog.godebug = none := by kernel_rfl
theorem laidOut : laidOutB Try.prog = true := by kernel_rfl
theorem specN (H : Type) (ds : List (DataW H)) (h : ds.length = 1) : Rows.treeMeasuresSpec.fn H (ds ++ []) = { results := [.lit (.bool true)], args := ds } := by
  match ds, h with
  | [_], _ => rfl

set_option maxRecDepth 100000 in
theorem lifted (os : Os) (started : os.Started) (H : Type) (enc : TypeId × Value → H) (F : Stop.Interp) :
    ReturnsInHanded {} Try.checked os 6 .any ((Rows.OpenSpec.upto Rows.treeMeasuresSpec).pre6 enc Try.prog Try.f6 Rows.treeMeasuresUptoRow.domain false) (((Rows.OpenSpec.upto Rows.treeMeasuresSpec).at F).post enc Try.prog Try.f6 false true false false) := by
  refine law_of_walk_upto (C := Try.checked) own started (by kernel_rfl) Try.func6 rfl rfl Try.underlying4 laidOut (by kernel_rfl) (fun ds h => specN H ds (h.trans (by kernel_rfl)))
    (OpenSpec.witness (enc := enc) (C := Try.checked) (s := Rows.OpenSpec.upto Rows.treeMeasuresSpec) (k := Rows.uptoSmall) rfl false ⟨#[], #[.agg #[.int .i64 0, .string ByteArray.empty, .slice none 0 0, .slice none 0 0]], []⟩ 8 (by kernel_rfl) (by kernel_rfl) (by kernel_rfl) (x := ([.agg [.lit (.int .i64 0), .lit (.string []), .nil, .nil]], [], [])) (by kernel_rfl) rfl (by kernel_rfl)) ?_
  intro W base args ds p hval hA hsz hk
  have hval' : ∀ (j : Nat) t v, Try.f6.params[j]? = some t → args[j]? = some v → Value.okWide Try.prog W .any base t v := hval
  rw [Try.params6] at hval' hA hsz
  obtain ⟨v0, vs0, d0, ds0, p0, q0, hargs, rfl, rfl, h0, r0⟩ := trodAll_cons hA
  obtain ⟨rfl, rfl, rfl⟩ := trodAll_nil r0
  obtain rfl : args = #[v0] := by cases args; simp_all
  obtain ⟨t0, rfl, ht0, hs0⟩ := arg_treeB (hval' 0 25 v0 rfl rfl) h0 (sm_arg hsz (j := 0) rfl rfl)
  simp only [Rows.uptoBulkAll] at hk
  exact walk t0 W ht0 (by omega)

theorem proved : Rows.TreeMeasuresUptoSaid :=
  OpenClaim.holds_of_cond 6 Try.f6 rfl rfl rfl rfl rfl rfl rfl ⟨rfl, rfl, rfl, rfl, rfl⟩ rfl rfl rfl rfl rfl (by kernel_rfl) Try.func6 (by kernel_rfl)
    (of_decide_eq_true (by kernel_rfl)) (by unfold Func.isWrapper; first | (rw [if_pos (by decide +kernel)]; kernel_rfl) | (rw [if_neg (by decide +kernel)]; exact ⟨rfl, rfl⟩))
    (fun os started H enc _ F => lifted os started H enc F)
end Go.Proofs.Ythaepakpeamajaa.treeMeasures
