/-
  PackTrees, where what comes in is of bounded bulk: for every such input the law returns true, and its arguments are as they were. No condition beside the given statement's own.
-/
import Derived.Test.YtdabmjcpiblofaaDoorPkLaws
import Derived.Test.YtdabmjcpiblofaaDoorPkTs
import Derived.Test.YtdabmjcpiblofaaDoorPkTb
import Derived.Test.YtdabmjcpiblofaaDoorPkUp
namespace Go.Proofs.YtdabmjcpiblofaaDoor.packTrees
open Go.ChangeShapes Go.WideShapes Go.ChangeAt Go.RowKit
open Go.ChangeMaps (open_string shut_string)
set_option linter.unusedVariables false

theorem bool_iff {b c : Bool} {P : Prop} (hb : b = true ↔ P) (hc : c = true ↔ P) : b = c := by
  cases b <;> cases c <;> simp_all
set_option maxRecDepth 100000 in
set_option maxHeartbeats 3200000 in
theorem walk (v : PkV) (w : World) (h : v.raw w w.heap.size) (ht : Tab w) : Calls Tryd.prog 4 #[v.val] w fun e w' => e = .returned (.bool true) ∧ Below w.heap.size w w' := by
  obtain ⟨W, hW⟩ : ∃ W, w.alloc (.cells #[.slice v.nA v.ps.length v.nc, .slice v.rA v.rs.length v.rc] 29) = W := ⟨_, rfl⟩
  have HBX : Hid (Blk W w.heap.size 29 #[.slice v.nA v.ps.length v.nc, .slice v.rA v.rs.length v.rc]) := by subst hW; exact Blk.new w _ _
  have HBW : Hid (Below w.heap.size w W) := by subst hW; exact bal (Below.refl _ w) _
  have hraw : v.raw W W.heap.size := by
    have h1 := h.low HBW.out
    have hz := HBW.out.size
    exact ⟨h1.nodes.more hz, h1.roots.more hz, fun p hp => by obtain ⟨a, b, c⟩ := h1.each p hp; exact ⟨a.more hz, b.more hz, c⟩, h1.nl, h1.rl, h1.rr⟩
  have H := Lib.hid hraw
  have HT := Lib.hid ht
  have HCB : Hid (∀ w', Below W.heap.size W w' → w'.cell? ⟨w.heap.size, 0, none⟩ = some (.slice v.nA v.ps.length v.nc) ∧ w'.cell? ⟨w.heap.size, 1, none⟩ = some (.slice v.rA v.rs.length v.rc)) := fun w' hb => by
    have h1 := HBX.out.below hb HBX.out.lt
    exact ⟨by rw [h1.cell]; rfl, by rw [h1.cell]; rfl⟩
  have c0 := (HCB.out _ (Below.refl _ _)).1
  have c1 := (HCB.out _ (Below.refl _ _)).2
  have HS := Lib.hid (small_any v W hraw)
  unfold PkV.val at HS ⊢
  clear h ht hraw
  go_enter Tryd.func4, Tryd.ntmps4
  go_wp2_with fail
  refine (HS.out).mono ?_
  rintro e w1 ⟨b, rfl, hfew, hb1⟩
  have HW := Lib.hid hW
  have BL1 := Lib.hid hb1
  have HB1 : Hid (Below w.heap.size w w1) := HBW.out.trans (hb1.mono HBW.out.size)
  clear hb1 HS c0 c1 hW
  rcases b with _ | _
  · have HA := Lib.hid (awake_any w1 (HT.out.below HB1.out))
    go_wp2_with fail
    refine (HA.out).mono ?_
    rintro e w2 ⟨rfl, hb2⟩
    have HB2 : Hid (Below w.heap.size w w2) := HB1.out.trans (hb2.mono HB1.out.size)
    clear hb2 HA
    go_wp2_with fail
    go_ret
    exact ⟨rfl, HB2.out⟩
  have hok : v.ok W W.heap.size := H.out.ok (hfew rfl)
  have HOK : Hid (∀ w', Below W.heap.size W w' → v.ok w' w'.heap.size) := fun w' hb => hok.up (Nat.le_refl _) hb
  have hrl : v.rs.length ≤ 200 := (hfew rfl).2.1
  have HRL := Lib.hid hrl
  have HL := Lib.hid (limit_any v w1 (HOK.out _ BL1.out))
  have c0 := (HCB.out _ BL1.out).1
  have c1 := (HCB.out _ BL1.out).2
  unfold PkV.val at HL
  clear hfew hok hrl
  go_wp2_with fail
  refine (HL.out).mono ?_
  rintro e w2 ⟨b, rfl, hb2⟩
  have BL2 := Lib.hid (BL1.out.trans (hb2.mono BL1.out.size))
  have HB2 : Hid (Below w.heap.size w w2) := HB1.out.trans (hb2.mono HB1.out.size)
  clear hb2 HL c0 c1
  rcases b with _ | _
  · have HA := Lib.hid (awake_any w2 (HT.out.below HB2.out))
    go_wp2_with fail
    refine (HA.out).mono ?_
    rintro e w3 ⟨rfl, hb3⟩
    have HB3 : Hid (Below w.heap.size w w3) := HB2.out.trans (hb3.mono HB2.out.size)
    clear hb3 HA
    go_wp2_with fail
    go_ret
    exact ⟨rfl, HB3.out⟩
  have H1 := Lib.hid (trees_any v w2 (HOK.out _ BL2.out))
  have c0 := (HCB.out _ BL2.out).1
  have c1 := (HCB.out _ BL2.out).2
  obtain ⟨er, her⟩ : ∃ er, errP v.ns v.rs = er := ⟨_, rfl⟩
  have HER := Lib.hid her
  unfold PkV.val at H1
  clear her
  go_wp2_with fail
  refine (H1.out).mono ?_
  rintro e w3 ⟨A3, c3, t3, rfl, htl3, hpl3, hno3, hb3⟩
  rw [HER.out]
  have BL3 := Lib.hid (BL2.out.trans (hb3.mono BL2.out.size))
  have HB3 : Hid (Below w.heap.size w w3) := HB2.out.trans (hb3.mono HB2.out.size)
  have HL3 := Lib.hid htl3.lt
  have HP3 := Lib.hid hpl3
  have HN3 := Lib.hid hno3
  have H2 := Lib.hid (rtrees_any v w3 (HOK.out _ BL3.out))
  clear htl3 hpl3 hno3 hb3 H1 c0 c1
  have c0 := (HCB.out _ BL3.out).1
  have c1 := (HCB.out _ BL3.out).2
  unfold PkV.val at H2
  go_wp2_with fail
  refine (H2.out).mono ?_
  rintro e w4 ⟨A4, c4, t4, rfl, htl4, hpl4, hno4, hb4⟩
  rw [HER.out]
  have BL4 := Lib.hid (BL3.out.trans (hb4.mono BL3.out.size))
  have HB4 : Hid (Below w.heap.size w w4) := HB3.out.trans (hb4.mono HB3.out.size)
  have HL4 := Lib.hid htl4.lt
  have HL34 := Lib.hid (HL3.out.up hb4)
  have HSAME : Hid (t3.map TX.plain = t4.map TX.plain ∧ t3.length ≤ 200 ∧ t4.length ≤ 200) := by
    by_cases h0 : errP v.ns v.rs = 0
    · have e3 := HP3.out h0
      have e4 := hpl4 h0
      have l3 := congrArg List.length e3
      have l4 := congrArg List.length e4
      unfold treesP at l3 l4
      simp only [List.length_map] at l3 l4
      have := HRL.out
      exact ⟨by rw [e3, e4], by omega, by omega⟩
    · rw [HN3.out h0, hno4 h0]; exact ⟨rfl, Nat.zero_le _, Nat.zero_le _⟩
  have HVAL : Hid (∀ w', Below w4.heap.size w4 w' → Calls Tryd.prog 21 #[.agg #[.slice v.nA v.ps.length v.nc, .slice v.rA v.rs.length v.rc]] w' (RetB w' (validP v.ns v.rs))) := fun w' hb => valid_any v w' (HOK.out _ (BL4.out.trans (hb.mono BL4.out.size))) (HT.out.below (HB4.out.trans (hb.mono HB4.out.size)))
  have HRVAL : Hid (∀ w', Below w4.heap.size w4 w' → Calls Tryd.prog 22 #[.agg #[.slice v.nA v.ps.length v.nc, .slice v.rA v.rs.length v.rc]] w' (RetB w' (validP v.ns v.rs))) := fun w' hb => rvalid_any v w' (HOK.out _ (BL4.out.trans (hb.mono BL4.out.size)))
  have HAW : Hid (∀ w', Below w4.heap.size w4 w' → Calls Tryd.prog 15 #[] w' (TruePost w')) := fun w' hb => awake_any w' (HT.out.below (HB4.out.trans (hb.mono HB4.out.size)))
  have HST : Hid (∀ w', Below w4.heap.size w4 w' → Calls Tryd.prog 20 #[.slice A3 t3.length c3, .slice A4 t4.length c4] w' (RetB w' (t3.map TX.plain = t4.map TX.plain))) := fun w' hb => sameTrees_any A3 A4 c3 c4 t3 t4 w' (HL34.out.up hb) (HL4.out.up hb) (by have := HSAME.out.2.1; omega) (by have := HSAME.out.2.2; omega)
  have HCB4 : Hid (∀ w', Below w4.heap.size w4 w' → w'.cell? ⟨w.heap.size, 0, none⟩ = some (.slice v.nA v.ps.length v.nc) ∧ w'.cell? ⟨w.heap.size, 1, none⟩ = some (.slice v.rA v.rs.length v.rc)) := fun w' hb => HCB.out w' (BL4.out.trans (hb.mono BL4.out.size))
  have B0 : Hid (Below w4.heap.size w4 w4.drew) := below_drewN (Below.refl _ w4) 1
  have d1 : (er == er) = true := by simp
  clear htl4 hpl4 hno4 hb4 H2 c0 c1
  go_wp2_with fail
  go_region_held3 (fun w' => w'.cell? ⟨w.heap.size, 0, none⟩ = some (.slice v.nA v.ps.length v.nc) ∧ w'.cell? ⟨w.heap.size, 1, none⟩ = some (.slice v.rA v.rs.length v.rc))
    (first | (with_reducible exact HCB4.out _ B0.out) | (with_reducible exact HCB4.out _ B6.out) | (with_reducible exact HCB4.out _ B7.out) | (with_reducible exact HCB4.out _ B8.out) | (with_reducible exact HCB4.out _ B9.out))
    (first
      | (go_at_call 15; refine (HAW.out _ B8.out).mono ?_; rintro e w9 ⟨rfl, hb9⟩; have B9 := Lib.hid (B8.out.trans (hb9.mono B8.out.size)); clear hb9)
      | (go_at_call 22; refine (HRVAL.out _ B7.out).mono ?_; rintro e w8 ⟨b8, hb8', rfl, hb8⟩; obtain rfl : b8 = b7 := bool_iff hb8' V7.out; have B8 := Lib.hid (B7.out.trans (hb8.mono B7.out.size)); clear hb8 hb8')
      | (go_at_call 21; refine (HVAL.out _ B7.out).mono ?_; rintro e w8 ⟨b8, hb8', rfl, hb8⟩; obtain rfl : b8 = b7 := bool_iff hb8' V7.out; have B8 := Lib.hid (B7.out.trans (hb8.mono B7.out.size)); clear hb8 hb8')
      | (go_at_call 21; refine (HVAL.out _ B6.out).mono ?_; rintro e w7 ⟨b7, hb7', rfl, hb7⟩; have B7 := Lib.hid (B6.out.trans (hb7.mono B6.out.size)); have V7 := Lib.hid hb7'; clear hb7 hb7')
      | (go_at_call 22; refine (HRVAL.out _ B6.out).mono ?_; rintro e w7 ⟨b7, hb7', rfl, hb7⟩; have B7 := Lib.hid (B6.out.trans (hb7.mono B6.out.size)); have V7 := Lib.hid hb7'; clear hb7 hb7')
      | (go_at_call 20; refine (HST.out _ B0.out).mono ?_; rintro e w6 ⟨b6, hb6', rfl, hb6⟩; obtain rfl : b6 = true := hb6'.2 HSAME.out.1; have B6 := Lib.hid (B0.out.trans (hb6.mono B0.out.size)); clear hb6 hb6'))
  all_goals
    go_wp2_with fail
    go_ret
    exact ⟨rfl, HB4.out.trans (B9.out.mono HB4.out.size)⟩

theorem own : ownKnob Tryd.prog.godebug = none := by kernel_rfl
theorem laidOut : laidOutB Tryd.prog = true := by kernel_rfl
theorem specN (H : Type) (ds : List (DataW H)) (h : ds.length = 1) : Rows.packTreesSpec.fn H (ds ++ []) = { results := [.lit (.bool true)], args := ds } := by
  match ds, h with
  | [_], _ => rfl
theorem reads (os : Os) {H : Type} (enc : TypeId × Value → H) : ∃ places, DataW.whole enc Tryd.prog ((laidWorld os).forCall (fun _ _ => 0) ⟨#[], #[.agg #[.slice none 0 0, .slice none 0 0]], []⟩).memory Tryd.f4.params.toList Rows.packTreesSpec.vars false (#[.agg #[.slice none 0 0, .slice none 0 0]] : Array Value).toList 8 = some ([.agg [.nil, .nil]], [], places) :=
  ⟨[], by kernel_rfl⟩

set_option maxRecDepth 100000 in
theorem lifted (os : Os) (started : os.Started) (H : Type) (enc : TypeId × Value → H) (F : Stop.Interp) :
    ReturnsInHanded {} Tryd.checked os 4 .any ((Rows.OpenSpec.upto Rows.packTreesSpec).preRow enc Tryd.prog Tryd.f4 Rows.packTreesUptoRow.domain false Rows.packTreesUptoRow.laid) (((Rows.OpenSpec.upto Rows.packTreesSpec).at F).post enc Tryd.prog Tryd.f4 false true false false) := by
  obtain ⟨places, hx⟩ := reads os enc
  refine law_of_walk_laidU (C := Tryd.checked) own started (by kernel_rfl) Tryd.func4 rfl rfl Tryd.underlying4 laidOut (by kernel_rfl) (fun ds h => specN H ds (h.trans (by kernel_rfl)))
    (witness_row_at (enc := enc) (C := Tryd.checked) false (laidWorld os) #[.agg #[.slice none 0 0, .slice none 0 0]] rfl (by kernel_rfl) (by kernel_rfl) (by kernel_rfl)
      (OpenSpec.preRow_of_cond 8 hx (by kernel_rfl) (fun k hk => by cases hk; kernel_rfl) (by kernel_rfl) (laid_met os #[.agg #[.slice none 0 0, .slice none 0 0]]))) ?_
  intro W base args ds p hval hA hsz hL hk
  have hval' : ∀ (j : Nat) t v, Tryd.f4.params[j]? = some t → args[j]? = some v → Value.okWide Tryd.prog W .any base t v := hval
  rw [Tryd.params4] at hval' hA hsz
  obtain ⟨v0, vs0, d0, ds0, p0, q0, hargs, rfl, rfl, h0, r0⟩ := trodAll_cons hA
  obtain ⟨rfl, rfl, rfl⟩ := trodAll_nil r0
  obtain rfl : args = #[v0] := by cases args; simp_all
  simp only [Rows.uptoBulkAll] at hk
  obtain ⟨u, rfl, hraw⟩ := arg_pack (hval' 0 29 v0 rfl rfl) h0 (sm_arg hsz (j := 0) (t := 29) rfl rfl) (by omega)
  exact walk u W hraw (tab_of_laid hL)

theorem said : Rows.PackTreesUptoSaid :=
  OpenClaim.holds_of_cond 4 Tryd.f4 rfl rfl rfl rfl rfl rfl rfl ⟨rfl, rfl, rfl, rfl, rfl⟩ rfl rfl rfl rfl rfl (by kernel_rfl) Tryd.func4 (by kernel_rfl)
    (of_decide_eq_true (by kernel_rfl)) (by unfold Func.isWrapper; first | (rw [if_pos (by decide +kernel)]; kernel_rfl) | (rw [if_neg (by decide +kernel)]; exact ⟨rfl, rfl⟩))
    (fun os started H enc _ F => by rw [OpenClaim.pre_eq_preRow]; exact lifted os started H enc F)

theorem plain (f : FuncId) (fn : Func) (hf : Tryd.pinned.checked.prog.funcNamed Rows.packTreesUptoRow.func = some f) (hfn : Tryd.pinned.checked.prog.funcs[f]? = some fn) :
    false = Tryd.pinned.checked.prog.looks [] ∧ ∀ (j : Nat) t, fn.params[j]? = some t → Tryd.pinned.checked.prog.wantsStandIn t = false := by
  obtain rfl : f = 4 := Option.some.inj ((show Tryd.prog.funcNamed Rows.packTreesUptoRow.func = some 4 by kernel_rfl).symm.trans hf) |>.symm
  obtain rfl : fn = Tryd.f4 := (Option.some.inj (Tryd.func4.symm.trans hfn)).symm
  refine ⟨by kernel_rfl, fun j t ht => ?_⟩
  have hall : Tryd.f4.params.toList.all (fun t => Tryd.prog.wantsStandIn t == false) = true := by kernel_rfl
  have hm := List.all_eq_true.1 hall t (by rw [Array.mem_toList_iff]; exact Array.mem_of_getElem? ht)
  have hm' : Tryd.prog.wantsStandIn t = false := by simpa using hm
  exact hm'

theorem proved : Rows.PackTreesUptoCardSaid :=
  Claim7.holds_tied_plain_at .later [] _ _ _ _ said (fun _ h => by cases h) (by kernel_rfl) (fun _ h => by cases h) packTreesUpto_row_tie rfl ⟨rfl, rfl⟩ (by kernel_rfl) rfl plain (by kernel_rfl)
end Go.Proofs.YtdabmjcpiblofaaDoor.packTrees
