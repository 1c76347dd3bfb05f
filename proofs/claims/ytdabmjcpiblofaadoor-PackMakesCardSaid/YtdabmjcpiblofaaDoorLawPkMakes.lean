/-
  PackMakes: for every input the law returns true, and its arguments are as they were. No condition beside the given statement's own.
-/
import Derived.Test.YtdabmjcpiblofaaDoorPkLaws
namespace Go.Proofs.YtdabmjcpiblofaaDoor.packMakes
open Go.ChangeShapes Go.WideShapes Go.ChangeAt Go.RowKit
open Go.ChangeMaps (open_string shut_string)
set_option linter.unusedVariables false

set_option maxRecDepth 100000 in
set_option maxHeartbeats 1600000 in
theorem walk (A : Option Addr) (c n : Nat) (l : List ND) (hnl : l.length = n) (hnc : n ≤ c) (hcm : n ≤ 140737488351232) (hli : ∀ x ∈ l, i64 x.1 ∧ i64 x.2.1 ∧ i64 x.2.2) (w : World) (hr : Reads w w.heap.size 3 A n (l.flatMap ndCells)) (ht : Tab w) :
    Calls Tryd.prog 3 #[.slice A n c] w fun e w' => e = .returned (.bool true) ∧ Below w.heap.size w w' := by
  have H1 := Lib.hid (lawTrees_any A c n l hnl hnc hcm hli w hr)
  have HSZ := Lib.hid (treesL_inv (l.take 60) (by rw [List.length_take]; omega))
  have HT := Lib.hid ht
  clear hr ht hli hnl
  go_enter Tryd.func3, Tryd.ntmps3
  go_wp2_with fail
  refine (H1.out).mono ?_
  rintro e w1 ⟨A1, c1, rs, rfl, hpl, htl, hb1⟩
  have hsz : T.sizes (rs.map TX.plain) ≤ 1000000 := by rw [hpl]; have := HSZ.out.1; omega
  have HLT := Lib.hid htl.lt
  have HB1 := Lib.hid hb1
  have H2 := Lib.hid (make_any A1 c1 rs w1 HLT.out hsz (HT.out.below hb1))
  have HS := Lib.hid hsz
  clear hpl htl hb1 hsz H1
  go_wp2_with fail
  refine (H2.out).mono ?_
  rintro e w2 ⟨u, rfl, hun, hur, huk, hb2⟩
  have H3 := Lib.hid (refMake_any A1 c1 rs w2 (HLT.out.up hb2) HS.out)
  have HB2 : Hid (Below w.heap.size w w2) := HB1.out.trans (hb2.mono HB1.out.size)
  have HU := Lib.hid huk
  have HUN := Lib.hid hun
  have HUR := Lib.hid hur
  unfold PkV.val
  clear hun hur huk hb2 H2
  go_wp2_with fail
  refine (H3.out).mono ?_
  rintro e w3 ⟨v, rfl, hvn, hvr, hvk, hb3⟩
  have H4 := Lib.hid (refSame_any u v w3 (HU.out.up (Nat.le_refl _) hb3) hvk)
  have HB3 : Hid (Below w.heap.size w w3) := HB2.out.trans (hb3.mono HB2.out.size)
  have HEQ : Hid (eqPk u v) := ⟨by rw [HUN.out, hvn], by rw [HUR.out, hvr]⟩
  unfold PkV.val at H4 ⊢
  clear hvn hvr hvk hb3 H3
  go_wp2_with fail
  refine (H4.out).mono ?_
  rintro e w4 ⟨bv, hbv, rfl, hb4⟩
  obtain rfl : bv = true := hbv.2 HEQ.out
  have HB4 : Hid (Below w.heap.size w w4) := HB3.out.trans (hb4.mono HB3.out.size)
  have H5 := Lib.hid (awake_any w4 (HT.out.below HB4.out))
  clear hbv hb4 H4
  go_wp2_with fail
  refine (H5.out).mono ?_
  rintro e w5 ⟨rfl, hb5⟩
  have HB5 : Hid (Below w.heap.size w w5) := HB4.out.trans (hb5.mono HB4.out.size)
  clear hb5 H5
  go_wp2_with fail
  go_ret
  exact ⟨rfl, HB5.out⟩

theorem own : ownKnob Tryd.prog.godebug = none := by kernel_rfl
theorem laidOut : laidOutB Tryd.prog = true := by kernel_rfl
theorem specN (H : Type) (ds : List (DataW H)) (h : ds.length = 1) : Rows.packMakesSpec.fn H (ds ++ []) = { results := [.lit (.bool true)], args := ds } := by
  match ds, h with
  | [_], _ => rfl
theorem reads (os : Os) {H : Type} (enc : TypeId × Value → H) : ∃ places, DataW.whole enc Tryd.prog ((laidWorld os).forCall (fun _ _ => 0) ⟨#[], #[.slice none 0 0], []⟩).memory Tryd.f3.params.toList Rows.packMakesSpec.vars false (#[.slice none 0 0] : Array Value).toList 8 = some ([.nil], [], places) :=
  ⟨[], by kernel_rfl⟩

set_option maxRecDepth 100000 in
theorem lifted (os : Os) (started : os.Started) (H : Type) (enc : TypeId × Value → H) (F : Stop.Interp) :
    ReturnsInHanded {} Tryd.checked os 3 .any ((OpenSpec.ofChange Rows.packMakesSpec).preRow enc Tryd.prog Tryd.f3 Rows.packMakesRow.domain false Rows.packMakesRow.laid) (((OpenSpec.ofChange Rows.packMakesSpec).at F).post enc Tryd.prog Tryd.f3 false true false false) := by
  obtain ⟨places, hx⟩ := reads os enc
  refine law_of_walk_laid (C := Tryd.checked) own started (by kernel_rfl) Tryd.func3 rfl rfl Tryd.underlying4 laidOut (by kernel_rfl) (fun ds h => specN H ds (h.trans (by kernel_rfl)))
    (witness_row_at (enc := enc) (C := Tryd.checked) false (laidWorld os) #[.slice none 0 0] rfl (by kernel_rfl) (by kernel_rfl) (by kernel_rfl)
      (OpenSpec.preRow_of_cond 8 hx (by kernel_rfl) (fun k hk => by cases hk) (by kernel_rfl) (laid_met os #[.slice none 0 0]))) ?_
  intro W base args ds p hval hA hsz hL
  have hval' : ∀ (j : Nat) t v, Tryd.f3.params[j]? = some t → args[j]? = some v → Value.okWide Tryd.prog W .any base t v := hval
  rw [Tryd.params3] at hval' hA hsz
  obtain ⟨v0, vs0, d0, ds0, p0, q0, hargs, rfl, rfl, h0, r0⟩ := trodAll_cons hA
  obtain ⟨rfl, rfl, rfl⟩ := trodAll_nil r0
  obtain rfl : args = #[v0] := by cases args; simp_all
  obtain ⟨a0, len0, cap0, rfl⟩ := okWide_slice Tryd.underlying22 (hval' 0 22 v0 rfl rfl)
  obtain ⟨nc0, nm0, l0, nl0, nr0, ni0⟩ := open_nodes h0 (sm_arg hsz (j := 0) (t := 22) rfl rfl)
  exact walk a0 cap0 len0 l0 nl0 nc0 nm0 ni0 W nr0 (tab_of_laid hL)

theorem said : Rows.PackMakesSaid :=
  OpenClaim.holds_of_cond 3 Tryd.f3 rfl rfl rfl rfl rfl rfl rfl ⟨rfl, rfl, rfl, rfl, rfl⟩ rfl rfl rfl rfl rfl (by kernel_rfl) Tryd.func3 (by kernel_rfl)
    (of_decide_eq_true (by kernel_rfl)) (by unfold Func.isWrapper; first | (rw [if_pos (by decide +kernel)]; kernel_rfl) | (rw [if_neg (by decide +kernel)]; exact ⟨rfl, rfl⟩))
    (fun os started H enc _ F => by rw [OpenClaim.pre_eq_preRow]; exact lifted os started H enc F)

theorem plain (f : FuncId) (fn : Func) (hf : Tryd.pinned.checked.prog.funcNamed Rows.packMakesRow.func = some f) (hfn : Tryd.pinned.checked.prog.funcs[f]? = some fn) :
    false = Tryd.pinned.checked.prog.looks [] ∧ ∀ (j : Nat) t, fn.params[j]? = some t → Tryd.pinned.checked.prog.wantsStandIn t = false := by
  obtain rfl : f = 3 := Option.some.inj ((show Tryd.prog.funcNamed Rows.packMakesRow.func = some 3 by kernel_rfl).symm.trans hf) |>.symm
  obtain rfl : fn = Tryd.f3 := (Option.some.inj (Tryd.func3.symm.trans hfn)).symm
  refine ⟨by kernel_rfl, fun j t ht => ?_⟩
  have hall : Tryd.f3.params.toList.all (fun t => Tryd.prog.wantsStandIn t == false) = true := by kernel_rfl
  have hm := List.all_eq_true.1 hall t (by rw [Array.mem_toList_iff]; exact Array.mem_of_getElem? ht)
  have hm' : Tryd.prog.wantsStandIn t = false := by simpa using hm
  exact hm'

theorem proved : Rows.PackMakesCardSaid :=
  Claim7.holds_tied_plain_at .later [] _ _ _ _ said (fun _ h => by cases h) (by kernel_rfl) (fun _ h => by cases h) packMakes_row_tie rfl ⟨rfl, rfl⟩ (by kernel_rfl) rfl plain (by kernel_rfl)
end Go.Proofs.YtdabmjcpiblofaaDoor.packMakes
