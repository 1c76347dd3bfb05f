/-
  PackParses: for every input the law returns true, and its arguments are as they were. No condition beside the given statement's own.
-/
import Derived.Test.YtdabmjcpiblofaaDoorPkLaws
import Derived.Test.YtdabmjcpiblofaaDoorPkXb
namespace Go.Proofs.YtdabmjcpiblofaaDoor.packParses
open Go.ChangeShapes Go.WideShapes Go.ChangeAt Go.RowKit
open Go.ChangeMaps (open_string shut_string)
set_option linter.unusedVariables false

set_option maxRecDepth 100000 in
set_option maxHeartbeats 1600000 in
theorem walk (A : Option Addr) (n c : Nat) (bs : List Nat) (hnc : n ≤ c) (hcm : c ≤ maxLen) (w : World) (hr : Reads w w.heap.size 1 A n (bs.map byt)) (hbs : ∀ x ∈ bs, x < 256) (ht : Tab w) :
    Calls Tryd.prog 9 #[.slice A n c] w fun e w' => e = .returned (.bool true) ∧ Below w.heap.size w w' := by
  have HT := Lib.hid ht
  have hl : bs.length = n := by have := hr.1; simpa using this
  by_cases h300 : 300 < n
  · have d1 : decide ((300 : Int) < (n : Int)) = true := by simp; omega
    have H5 := Lib.hid (awake_any w ht)
    clear hr hbs ht hl
    go_enter Tryd.func9, Tryd.ntmps9
    go_wp2_with fail
    refine (H5.out).mono ?_
    rintro e w5 ⟨rfl, hb5⟩
    have HB5 := Lib.hid hb5
    clear hb5 H5
    go_wp2_with fail
    go_ret
    exact ⟨rfl, HB5.out⟩
  have d1 : decide ((300 : Int) < (n : Int)) = false := by simp; omega
  have hfit := packB_fit (bs := bs) (by omega)
  have H1 := Lib.hid (parse_any (by omega) hnc hr hbs ht hfit)
  have H2 : Hid (∀ w', Below w.heap.size w w' → Calls Tryd.prog 34 #[.slice A n c] w' (ParsePost w' bs)) := fun w' hb => rparse_any (by omega) hnc ((hr.below hb).more hb.size) hbs hfit
  clear hr hbs ht hl hfit
  go_enter Tryd.func9, Tryd.ntmps9
  go_wp2_with fail
  refine (H1.out).mono ?_
  rintro e w1 hp1
  obtain ⟨u, er, rfl, hun, hur, hue, huk, hb1⟩ := parse_post hp1
  obtain ⟨W2, hW2⟩ : ∃ W, w1.alloc (.cells #[.slice u.nA u.ps.length u.nc, .slice u.rA u.rs.length u.rc] 29) = W := ⟨_, rfl⟩
  have HX2 : Hid (Blk W2 w1.heap.size 29 #[.slice u.nA u.ps.length u.nc, .slice u.rA u.rs.length u.rc]) := by
    rw [← hW2]; exact Blk.new w1 _ _
  have HD2 : Hid (Below w1.heap.size w1 W2) := by
    rw [← hW2]; exact bal (Below.refl _ w1) _
  have HB2 : Hid (Below w.heap.size w W2) := hb1.trans (HD2.out.mono hb1.size)
  have HU : Hid (u.ok W2 W2.heap.size) := huk.up (Nat.le_refl _) HD2.out
  have HUN := Lib.hid hun
  have HUR := Lib.hid hur
  have HUE := Lib.hid hue
  have H3 := Lib.hid (H2.out W2 HB2.out)
  unfold PkV.val
  clear hun hur hue huk hb1 hp1 H1 H2
  go_wp2_with fail
  refine (H3.out).mono ?_
  rintro e w3 hp3
  obtain ⟨v, er', rfl, hvn, hvr, hve, hvk, hb3⟩ := parse_post hp3
  obtain rfl : er' = er := hve.trans HUE.out.symm
  obtain ⟨W4, hW4⟩ : ∃ W, w3.alloc (.cells #[.slice v.nA v.ps.length v.nc, .slice v.rA v.rs.length v.rc] 29) = W := ⟨_, rfl⟩
  have HX4 : Hid (Blk W4 w3.heap.size 29 #[.slice v.nA v.ps.length v.nc, .slice v.rA v.rs.length v.rc]) := by
    rw [← hW4]; exact Blk.new w3 _ _
  have HD4 : Hid (Below w3.heap.size w3 W4) := by
    rw [← hW4]; exact bal (Below.refl _ w3) _
  have HD24 : Hid (Below W2.heap.size W2 W4) := hb3.trans (HD4.out.mono hb3.size)
  have HB4 : Hid (Below w.heap.size w W4) := HB2.out.trans (HD24.out.mono HB2.out.size)
  have HX2' := Lib.hid (HX2.out.below HD24.out HX2.out.lt)
  have H4 := Lib.hid (refSame_any u v W4 (HU.out.up (Nat.le_refl _) HD24.out) (hvk.up (Nat.le_refl _) HD4.out))
  have HEQ : Hid (eqPk u v) := ⟨by rw [HUN.out, hvn], by rw [HUR.out, hvr]⟩
  have c20 := HX2'.out.cell 0
  have c21 := HX2'.out.cell 1
  have c40 := HX4.out.cell 0
  have c41 := HX4.out.cell 1
  simp at c20 c21 c40 c41
  unfold PkV.val at H4 ⊢
  clear hvn hvr hve hvk hb3 hp3 H3 hW2
  go_wp2_with fail
  refine (H4.out).mono ?_
  rintro e w5 ⟨bv, hbv, rfl, hb4⟩
  obtain rfl : bv = true := hbv.2 HEQ.out
  have HB5 : Hid (Below w.heap.size w w5) := HB4.out.trans (hb4.mono HB4.out.size)
  have H5 := Lib.hid (awake_any w5 (HT.out.below HB5.out))
  clear hbv hb4 H4
  go_wp2_with fail
  refine (H5.out).mono ?_
  rintro e w6 ⟨rfl, hb5⟩
  have HB6 : Hid (Below w.heap.size w w6) := HB5.out.trans (hb5.mono HB5.out.size)
  clear hb5 H5
  go_wp2_with fail
  go_ret
  exact ⟨rfl, HB6.out⟩
theorem own : ownKnob Tryd.prog.godebug = none := by kernel_rfl
theorem laidOut : laidOutB Tryd.prog = true := by kernel_rfl
theorem specN (H : Type) (ds : List (DataW H)) (h : ds.length = 1) : Rows.packParsesSpec.fn H (ds ++ []) = { results := [.lit (.bool true)], args := ds } := by
  match ds, h with
  | [_], _ => rfl
theorem reads (os : Os) {H : Type} (enc : TypeId × Value → H) : ∃ places, DataW.whole enc Tryd.prog ((laidWorld os).forCall (fun _ _ => 0) ⟨#[], #[.slice none 0 0], []⟩).memory Tryd.f9.params.toList Rows.packParsesSpec.vars false (#[.slice none 0 0] : Array Value).toList 8 = some ([.nil], [], places) :=
  ⟨[], by kernel_rfl⟩

set_option maxRecDepth 100000 in
theorem lifted (os : Os) (started : os.Started) (H : Type) (enc : TypeId × Value → H) (F : Stop.Interp) :
    ReturnsInHanded {} Tryd.checked os 9 .any ((OpenSpec.ofChange Rows.packParsesSpec).preRow enc Tryd.prog Tryd.f9 Rows.packParsesRow.domain false Rows.packParsesRow.laid) (((OpenSpec.ofChange Rows.packParsesSpec).at F).post enc Tryd.prog Tryd.f9 false true false false) := by
  obtain ⟨places, hx⟩ := reads os enc
  refine law_of_walk_laid (C := Tryd.checked) own started (by kernel_rfl) Tryd.func9 rfl rfl Tryd.underlying4 laidOut (by kernel_rfl) (fun ds h => specN H ds (h.trans (by kernel_rfl)))
    (witness_row_at (enc := enc) (C := Tryd.checked) false (laidWorld os) #[.slice none 0 0] rfl (by kernel_rfl) (by kernel_rfl) (by kernel_rfl)
      (OpenSpec.preRow_of_cond 8 hx (by kernel_rfl) (fun k hk => by cases hk) (by kernel_rfl) (laid_met os #[.slice none 0 0]))) ?_
  intro W base args ds p hval hA hsz hL
  have hval' : ∀ (j : Nat) t v, Tryd.f9.params[j]? = some t → args[j]? = some v → Value.okWide Tryd.prog W .any base t v := hval
  rw [Tryd.params9] at hval' hA hsz
  obtain ⟨v0, vs0, d0, ds0, p0, q0, hargs, rfl, rfl, h0, r0⟩ := trodAll_cons hA
  obtain ⟨rfl, rfl, rfl⟩ := trodAll_nil r0
  obtain rfl : args = #[v0] := by cases args; simp_all
  obtain ⟨a0, len0, cap0, rfl⟩ := okWide_slice Tryd.underlying54 (hval' 0 54 v0 rfl rfl)
  obtain ⟨hw0, hc0, hm0, bs0, hr0, hbs0⟩ := open_bytes Tryd.underlying54 Tryd.underlying5 (by kernel_rfl) h0
  exact walk a0 len0 cap0 bs0 hc0 hm0 W hr0 hbs0 (tab_of_laid hL)

theorem said : Rows.PackParsesSaid :=
  OpenClaim.holds_of_cond 9 Tryd.f9 rfl rfl rfl rfl rfl rfl rfl ⟨rfl, rfl, rfl, rfl, rfl⟩ rfl rfl rfl rfl rfl (by kernel_rfl) Tryd.func9 (by kernel_rfl)
    (of_decide_eq_true (by kernel_rfl)) (by unfold Func.isWrapper; first | (rw [if_pos (by decide +kernel)]; kernel_rfl) | (rw [if_neg (by decide +kernel)]; exact ⟨rfl, rfl⟩))
    (fun os started H enc _ F => by rw [OpenClaim.pre_eq_preRow]; exact lifted os started H enc F)

theorem plain (f : FuncId) (fn : Func) (hf : Tryd.pinned.checked.prog.funcNamed Rows.packParsesRow.func = some f) (hfn : Tryd.pinned.checked.prog.funcs[f]? = some fn) :
    false = Tryd.pinned.checked.prog.looks [] ∧ ∀ (j : Nat) t, fn.params[j]? = some t → Tryd.pinned.checked.prog.wantsStandIn t = false := by
  obtain rfl : f = 9 := Option.some.inj ((show Tryd.prog.funcNamed Rows.packParsesRow.func = some 9 by kernel_rfl).symm.trans hf) |>.symm
  obtain rfl : fn = Tryd.f9 := (Option.some.inj (Tryd.func9.symm.trans hfn)).symm
  refine ⟨by kernel_rfl, fun j t ht => ?_⟩
  have hall : Tryd.f9.params.toList.all (fun t => Tryd.prog.wantsStandIn t == false) = true := by kernel_rfl
  have hm := List.all_eq_true.1 hall t (by rw [Array.mem_toList_iff]; exact Array.mem_of_getElem? ht)
  have hm' : Tryd.prog.wantsStandIn t = false := by simpa using hm
  exact hm'

theorem proved : Rows.PackParsesCardSaid :=
  Claim7.holds_tied_plain_at .later [] _ _ _ _ said (fun _ h => by cases h) (by kernel_rfl) (fun _ h => by cases h) packParses_row_tie rfl ⟨rfl, rfl⟩ (by kernel_rfl) rfl plain (by kernel_rfl)
end Go.Proofs.YtdabmjcpiblofaaDoor.packParses
