/-
  IdentBack: for every input the law returns true, and its arguments are as they were. No condition beside the given statement's own.
-/
import Derived.Test.YtbphdbhlckbecaaDoorIdLaws
namespace Go.Proofs.YtbphdbhlckbecaaDoor.identBack
open Go.ChangeShapes Go.WideShapes Go.ChangeAt Go.RowKit
open Go.ChangeMaps (open_string shut_string)
set_option linter.unusedVariables false

set_option maxRecDepth 100000 in
set_option maxHeartbeats 1000000 in
theorem walk (site n : Int) (w : World) (ht : Tab w) :
    Calls Tryd.prog 5 #[.int .i64 site, .int .i64 n] w fun e w' => e = .returned (.bool true) ∧ Below w.heap.size w w' := by
  have H1 := Lib.hid (make_any site n w)
  have HA := fun W hw => Lib.hid (awake_any W hw)
  have HT := Lib.hid ht
  by_cases hp : partsB site n = true
  · have hp' : 1 ≤ site ∧ site ≤ 32 ∧ 1 ≤ n ∧ n ≤ 1048575 := by unfold partsB at hp; rwa [decide_eq_true_eq] at hp
    obtain ⟨e1, hv, e2, e3⟩ := make_valid hp
    rw [e1] at H1
    have e4 : siteI (makeI site n) = site := by unfold siteI; rw [if_pos hv]; exact e2
    have e5 : serialI (makeI site n) = n := by unfold serialI; rw [if_pos hv]; exact e3
    have e6 : makeI site n = site * 1048576 + n := by unfold makeI; rw [if_pos hp]
    have e7 : parseP (fmtI (makeI site n)) = (makeI site n, 0) := by
      obtain ⟨x, hx⟩ := Int.eq_ofNat_of_zero_le (show 0 ≤ site by omega)
      obtain ⟨y, hy⟩ := Int.eq_ofNat_of_zero_le (show 0 ≤ n by omega)
      have : fmtI (makeI site n) = fmtP x y := by
        unfold fmtI
        rw [hv, if_pos rfl, e2, e3, hx, hy, Int.toNat_natCast, Int.toNat_natCast]
      rw [this, parseP_yes (by omega) (by omega) (by omega) (by omega), e6, hx, hy]
    have hsz : (fmtI (makeI site n)).size ≤ 9223372036854775806 := by
      have : fmtI (makeI site n) = fmtP site.toNat n.toNat := by unfold fmtI; rw [hv, if_pos rfl, e2, e3]
      rw [this, fmtP_size]
      have l1 := dec_len 6 site.toNat (by omega)
      have l2 := dec_len 6 n.toNat (by omega)
      omega
    have H2 := Lib.hid (format_any (makeI site n) w ht)
    have H3 := fun W hw => Lib.hid (parse_any (fmtI (makeI site n)) W hsz hw)
    rw [e7] at H3
    have H4 := fun W => Lib.hid (site_any (makeI site n) W)
    have H5 := fun W => Lib.hid (serial_any (makeI site n) W)
    have H6 := fun W => Lib.hid (valid_any (makeI site n) W)
    rw [e4] at H4
    rw [e5] at H5
    rw [hv] at H6
    generalize fmtI (makeI site n) = tx at H2 H3
    generalize makeI site n = id at H1 H2 H3 H4 H5 H6
    clear ht hp hp' e1 hv e2 e3 e4 e5 e6 e7 hsz
    go_enter Tryd.func5, Tryd.ntmps5
    go_wp2_with fail
    refine (H1.out).mono ?_
    rintro e w' ⟨rfl, rfl⟩
    go_wp2_with fail
    refine (H2.out).mono ?_
    rintro e y1 ⟨rfl, hb1⟩
    have HB1 := Lib.hid hb1
    clear hb1
    have HT1 := Lib.hid (HT.out.below HB1.out)
    go_wp2_with fail
    refine ((H3 _ HT1.out).out).mono ?_
    rintro e y2 ⟨rfl, hb2⟩
    have HB2 := Lib.hid (HB1.out.trans (hb2.mono HB1.out.size))
    clear hb2
    have HT2 := Lib.hid (HT.out.below HB2.out)
    go_wp2_with fail
    refine ((HA _ HT2.out).out).mono ?_
    rintro e y3 ⟨rfl, hb3⟩
    have HB3 := Lib.hid (HB2.out.trans (hb3.mono HB2.out.size))
    clear hb3
    go_wp2_with fail
    refine ((H4 _).out).mono ?_
    rintro e w' ⟨rfl, rfl⟩
    go_wp2_with fail
    refine ((H5 _).out).mono ?_
    rintro e w' ⟨rfl, rfl⟩
    go_wp2_with fail
    refine ((H6 _).out).mono ?_
    rintro e w' ⟨rfl, rfl⟩
    clear HA H1 H2 H3 H4 H5 H6
    go_wp2_with fail
    go_ret
    exact ⟨rfl, HB3.out⟩
  · have hp' : ¬ (1 ≤ site ∧ site ≤ 32 ∧ 1 ≤ n ∧ n ≤ 1048575) := fun h => hp (by unfold partsB; rw [decide_eq_true_eq]; exact h)
    have e1 : makeI site n = 0 := by unfold makeI; rw [if_neg hp]
    have e2 : makeE site n = 5 := by unfold makeE; rw [if_neg hp]
    rw [e1, e2] at H1
    clear ht hp e1 e2
    have hcase : site < 1 ∨ (1 ≤ site ∧ 32 < site) ∨ (1 ≤ site ∧ site ≤ 32 ∧ n < 1) ∨ (1 ≤ site ∧ site ≤ 32 ∧ 1 ≤ n ∧ 1048575 < n) := by omega
    clear hp'
    rcases hcase with h | h | h | h
    all_goals
      go_enter Tryd.func5, Tryd.ntmps5
      go_wp2_with fail
      refine (H1.out).mono ?_
      rintro e w' ⟨rfl, rfl⟩
      go_wp2_with fail
      refine ((HA _ HT.out).out).mono ?_
      rintro e y1 ⟨rfl, hb1⟩
      have HB1 := Lib.hid hb1
      clear hb1
      clear HA H1
      go_wp2_with fail
      all_goals go_ret
      all_goals exact ⟨rfl, HB1.out⟩

theorem own : ownKnob Tryd.prog.godebug = none := by kernel_rfl
theorem laidOut : laidOutB Tryd.prog = true := by kernel_rfl
theorem specN (H : Type) (ds : List (DataW H)) (h : ds.length = 2) : Rows.identBackSpec.fn H (ds ++ []) = { results := [.lit (.bool true)], args := ds } := by
  match ds, h with
  | [_, _], _ => rfl
theorem reads (os : Os) {H : Type} (enc : TypeId × Value → H) : ∃ places, DataW.whole enc Tryd.prog ((laidWorld os).forCall (fun _ _ => 0) ⟨#[], #[.int .i64 0, .int .i64 0], []⟩).memory Tryd.f5.params.toList Rows.identBackSpec.vars false (#[.int .i64 0, .int .i64 0] : Array Value).toList 8 = some ([.lit (.int .i64 0), .lit (.int .i64 0)], [], places) :=
  ⟨[], by kernel_rfl⟩

set_option maxRecDepth 100000 in
theorem lifted (os : Os) (started : os.Started) (H : Type) (enc : TypeId × Value → H) (F : Stop.Interp) :
    ReturnsInHanded {} Tryd.checked os 5 .any ((OpenSpec.ofChange Rows.identBackSpec).preRow enc Tryd.prog Tryd.f5 Rows.identBackRow.domain false Rows.identBackRow.laid) (((OpenSpec.ofChange Rows.identBackSpec).at F).post enc Tryd.prog Tryd.f5 false true false false) := by
  obtain ⟨places, hx⟩ := reads os enc
  refine law_of_walk_laid (C := Tryd.checked) own started (by kernel_rfl) Tryd.func5 rfl rfl Tryd.underlying4 laidOut (by kernel_rfl) (fun ds h => specN H ds (h.trans (by kernel_rfl)))
    (witness_row_at (enc := enc) (C := Tryd.checked) false (laidWorld os) #[.int .i64 0, .int .i64 0] rfl (by kernel_rfl) (by kernel_rfl) (by kernel_rfl)
      (OpenSpec.preRow_of_cond 8 hx (by kernel_rfl) (fun k hk => by cases hk) (by kernel_rfl) (laid_met os #[.int .i64 0, .int .i64 0]))) ?_
  intro W base args ds p hval hA hsz hL
  have hval' : ∀ (j : Nat) t v, Tryd.f5.params[j]? = some t → args[j]? = some v → Value.okWide Tryd.prog W .any base t v := hval
  rw [Tryd.params5] at hval' hA hsz
  obtain ⟨v0, vs0, d0, ds0, p0, q0, hargs, rfl, rfl, h0, r0⟩ := trodAll_cons hA
  obtain ⟨v1, vs1, d1, ds1, p1, q1, rfl, rfl, rfl, h1, r1⟩ := trodAll_cons r0
  obtain ⟨rfl, rfl, rfl⟩ := trodAll_nil r1
  obtain rfl : args = #[v0, v1] := by cases args; simp_all
  obtain ⟨a0, rfl, rfl, rfl, w0⟩ := open_int Tryd.underlying3 (hval' 0 3 v0 rfl rfl) h0
  obtain ⟨a1, rfl, rfl, rfl, w1⟩ := open_int Tryd.underlying3 (hval' 1 3 v1 rfl rfl) h1
  exact walk a0 a1 W (tab_of_laid hL)

theorem said : Rows.IdentBackSaid :=
  OpenClaim.holds_of_cond 5 Tryd.f5 rfl rfl rfl rfl rfl rfl rfl ⟨rfl, rfl, rfl, rfl, rfl⟩ rfl rfl rfl rfl rfl (by kernel_rfl) Tryd.func5 (by kernel_rfl)
    (of_decide_eq_true (by kernel_rfl)) (by unfold Func.isWrapper; first | (rw [if_pos (by decide +kernel)]; kernel_rfl) | (rw [if_neg (by decide +kernel)]; exact ⟨rfl, rfl⟩))
    (fun os started H enc _ F => by rw [OpenClaim.pre_eq_preRow]; exact lifted os started H enc F)

theorem plain (f : FuncId) (fn : Func) (hf : Tryd.pinned.checked.prog.funcNamed Rows.identBackRow.func = some f) (hfn : Tryd.pinned.checked.prog.funcs[f]? = some fn) :
    false = Tryd.pinned.checked.prog.looks [] ∧ ∀ (j : Nat) t, fn.params[j]? = some t → Tryd.pinned.checked.prog.wantsStandIn t = false := by
  obtain rfl : f = 5 := Option.some.inj ((show Tryd.prog.funcNamed Rows.identBackRow.func = some 5 by kernel_rfl).symm.trans hf) |>.symm
  obtain rfl : fn = Tryd.f5 := (Option.some.inj (Tryd.func5.symm.trans hfn)).symm
  refine ⟨by kernel_rfl, fun j t ht => ?_⟩
  have hall : Tryd.f5.params.toList.all (fun t => Tryd.prog.wantsStandIn t == false) = true := by kernel_rfl
  have hm := List.all_eq_true.1 hall t (by rw [Array.mem_toList_iff]; exact Array.mem_of_getElem? ht)
  have hm' : Tryd.prog.wantsStandIn t = false := by simpa using hm
  exact hm'

theorem proved : Rows.IdentBackCardSaid :=
  Claim7.holds_tied_plain_at .later [] _ _ _ _ said (fun _ h => by cases h) (by kernel_rfl) (fun _ h => by cases h) identBack_row_tie rfl ⟨rfl, rfl⟩ (by kernel_rfl) rfl plain (by kernel_rfl)
end Go.Proofs.YtbphdbhlckbecaaDoor.identBack
