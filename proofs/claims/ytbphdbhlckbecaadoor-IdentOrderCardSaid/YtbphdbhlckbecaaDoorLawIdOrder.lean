/-
  IdentOrder: for every input the law returns true, and its arguments are as they were. No condition beside the given statement's own.
-/
import Derived.Test.YtbphdbhlckbecaaDoorIdLaws
namespace Go.Proofs.YtbphdbhlckbecaaDoor.identOrder
open Go.ChangeShapes Go.WideShapes Go.ChangeAt Go.RowKit
open Go.ChangeMaps (open_string shut_string)
set_option linter.unusedVariables false

set_option maxRecDepth 100000 in
set_option maxHeartbeats 1000000 in
theorem walk (a b : Int) (w : World) (ht : Tab w) :
    Calls Tryd.prog 6 #[.int .i64 a, .int .i64 b] w fun e w' => e = .returned (.bool true) ∧ Below w.heap.size w w' := by
  have HA := fun W hw => Lib.hid (awake_any W hw)
  have H1 := Lib.hid (valid_any a w)
  have H2 := Lib.hid (valid_any b w)
  have H3 := Lib.hid (site_any a w)
  have H4 := Lib.hid (site_any b w)
  have H5 := Lib.hid (serial_any a w)
  have H6 := Lib.hid (serial_any b w)
  have HT := Lib.hid ht
  clear ht
  by_cases ha : validB a = true
  case neg =>
    have ha' : validB a = false := by simpa using ha
    rw [ha'] at H1
    clear ha ha'
    go_enter Tryd.func6, Tryd.ntmps6
    go_wp2_with fail
    refine (H1.out).mono ?_
    rintro e w' ⟨rfl, rfl⟩
    go_wp2_with fail
    refine ((HA _ HT.out).out).mono ?_
    rintro e y1 ⟨rfl, hb1⟩
    have HB1 := Lib.hid hb1
    clear hb1
    go_wp2_with fail
    go_ret
    exact ⟨rfl, HB1.out⟩
  by_cases hb : validB b = true
  case neg =>
    have hb' : validB b = false := by simpa using hb
    rw [ha] at H1
    rw [hb'] at H2
    clear ha hb hb'
    go_enter Tryd.func6, Tryd.ntmps6
    go_wp2_with fail
    refine (H1.out).mono ?_
    rintro e w' ⟨rfl, rfl⟩
    go_wp2_with fail
    refine (H2.out).mono ?_
    rintro e w' ⟨rfl, rfl⟩
    go_wp2_with fail
    refine ((HA _ HT.out).out).mono ?_
    rintro e y1 ⟨rfl, hb1⟩
    have HB1 := Lib.hid hb1
    clear hb1
    go_wp2_with fail
    go_ret
    exact ⟨rfl, HB1.out⟩
  obtain ⟨a1, a2, a3⟩ := valid_iff.1 ha
  obtain ⟨b1, b2, b3⟩ := valid_iff.1 hb
  have ea : siteI a = a / 1048576 := by unfold siteI; rw [if_pos ha]
  have eb : siteI b = b / 1048576 := by unfold siteI; rw [if_pos hb]
  have fa : serialI a = a % 1048576 := by unfold serialI; rw [if_pos ha]
  have fb : serialI b = b % 1048576 := by unfold serialI; rw [if_pos hb]
  rw [ha] at H1
  rw [hb] at H2
  rw [ea] at H3
  rw [eb] at H4
  rw [fa] at H5
  rw [fb] at H6
  clear ea eb fa fb ha hb a3 b3
  by_cases h1 : a / 1048576 < b / 1048576
  · have hl : a < b := by omega
    have t1 : decide (a / 1048576 < b / 1048576) = true := by simpa using h1
    have t2 : decide (a < b) = true := by simpa using hl
    go_enter Tryd.func6, Tryd.ntmps6
    go_wp2_with fail
    refine (H1.out).mono ?_
    rintro e w' ⟨rfl, rfl⟩
    go_wp2_with fail
    refine (H2.out).mono ?_
    rintro e w' ⟨rfl, rfl⟩
    go_wp2_with fail
    refine (H3.out).mono ?_
    rintro e w' ⟨rfl, rfl⟩
    go_wp2_with fail
    refine (H4.out).mono ?_
    rintro e w' ⟨rfl, rfl⟩
    go_wp2_with fail
    refine ((HA _ HT.out).out).mono ?_
    rintro e y1 ⟨rfl, hb1⟩
    have HB1 := Lib.hid hb1
    clear hb1
    go_wp2_with fail
    go_ret
    exact ⟨rfl, HB1.out⟩
  · by_cases h2 : a / 1048576 = b / 1048576
    · have h2' : (a / 1048576 == b / 1048576) = true := by rw [beq_iff_eq]; exact h2
      have hl : (a < b) ↔ (a % 1048576 < b % 1048576) := by omega
      have hd : decide (a < b) = decide (a % 1048576 < b % 1048576) := by rw [Bool.eq_iff_iff, decide_eq_true_eq, decide_eq_true_eq]; exact hl
      have HD := Lib.hid hd
      clear h2 hl hd
      by_cases h3 : a % 1048576 < b % 1048576
      · have hl : a < b := by have := HD.out; rw [Bool.eq_iff_iff, decide_eq_true_eq, decide_eq_true_eq] at this; exact this.2 h3
        have t1 : decide (a / 1048576 < b / 1048576) = false := by simpa using h1
        have t2 : decide (a < b) = true := by simpa using hl
        have t3 : decide (a % 1048576 < b % 1048576) = true := by simpa using h3
        go_enter Tryd.func6, Tryd.ntmps6
        go_wp2_with fail
        refine (H1.out).mono ?_
        rintro e w' ⟨rfl, rfl⟩
        go_wp2_with fail
        refine (H2.out).mono ?_
        rintro e w' ⟨rfl, rfl⟩
        go_wp2_with fail
        refine (H3.out).mono ?_
        rintro e w' ⟨rfl, rfl⟩
        go_wp2_with fail
        refine (H4.out).mono ?_
        rintro e w' ⟨rfl, rfl⟩
        go_wp2_with fail
        refine (H3.out).mono ?_
        rintro e w' ⟨rfl, rfl⟩
        go_wp2_with fail
        refine (H4.out).mono ?_
        rintro e w' ⟨rfl, rfl⟩
        go_wp2_with fail
        refine (H5.out).mono ?_
        rintro e w' ⟨rfl, rfl⟩
        go_wp2_with fail
        refine (H6.out).mono ?_
        rintro e w' ⟨rfl, rfl⟩
        go_wp2_with fail
        refine ((HA _ HT.out).out).mono ?_
        rintro e y1 ⟨rfl, hb1⟩
        have HB1 := Lib.hid hb1
        clear hb1
        go_wp2_with fail
        go_ret
        exact ⟨rfl, HB1.out⟩
      · have hl : ¬ a < b := by have := HD.out; rw [Bool.eq_iff_iff, decide_eq_true_eq, decide_eq_true_eq] at this; exact fun h => h3 (this.1 h)
        have t1 : decide (a / 1048576 < b / 1048576) = false := by simpa using h1
        have t2 : decide (a < b) = false := by simpa using hl
        have t3 : decide (a % 1048576 < b % 1048576) = false := by simpa using h3
        go_enter Tryd.func6, Tryd.ntmps6
        go_wp2_with fail
        refine (H1.out).mono ?_
        rintro e w' ⟨rfl, rfl⟩
        go_wp2_with fail
        refine (H2.out).mono ?_
        rintro e w' ⟨rfl, rfl⟩
        go_wp2_with fail
        refine (H3.out).mono ?_
        rintro e w' ⟨rfl, rfl⟩
        go_wp2_with fail
        refine (H4.out).mono ?_
        rintro e w' ⟨rfl, rfl⟩
        go_wp2_with fail
        refine (H3.out).mono ?_
        rintro e w' ⟨rfl, rfl⟩
        go_wp2_with fail
        refine (H4.out).mono ?_
        rintro e w' ⟨rfl, rfl⟩
        go_wp2_with fail
        refine (H5.out).mono ?_
        rintro e w' ⟨rfl, rfl⟩
        go_wp2_with fail
        refine (H6.out).mono ?_
        rintro e w' ⟨rfl, rfl⟩
        go_wp2_with fail
        refine ((HA _ HT.out).out).mono ?_
        rintro e y1 ⟨rfl, hb1⟩
        have HB1 := Lib.hid hb1
        clear hb1
        go_wp2_with fail
        go_ret
        exact ⟨rfl, HB1.out⟩
    · have h2' : (a / 1048576 == b / 1048576) = false := by rw [beq_eq_false_iff_ne]; exact h2
      have hl : ¬ a < b := by omega
      have t1 : decide (a / 1048576 < b / 1048576) = false := by simpa using h1
      have t2 : decide (a < b) = false := by simpa using hl
      clear h2
      go_enter Tryd.func6, Tryd.ntmps6
      go_wp2_with fail
      refine (H1.out).mono ?_
      rintro e w' ⟨rfl, rfl⟩
      go_wp2_with fail
      refine (H2.out).mono ?_
      rintro e w' ⟨rfl, rfl⟩
      go_wp2_with fail
      refine (H3.out).mono ?_
      rintro e w' ⟨rfl, rfl⟩
      go_wp2_with fail
      refine (H4.out).mono ?_
      rintro e w' ⟨rfl, rfl⟩
      go_wp2_with fail
      refine (H3.out).mono ?_
      rintro e w' ⟨rfl, rfl⟩
      go_wp2_with fail
      refine (H4.out).mono ?_
      rintro e w' ⟨rfl, rfl⟩
      go_wp2_with fail
      refine ((HA _ HT.out).out).mono ?_
      rintro e y1 ⟨rfl, hb1⟩
      have HB1 := Lib.hid hb1
      clear hb1
      go_wp2_with fail
      go_ret
      exact ⟨rfl, HB1.out⟩

theorem own : ownKnob Tryd.prog.godebug = none := by kernel_rfl
theorem laidOut : laidOutB Tryd.prog = true := by kernel_rfl
theorem specN (H : Type) (ds : List (DataW H)) (h : ds.length = 2) : Rows.identOrderSpec.fn H (ds ++ []) = { results := [.lit (.bool true)], args := ds } := by
  match ds, h with
  | [_, _], _ => rfl
theorem reads (os : Os) {H : Type} (enc : TypeId × Value → H) : ∃ places, DataW.whole enc Tryd.prog ((laidWorld os).forCall (fun _ _ => 0) ⟨#[], #[.int .i64 0, .int .i64 0], []⟩).memory Tryd.f6.params.toList Rows.identOrderSpec.vars false (#[.int .i64 0, .int .i64 0] : Array Value).toList 8 = some ([.lit (.int .i64 0), .lit (.int .i64 0)], [], places) :=
  ⟨[], by kernel_rfl⟩

set_option maxRecDepth 100000 in
theorem lifted (os : Os) (started : os.Started) (H : Type) (enc : TypeId × Value → H) (F : Stop.Interp) :
    ReturnsInHanded {} Tryd.checked os 6 .any ((OpenSpec.ofChange Rows.identOrderSpec).preRow enc Tryd.prog Tryd.f6 Rows.identOrderRow.domain false Rows.identOrderRow.laid) (((OpenSpec.ofChange Rows.identOrderSpec).at F).post enc Tryd.prog Tryd.f6 false true false false) := by
  obtain ⟨places, hx⟩ := reads os enc
  refine law_of_walk_laid (C := Tryd.checked) own started (by kernel_rfl) Tryd.func6 rfl rfl Tryd.underlying4 laidOut (by kernel_rfl) (fun ds h => specN H ds (h.trans (by kernel_rfl)))
    (witness_row_at (enc := enc) (C := Tryd.checked) false (laidWorld os) #[.int .i64 0, .int .i64 0] rfl (by kernel_rfl) (by kernel_rfl) (by kernel_rfl)
      (OpenSpec.preRow_of_cond 8 hx (by kernel_rfl) (fun k hk => by cases hk) (by kernel_rfl) (laid_met os #[.int .i64 0, .int .i64 0]))) ?_
  intro W base args ds p hval hA hsz hL
  have hval' : ∀ (j : Nat) t v, Tryd.f6.params[j]? = some t → args[j]? = some v → Value.okWide Tryd.prog W .any base t v := hval
  rw [Tryd.params6] at hval' hA hsz
  obtain ⟨v0, vs0, d0, ds0, p0, q0, hargs, rfl, rfl, h0, r0⟩ := trodAll_cons hA
  obtain ⟨v1, vs1, d1, ds1, p1, q1, rfl, rfl, rfl, h1, r1⟩ := trodAll_cons r0
  obtain ⟨rfl, rfl, rfl⟩ := trodAll_nil r1
  obtain rfl : args = #[v0, v1] := by cases args; simp_all
  obtain ⟨a0, rfl, rfl, rfl, w0⟩ := open_int Tryd.underlying3 (hval' 0 3 v0 rfl rfl) h0
  obtain ⟨a1, rfl, rfl, rfl, w1⟩ := open_int Tryd.underlying3 (hval' 1 3 v1 rfl rfl) h1
  exact walk a0 a1 W (tab_of_laid hL)

theorem said : Rows.IdentOrderSaid :=
  OpenClaim.holds_of_cond 6 Tryd.f6 rfl rfl rfl rfl rfl rfl rfl ⟨rfl, rfl, rfl, rfl, rfl⟩ rfl rfl rfl rfl rfl (by kernel_rfl) Tryd.func6 (by kernel_rfl)
    (of_decide_eq_true (by kernel_rfl)) (by unfold Func.isWrapper; first | (rw [if_pos (by decide +kernel)]; kernel_rfl) | (rw [if_neg (by decide +kernel)]; exact ⟨rfl, rfl⟩))
    (fun os started H enc _ F => by rw [OpenClaim.pre_eq_preRow]; exact lifted os started H enc F)

theorem plain (f : FuncId) (fn : Func) (hf : Tryd.pinned.checked.prog.funcNamed Rows.identOrderRow.func = some f) (hfn : Tryd.pinned.checked.prog.funcs[f]? = some fn) :
    false = Tryd.pinned.checked.prog.looks [] ∧ ∀ (j : Nat) t, fn.params[j]? = some t → Tryd.pinned.checked.prog.wantsStandIn t = false := by
  obtain rfl : f = 6 := Option.some.inj ((show Tryd.prog.funcNamed Rows.identOrderRow.func = some 6 by kernel_rfl).symm.trans hf) |>.symm
  obtain rfl : fn = Tryd.f6 := (Option.some.inj (Tryd.func6.symm.trans hfn)).symm
  refine ⟨by kernel_rfl, fun j t ht => ?_⟩
  have hall : Tryd.f6.params.toList.all (fun t => Tryd.prog.wantsStandIn t == false) = true := by kernel_rfl
  have hm := List.all_eq_true.1 hall t (by rw [Array.mem_toList_iff]; exact Array.mem_of_getElem? ht)
  have hm' : Tryd.prog.wantsStandIn t = false := by simpa using hm
  exact hm'

theorem proved : Rows.IdentOrderCardSaid :=
  Claim7.holds_tied_plain_at .later [] _ _ _ _ said (fun _ h => by cases h) (by kernel_rfl) (fun _ h => by cases h) identOrder_row_tie rfl ⟨rfl, rfl⟩ (by kernel_rfl) rfl plain (by kernel_rfl)
end Go.Proofs.YtbphdbhlckbecaaDoor.identOrder
