/-
  IdentSteps: for every input the law returns true, and its arguments are as they were. No condition beside the given statement's own.
-/
import Derived.Test.YtbphdbhlckbecaaDoorIdLaws
namespace Go.Proofs.YtbphdbhlckbecaaDoor.identSteps
open Go.ChangeShapes Go.WideShapes Go.ChangeAt Go.RowKit
open Go.ChangeMaps (open_string shut_string)
set_option linter.unusedVariables false

theorem nb {x k : Int} (h : basedB x = true) (hk : 0 ≤ k) : ¬ (basedB x = false ∨ k < 0) := by
  rintro (h' | h')
  · rw [h] at h'; cases h'
  · omega
theorem steps_law {id n m : Int} (g1 : 0 ≤ n) (g2 : 0 ≤ m) (g3 : n ≤ 1048575) (g4 : m ≤ 1048575) (he : (nextI id n).2 = 0) :
    nextI (nextI id n).1 m = nextI id (n + m) ∧ True ∧ ((nextI id (n + m)).2 = 0 → serialI (nextI id (n + m)).1 = serialI (nextI id n).1 + m) := by
  unfold nextI at he
  by_cases c1 : basedB id = false ∨ n < 0
  · rw [if_pos c1] at he; cases he
  rw [if_neg c1] at he
  by_cases c2 : 1048575 - id % 1048576 < n
  · rw [if_pos c2] at he; cases he
  rw [if_neg c2] at he
  by_cases c3 : id % 1048576 + n = 0
  · rw [if_pos c3] at he; cases he
  have hb : basedB id = true := by
    cases h : basedB id
    · exact absurd (.inl h) c1
    · rfl
  obtain ⟨b1, b2⟩ := based_iff.1 hb
  have e1 : nextI id n = (id + n, 0) := by unfold nextI; rw [if_neg c1, if_neg c2, if_neg c3]
  rw [e1]
  have hb' : basedB (id + n) = true := based_iff.2 (by omega)
  have hm : (id + n) % 1048576 = id % 1048576 + n := by omega
  by_cases c4 : 1048575 - id % 1048576 < n + m
  · have e2 : nextI id (n + m) = (0, 17) := by unfold nextI; rw [if_neg (nb hb (by omega)), if_pos c4]
    have e3 : nextI (id + n) m = (0, 17) := by unfold nextI; rw [if_neg (nb hb' (by omega)), if_pos (by rw [hm]; omega)]
    rw [e2, e3]
    exact ⟨rfl, trivial, fun h => by cases h⟩
  · have e2 : nextI id (n + m) = (id + (n + m), 0) := by unfold nextI; rw [if_neg (nb hb (by omega)), if_neg c4, if_neg (by omega)]
    have e3 : nextI (id + n) m = (id + n + m, 0) := by unfold nextI; rw [if_neg (nb hb' (by omega)), if_neg (by rw [hm]; omega), if_neg (by rw [hm]; omega)]
    rw [e2, e3]
    refine ⟨by rw [Int.add_assoc], trivial, fun _ => ?_⟩
    unfold serialI
    rw [if_pos (valid_iff.2 (by omega)), if_pos (valid_iff.2 (by omega))]
    show (id + (n + m)) % 1048576 = (id + n) % 1048576 + m
    omega

set_option maxRecDepth 100000 in
set_option maxHeartbeats 1000000 in
theorem walk (id n m : Int) (w : World) (ht : Tab w) :
    Calls Tryd.prog 8 #[.int .i64 id, .int .i64 n, .int .i64 m] w fun e w' => e = .returned (.bool true) ∧ Below w.heap.size w w' := by
  have HA := fun W hw => Lib.hid (awake_any W hw)
  have HT := Lib.hid ht
  clear ht
  by_cases hg : 0 ≤ n ∧ 0 ≤ m ∧ n ≤ 1048575 ∧ m ≤ 1048575
  case neg =>
    have hcase : n < 0 ∨ (0 ≤ n ∧ m < 0) ∨ (0 ≤ n ∧ 0 ≤ m ∧ 1048575 < n) ∨ (0 ≤ n ∧ 0 ≤ m ∧ n ≤ 1048575 ∧ 1048575 < m) := by omega
    clear hg
    rcases hcase with h | h | h | h
    all_goals
      go_enter Tryd.func8, Tryd.ntmps8
      go_wp2_with fail
      refine ((HA _ HT.out).out).mono ?_
      rintro e y1 ⟨rfl, hb1⟩
      have HB1 := Lib.hid hb1
      clear hb1
      go_wp2_with fail
      all_goals go_ret
      all_goals exact ⟨rfl, HB1.out⟩
  obtain ⟨g1, g2, g3, g4⟩ := hg
  have H1 := Lib.hid (next_any id n w (by omega) (by omega))
  have H2 := Lib.hid (next_any (nextI id n).1 m w (by omega) (by omega))
  have H3 := Lib.hid (next_any id (n + m) w (by omega) (by omega))
  have H4 := fun x W => Lib.hid (serial_any x W)
  by_cases he : (nextI id n).2 = 0
  · obtain ⟨k1, k2, k3⟩ := steps_law g1 g2 g3 g4 he
    rw [he] at H1
    rw [k1] at H2
    have H5 := H4 (nextI id (n + m)).1
    have H6 := H4 (nextI id n).1
    clear H4
    by_cases hf : (nextI id (n + m)).2 = 0
    · have k4 := k3 hf
      rw [hf] at H2 H3
      rw [k4] at H5
      generalize (nextI id (n + m)).1 = x1 at H2 H3 H5
      generalize (nextI id n).1 = x2 at H1 H2 H5 H6
      have hbnd : -1048576 ≤ serialI x2 ∧ serialI x2 ≤ 1048576 := by
        unfold serialI
        split <;> omega
      generalize serialI x2 = x3 at H5 H6 hbnd
      obtain ⟨q1, q2⟩ := hbnd
      clear he hf k1 k2 k3 k4
      go_enter Tryd.func8, Tryd.ntmps8
      go_wp2_with fail
      refine (H1.out).mono ?_
      rintro e w' ⟨rfl, rfl⟩
      go_wp2_with fail
      refine (H2.out).mono ?_
      rintro e w' ⟨rfl, rfl⟩
      go_wp2_with fail
      refine (H3.out).mono ?_
      rintro e w' ⟨rfl, rfl⟩
      go_wp2_with fail
      refine ((HA _ HT.out).out).mono ?_
      rintro e y1 ⟨rfl, hb1⟩
      have HB1 := Lib.hid hb1
      clear hb1
      go_wp2_with fail
      refine ((H5 _).out).mono ?_
      rintro e w' ⟨rfl, rfl⟩
      go_wp2_with fail
      refine ((H6 _).out).mono ?_
      rintro e w' ⟨rfl, rfl⟩
      go_wp2_with fail
      go_ret
      exact ⟨rfl, HB1.out⟩
    · have hf' : ((nextI id (n + m)).2 != 0) = true := by rw [bne_iff_ne]; exact hf
      generalize (nextI id (n + m)).1 = x1 at H2 H3 H5
      generalize (nextI id (n + m)).2 = x4 at H2 H3 hf'
      generalize (nextI id n).1 = x2 at H1 H2 H6
      clear he hf k1 k2 k3
      go_enter Tryd.func8, Tryd.ntmps8
      go_wp2_with fail
      refine (H1.out).mono ?_
      rintro e w' ⟨rfl, rfl⟩
      go_wp2_with fail
      refine (H2.out).mono ?_
      rintro e w' ⟨rfl, rfl⟩
      go_wp2_with fail
      refine (H3.out).mono ?_
      rintro e w' ⟨rfl, rfl⟩
      go_wp2_with fail
      refine ((HA _ HT.out).out).mono ?_
      rintro e y1 ⟨rfl, hb1⟩
      have HB1 := Lib.hid hb1
      clear hb1
      go_wp2_with fail
      go_ret
      exact ⟨rfl, HB1.out⟩
  · have he' : ((nextI id n).2 != 0) = true := by rw [bne_iff_ne]; exact he
    generalize nextI id (n + m) = x3 at H3
    generalize nextI (nextI id n).1 m = x2 at H2
    generalize (nextI id n).2 = x4 at H1 he'
    generalize (nextI id n).1 = x5 at H1 H2
    clear he
    go_enter Tryd.func8, Tryd.ntmps8
    go_wp2_with fail
    refine (H1.out).mono ?_
    rintro e w' ⟨rfl, rfl⟩
    go_wp2_with fail
    refine (H2.out).mono ?_
    rintro e w' ⟨rfl, rfl⟩
    go_wp2_with fail
    refine (H3.out).mono ?_
    rintro e w' ⟨rfl, rfl⟩
    go_wp2_with fail
    refine ((HA _ HT.out).out).mono ?_
    rintro e y1 ⟨rfl, hb1⟩
    have HB1 := Lib.hid hb1
    clear hb1
    go_wp2_with fail
    go_ret
    exact ⟨rfl, HB1.out⟩

theorem own : ownKnob Tryd.prog.godebug = none := by kernel_rfl
theorem laidOut : laidOutB Tryd.prog = true := by kernel_rfl
theorem specN (H : Type) (ds : List (DataW H)) (h : ds.length = 3) : Rows.identStepsSpec.fn H (ds ++ []) = { results := [.lit (.bool true)], args := ds } := by
  match ds, h with
  | [_, _, _], _ => rfl
theorem reads (os : Os) {H : Type} (enc : TypeId × Value → H) : ∃ places, DataW.whole enc Tryd.prog ((laidWorld os).forCall (fun _ _ => 0) ⟨#[], #[.int .i64 0, .int .i64 0, .int .i64 0], []⟩).memory Tryd.f8.params.toList Rows.identStepsSpec.vars false (#[.int .i64 0, .int .i64 0, .int .i64 0] : Array Value).toList 8 = some ([.lit (.int .i64 0), .lit (.int .i64 0), .lit (.int .i64 0)], [], places) :=
  ⟨[], by kernel_rfl⟩

set_option maxRecDepth 100000 in
theorem lifted (os : Os) (started : os.Started) (H : Type) (enc : TypeId × Value → H) (F : Stop.Interp) :
    ReturnsInHanded {} Tryd.checked os 8 .any ((OpenSpec.ofChange Rows.identStepsSpec).preRow enc Tryd.prog Tryd.f8 Rows.identStepsRow.domain false Rows.identStepsRow.laid) (((OpenSpec.ofChange Rows.identStepsSpec).at F).post enc Tryd.prog Tryd.f8 false true false false) := by
  obtain ⟨places, hx⟩ := reads os enc
  refine law_of_walk_laid (C := Tryd.checked) own started (by kernel_rfl) Tryd.func8 rfl rfl Tryd.underlying4 laidOut (by kernel_rfl) (fun ds h => specN H ds (h.trans (by kernel_rfl)))
    (witness_row_at (enc := enc) (C := Tryd.checked) false (laidWorld os) #[.int .i64 0, .int .i64 0, .int .i64 0] rfl (by kernel_rfl) (by kernel_rfl) (by kernel_rfl)
      (OpenSpec.preRow_of_cond 8 hx (by kernel_rfl) (fun k hk => by cases hk) (by kernel_rfl) (laid_met os #[.int .i64 0, .int .i64 0, .int .i64 0]))) ?_
  intro W base args ds p hval hA hsz hL
  have hval' : ∀ (j : Nat) t v, Tryd.f8.params[j]? = some t → args[j]? = some v → Value.okWide Tryd.prog W .any base t v := hval
  rw [Tryd.params8] at hval' hA hsz
  obtain ⟨v0, vs0, d0, ds0, p0, q0, hargs, rfl, rfl, h0, r0⟩ := trodAll_cons hA
  obtain ⟨v1, vs1, d1, ds1, p1, q1, rfl, rfl, rfl, h1, r1⟩ := trodAll_cons r0
  obtain ⟨v2, vs2, d2, ds2, p2, q2, rfl, rfl, rfl, h2, r2⟩ := trodAll_cons r1
  obtain ⟨rfl, rfl, rfl⟩ := trodAll_nil r2
  obtain rfl : args = #[v0, v1, v2] := by cases args; simp_all
  obtain ⟨a0, rfl, rfl, rfl, w0⟩ := open_int Tryd.underlying3 (hval' 0 3 v0 rfl rfl) h0
  obtain ⟨a1, rfl, rfl, rfl, w1⟩ := open_int Tryd.underlying3 (hval' 1 3 v1 rfl rfl) h1
  obtain ⟨a2, rfl, rfl, rfl, w2⟩ := open_int Tryd.underlying3 (hval' 2 3 v2 rfl rfl) h2
  exact walk a0 a1 a2 W (tab_of_laid hL)

theorem said : Rows.IdentStepsSaid :=
  OpenClaim.holds_of_cond 8 Tryd.f8 rfl rfl rfl rfl rfl rfl rfl ⟨rfl, rfl, rfl, rfl, rfl⟩ rfl rfl rfl rfl rfl (by kernel_rfl) Tryd.func8 (by kernel_rfl)
    (of_decide_eq_true (by kernel_rfl)) (by unfold Func.isWrapper; first | (rw [if_pos (by decide +kernel)]; kernel_rfl) | (rw [if_neg (by decide +kernel)]; exact ⟨rfl, rfl⟩))
    (fun os started H enc _ F => by rw [OpenClaim.pre_eq_preRow]; exact lifted os started H enc F)

theorem plain (f : FuncId) (fn : Func) (hf : Tryd.pinned.checked.prog.funcNamed Rows.identStepsRow.func = some f) (hfn : Tryd.pinned.checked.prog.funcs[f]? = some fn) :
    false = Tryd.pinned.checked.prog.looks [] ∧ ∀ (j : Nat) t, fn.params[j]? = some t → Tryd.pinned.checked.prog.wantsStandIn t = false := by
  obtain rfl : f = 8 := Option.some.inj ((show Tryd.prog.funcNamed Rows.identStepsRow.func = some 8 by kernel_rfl).symm.trans hf) |>.symm
  obtain rfl : fn = Tryd.f8 := (Option.some.inj (Tryd.func8.symm.trans hfn)).symm
  refine ⟨by kernel_rfl, fun j t ht => ?_⟩
  have hall : Tryd.f8.params.toList.all (fun t => Tryd.prog.wantsStandIn t == false) = true := by kernel_rfl
  have hm := List.all_eq_true.1 hall t (by rw [Array.mem_toList_iff]; exact Array.mem_of_getElem? ht)
  have hm' : Tryd.prog.wantsStandIn t = false := by simpa using hm
  exact hm'

theorem proved : Rows.IdentStepsCardSaid :=
  Claim7.holds_tied_plain_at .later [] _ _ _ _ said (fun _ h => by cases h) (by kernel_rfl) (fun _ h => by cases h) identSteps_row_tie rfl ⟨rfl, rfl⟩ (by kernel_rfl) rfl plain (by kernel_rfl)
end Go.Proofs.YtbphdbhlckbecaaDoor.identSteps
