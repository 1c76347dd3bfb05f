/-
  What the functions on ids compute: the program's and the reference's. No condition.
-/
import Derived.Test.YtbphdbhlckbecaaDoorRows
import Derived.WalkKit
import Derived.WalkSpells
import Derived.WalkLawsBesides
import Derived.Outline
import Derived.Lib.Hide
import Derived.Laws.BitsAllLaws
import Derived.Laws.BitsLemmas
namespace Go.Proofs.YtbphdbhlckbecaaDoor
open Go.RowKit
set_option linter.unusedVariables false

theorem ofInt_i64 (a : Nat) (ha : a < 9223372036854775808) : (BitVec.ofInt 64 (a : Int)).toNat = a := by
  rw [BitVec.ofInt_natCast, BitVec.toNat_ofNat]; exact Nat.mod_eq_of_lt (by omega)
theorem i64_and_nat (a b : Nat) (ha : a < 9223372036854775808) (hb : b < 9223372036854775808) : bits .and .i64 (a : Int) (b : Int) = ((a &&& b : Nat) : Int) := by
  have hx : a &&& b < 2 ^ 63 := Nat.and_lt_two_pow _ (by omega)
  show IntKind.i64.wrap ((BitVec.ofInt 64 (a : Int) &&& BitVec.ofInt 64 (b : Int)).toNat : Int) = _
  rw [BitVec.toNat_and, ofInt_i64 a ha, ofInt_i64 b hb, IntKind.wrap_i64]
  omega
theorem i64_or_nat (a b : Nat) (ha : a < 9223372036854775808) (hb : b < 9223372036854775808) : bits .or .i64 (a : Int) (b : Int) = ((a ||| b : Nat) : Int) := by
  have hx : a ||| b < 2 ^ 63 := Nat.or_lt_two_pow (by omega) (by omega)
  show IntKind.i64.wrap ((BitVec.ofInt 64 (a : Int) ||| BitVec.ofInt 64 (b : Int)).toNat : Int) = _
  rw [BitVec.toNat_or, ofInt_i64 a ha, ofInt_i64 b hb, IntKind.wrap_i64]
  omega
theorem and_mask (id : Int) (h : 0 ≤ id) (h' : id < 9223372036854775808) : bits .and .i64 id 1048575 = id % 1048576 := by
  obtain ⟨n, rfl⟩ := Int.eq_ofNat_of_zero_le h
  rw [show (1048575 : Int) = ((1048575 : Nat) : Int) from rfl, i64_and_nat n 1048575 (by omega) (by omega)]
  have := Nat.and_two_pow_sub_one_eq_mod n 20
  rw [show (1048575 : Nat) = 2 ^ 20 - 1 from rfl, this]
  omega
theorem or_make (site n : Int) (h1 : 1 ≤ site) (h2 : site ≤ 32) (h3 : 1 ≤ n) (h4 : n ≤ 1048575) : bits .or .i64 (site * 1048576) n = site * 1048576 + n := by
  obtain ⟨s, rfl⟩ := Int.eq_ofNat_of_zero_le (show 0 ≤ site by omega)
  obtain ⟨m, rfl⟩ := Int.eq_ofNat_of_zero_le (show 0 ≤ n by omega)
  rw [show ((s : Int) * 1048576) = ((s * 1048576 : Nat) : Int) from by omega, i64_or_nat _ _ (by omega) (by omega), nat_join 20 (s * 1048576) m (by omega) (by omega)]
  omega

/-- a number that is an id or stands for a site without ids -/
def basedB (id : Int) : Bool := decide (1048576 ≤ id ∧ id < 34603008)
def validB (id : Int) : Bool := decide (1048576 ≤ id ∧ id < 34603008 ∧ id % 1048576 ≠ 0)
def siteI (id : Int) : Int := if validB id then id / 1048576 else 0
def serialI (id : Int) : Int := if validB id then id % 1048576 else 0
def partsB (site n : Int) : Bool := decide (1 ≤ site ∧ site ≤ 32 ∧ 1 ≤ n ∧ n ≤ 1048575)
def makeI (site n : Int) : Int := if partsB site n then site * 1048576 + n else 0
def makeE (site n : Int) : Int := if partsB site n then 0 else 5

theorem valid_iff {id : Int} : validB id = true ↔ (1048576 ≤ id ∧ id < 34603008 ∧ id % 1048576 ≠ 0) := by unfold validB; rw [decide_eq_true_eq]
theorem valid_not {id : Int} : validB id = false ↔ ¬ (1048576 ≤ id ∧ id < 34603008 ∧ id % 1048576 ≠ 0) := by unfold validB; rw [decide_eq_false_iff_not]
theorem based_iff {id : Int} : basedB id = true ↔ (1048576 ≤ id ∧ id < 34603008) := by unfold basedB; rw [decide_eq_true_eq]
theorem based_not {id : Int} : basedB id = false ↔ ¬ (1048576 ≤ id ∧ id < 34603008) := by unfold basedB; rw [decide_eq_false_iff_not]

theorem ret_b {a b : Bool} (h : a = b) : Ending.returned (.bool a) = .returned (.bool b) := by rw [h]
theorem ret_i {k : IntKind} {a b : Int} (h : a = b) : Ending.returned (.int k a) = .returned (.int k b) := by rw [h]

set_option maxRecDepth 100000 in
set_option maxHeartbeats 400000 in
theorem based_any (id : Int) (w : World) : Calls Tryd.prog 24 #[.int .i64 id] w fun e w' => e = .returned (.bool (basedB id)) ∧ w = w' := by
  go_enter Tryd.func24, Tryd.ntmps24
  go_wp2_with fail
  all_goals go_ret
  all_goals refine ⟨ret_b ?_, rfl⟩
  · unfold basedB; rw [Bool.eq_iff_iff, decide_eq_true_eq, decide_eq_true_eq]; omega
  · unfold basedB; symm; rw [decide_eq_false_iff_not]; omega

set_option maxRecDepth 100000 in
set_option maxHeartbeats 400000 in
theorem make_any (site n : Int) (w : World) : Calls Tryd.prog 9 #[.int .i64 site, .int .i64 n] w fun e w' => e = .returned (.tuple #[.int .i64 (makeI site n), .int .i64 (makeE site n)]) ∧ w = w' := by
  by_cases hp : 1 ≤ site ∧ site ≤ 32 ∧ 1 ≤ n ∧ n ≤ 1048575
  · have e1 : makeI site n = site * 1048576 + n := by unfold makeI partsB; rw [decide_eq_true hp]; rfl
    have e2 : makeE site n = 0 := by unfold makeE partsB; rw [decide_eq_true hp]; rfl
    rw [e1, e2]
    obtain ⟨p1, p2, p3, p4⟩ := hp
    have hor := or_make site n p1 p2 p3 p4
    clear e1 e2
    go_enter Tryd.func9, Tryd.ntmps9
    go_wp2_with fail
    go_ret2
    exact ⟨rfl, rfl⟩
  · have e1 : makeI site n = 0 := by unfold makeI partsB; rw [decide_eq_false hp]; rfl
    have e2 : makeE site n = 5 := by unfold makeE partsB; rw [decide_eq_false hp]; rfl
    rw [e1, e2]
    clear e1 e2
    go_enter Tryd.func9, Tryd.ntmps9
    go_wp2_with fail
    all_goals go_ret2
    all_goals exact ⟨rfl, rfl⟩

set_option maxRecDepth 100000 in
set_option maxHeartbeats 400000 in
theorem refMake_any (site n : Int) (w : World) : Calls Tryd.prog 10 #[.int .i64 site, .int .i64 n] w fun e w' => e = .returned (.tuple #[.int .i64 (makeI site n), .int .i64 (makeE site n)]) ∧ w = w' := by
  by_cases hp : 1 ≤ site ∧ site ≤ 32 ∧ 1 ≤ n ∧ n ≤ 1048575
  · have e1 : makeI site n = site * 1048576 + n := by unfold makeI partsB; rw [decide_eq_true hp]; rfl
    have e2 : makeE site n = 0 := by unfold makeE partsB; rw [decide_eq_true hp]; rfl
    rw [e1, e2]
    obtain ⟨p1, p2, p3, p4⟩ := hp
    clear e1 e2
    go_enter Tryd.func10, Tryd.ntmps10
    go_wp2_with fail
    go_ret2
    exact ⟨rfl, rfl⟩
  · have e1 : makeI site n = 0 := by unfold makeI partsB; rw [decide_eq_false hp]; rfl
    have e2 : makeE site n = 5 := by unfold makeE partsB; rw [decide_eq_false hp]; rfl
    rw [e1, e2]
    clear e1 e2
    go_enter Tryd.func10, Tryd.ntmps10
    go_wp2_with fail
    all_goals go_ret2
    all_goals exact ⟨rfl, rfl⟩

set_option maxRecDepth 100000 in
set_option maxHeartbeats 400000 in
theorem valid_any (id : Int) (w : World) : Calls Tryd.prog 12 #[.int .i64 id] w fun e w' => e = .returned (.bool (validB id)) ∧ w = w' := by
  have H := Lib.hid (based_any id w)
  by_cases hb : 1048576 ≤ id ∧ id < 34603008
  · rw [based_iff.2 hb] at H
    have hand := and_mask id (by omega) (by omega)
    have hv : (id % 1048576 != 0) = validB id := by
      rw [Bool.eq_iff_iff, valid_iff, bne_iff_ne]
      exact ⟨fun h => ⟨hb.1, hb.2, h⟩, fun h => h.2.2⟩
    clear hb
    go_enter Tryd.func12, Tryd.ntmps12
    go_wp2_with fail
    refine (H.out).mono ?_
    rintro e w1 ⟨rfl, rfl⟩
    clear H
    go_wp2_with fail
    go_ret
    exact ⟨rfl, rfl⟩
  · rw [based_not.2 hb] at H
    have hv : validB id = false := valid_not.2 (fun h => hb ⟨h.1, h.2.1⟩)
    rw [hv]
    clear hb hv
    go_enter Tryd.func12, Tryd.ntmps12
    go_wp2_with fail
    refine (H.out).mono ?_
    rintro e w1 ⟨rfl, rfl⟩
    clear H
    go_wp2_with fail
    go_ret
    exact ⟨rfl, rfl⟩

set_option maxRecDepth 100000 in
set_option maxHeartbeats 400000 in
theorem refValid_any (id : Int) (w : World) : Calls Tryd.prog 13 #[.int .i64 id] w fun e w' => e = .returned (.bool (validB id)) ∧ w = w' := by
  by_cases h1 : 1048576 < id
  · by_cases h2 : id < 34603008
    · have hv : (id % 1048576 != 0) = validB id := by
        rw [Bool.eq_iff_iff, valid_iff, bne_iff_ne]
        exact ⟨fun h => ⟨by omega, h2, h⟩, fun h => h.2.2⟩
      go_enter Tryd.func13, Tryd.ntmps13
      go_wp2_with fail
      go_ret
      exact ⟨rfl, rfl⟩
    · have hv : validB id = false := valid_not.2 (fun h => h2 h.2.1)
      rw [hv]
      clear hv
      go_enter Tryd.func13, Tryd.ntmps13
      go_wp2_with fail
      go_ret
      exact ⟨rfl, rfl⟩
  · have hv : validB id = false := valid_not.2 (fun h => by
      have : id = 1048576 := by omega
      subst this
      exact h.2.2 (by decide))
    rw [hv]
    clear hv
    go_enter Tryd.func13, Tryd.ntmps13
    go_wp2_with fail
    go_ret
    exact ⟨rfl, rfl⟩

set_option maxRecDepth 100000 in
set_option maxHeartbeats 400000 in
theorem start_any (id : Int) (w : World) : Calls Tryd.prog 28 #[.int .i64 id] w fun e w' => e = .returned (.bool (basedB id)) ∧ w = w' := by
  go_enter Tryd.func28, Tryd.ntmps28
  go_wp2_with fail
  all_goals go_ret
  all_goals refine ⟨ret_b ?_, rfl⟩
  · unfold basedB; rw [Bool.eq_iff_iff, decide_eq_true_eq, decide_eq_true_eq]; omega
  · unfold basedB; symm; rw [decide_eq_false_iff_not]; omega

set_option maxRecDepth 100000 in
set_option maxHeartbeats 400000 in
theorem site_any (id : Int) (w : World) : Calls Tryd.prog 14 #[.int .i64 id] w fun e w' => e = .returned (.int .i64 (siteI id)) ∧ w = w' := by
  have H := Lib.hid (valid_any id w)
  unfold siteI
  by_cases hv : validB id = true
  · rw [hv] at H ⊢
    obtain ⟨h1, h2, h3⟩ := valid_iff.1 hv
    have hand := and_mask id (by omega) (by omega)
    clear hv h3
    go_enter Tryd.func14, Tryd.ntmps14
    go_wp2_with fail
    refine (H.out).mono ?_
    rintro e w1 ⟨rfl, rfl⟩
    clear H
    go_wp2_with fail
    go_ret
    exact ⟨rfl, rfl⟩
  · have hv' : validB id = false := by simpa using hv
    rw [hv'] at H ⊢
    clear hv hv'
    go_enter Tryd.func14, Tryd.ntmps14
    go_wp2_with fail
    refine (H.out).mono ?_
    rintro e w1 ⟨rfl, rfl⟩
    clear H
    go_wp2_with fail
    go_ret
    exact ⟨rfl, rfl⟩

set_option maxRecDepth 100000 in
set_option maxHeartbeats 400000 in
theorem serial_any (id : Int) (w : World) : Calls Tryd.prog 16 #[.int .i64 id] w fun e w' => e = .returned (.int .i64 (serialI id)) ∧ w = w' := by
  have H := Lib.hid (valid_any id w)
  unfold serialI
  by_cases hv : validB id = true
  · rw [hv] at H ⊢
    obtain ⟨h1, h2, h3⟩ := valid_iff.1 hv
    have hand := and_mask id (by omega) (by omega)
    clear hv h3
    go_enter Tryd.func16, Tryd.ntmps16
    go_wp2_with fail
    refine (H.out).mono ?_
    rintro e w1 ⟨rfl, rfl⟩
    clear H
    go_wp2_with fail
    go_ret
    exact ⟨rfl, rfl⟩
  · have hv' : validB id = false := by simpa using hv
    rw [hv'] at H ⊢
    clear hv hv'
    go_enter Tryd.func16, Tryd.ntmps16
    go_wp2_with fail
    refine (H.out).mono ?_
    rintro e w1 ⟨rfl, rfl⟩
    clear H
    go_wp2_with fail
    go_ret
    exact ⟨rfl, rfl⟩

set_option maxRecDepth 100000 in
set_option maxHeartbeats 400000 in
theorem refSite_any (id : Int) (w : World) : Calls Tryd.prog 15 #[.int .i64 id] w fun e w' => e = .returned (.int .i64 (siteI id)) ∧ w = w' := by
  have H := Lib.hid (refValid_any id w)
  unfold siteI
  by_cases hv : validB id = true
  · rw [hv] at H ⊢
    obtain ⟨h1, h2, h3⟩ := valid_iff.1 hv
    have hand := and_mask id (by omega) (by omega)
    clear hv h3
    go_enter Tryd.func15, Tryd.ntmps15
    go_wp2_with fail
    refine (H.out).mono ?_
    rintro e w1 ⟨rfl, rfl⟩
    clear H
    go_wp2_with fail
    go_ret
    exact ⟨rfl, rfl⟩
  · have hv' : validB id = false := by simpa using hv
    rw [hv'] at H ⊢
    clear hv hv'
    go_enter Tryd.func15, Tryd.ntmps15
    go_wp2_with fail
    refine (H.out).mono ?_
    rintro e w1 ⟨rfl, rfl⟩
    clear H
    go_wp2_with fail
    go_ret
    exact ⟨rfl, rfl⟩

set_option maxRecDepth 100000 in
set_option maxHeartbeats 400000 in
theorem refSerial_any (id : Int) (w : World) : Calls Tryd.prog 17 #[.int .i64 id] w fun e w' => e = .returned (.int .i64 (serialI id)) ∧ w = w' := by
  have H := Lib.hid (refValid_any id w)
  unfold serialI
  by_cases hv : validB id = true
  · rw [hv] at H ⊢
    obtain ⟨h1, h2, h3⟩ := valid_iff.1 hv
    have hand := and_mask id (by omega) (by omega)
    clear hv h3
    go_enter Tryd.func17, Tryd.ntmps17
    go_wp2_with fail
    refine (H.out).mono ?_
    rintro e w1 ⟨rfl, rfl⟩
    clear H
    go_wp2_with fail
    go_ret
    exact ⟨rfl, rfl⟩
  · have hv' : validB id = false := by simpa using hv
    rw [hv'] at H ⊢
    clear hv hv'
    go_enter Tryd.func17, Tryd.ntmps17
    go_wp2_with fail
    refine (H.out).mono ?_
    rintro e w1 ⟨rfl, rfl⟩
    clear H
    go_wp2_with fail
    go_ret
    exact ⟨rfl, rfl⟩

/-- the id n serials later, and the error -/
def nextI (id n : Int) : Int × Int :=
  if basedB id = false ∨ n < 0 then (0, 5)
  else if 1048575 - id % 1048576 < n then (0, 17)
  else if id % 1048576 + n = 0 then (0, 5)
  else (id + n, 0)

set_option maxRecDepth 100000 in
set_option maxHeartbeats 400000 in
theorem next_any (id n : Int) (w : World) (hn : -9223372036854775808 ≤ n) (hn' : n ≤ 9223372036854775807) : Calls Tryd.prog 22 #[.int .i64 id, .int .i64 n] w fun e w' => e = .returned (.tuple #[.int .i64 (nextI id n).1, .int .i64 (nextI id n).2]) ∧ w = w' := by
  have H := Lib.hid (based_any id w)
  by_cases hb : basedB id = false ∨ n < 0
  · have e : nextI id n = (0, 5) := by unfold nextI; rw [if_pos hb]
    rw [e]
    clear e
    by_cases hb0 : basedB id = false
    · rw [hb0] at H
      clear hb hb0
      go_enter Tryd.func22, Tryd.ntmps22
      go_wp2_with fail
      refine (H.out).mono ?_
      rintro e w1 ⟨rfl, rfl⟩
      clear H
      go_wp2_with fail
      go_ret2
      exact ⟨rfl, rfl⟩
    · have hb1 : basedB id = true := by simpa using hb0
      have hn0 : n < 0 := hb.resolve_left hb0
      rw [hb1] at H
      clear hb hb0 hb1
      go_enter Tryd.func22, Tryd.ntmps22
      go_wp2_with fail
      refine (H.out).mono ?_
      rintro e w1 ⟨rfl, rfl⟩
      clear H
      go_wp2_with fail
      go_ret2
      exact ⟨rfl, rfl⟩
  · have hb1 : basedB id = true := by
      cases h : basedB id
      · exact absurd (.inl h) hb
      · rfl
    have hn0 : 0 ≤ n := by
      rcases Int.lt_or_le n 0 with h | h
      · exact absurd (.inr h) hb
      · exact h
    obtain ⟨h1, h2⟩ := based_iff.1 hb1
    have hand := and_mask id (by omega) (by omega)
    rw [hb1] at H
    by_cases hf : 1048575 - id % 1048576 < n
    · have e : nextI id n = (0, 17) := by unfold nextI; rw [if_neg hb, if_pos hf]
      rw [e]
      clear e hb hb1
      go_enter Tryd.func22, Tryd.ntmps22
      go_wp2_with fail
      refine (H.out).mono ?_
      rintro e w1 ⟨rfl, rfl⟩
      clear H
      go_wp2_with fail
      go_ret2
      exact ⟨rfl, rfl⟩
    · have e : nextI id n = (makeI (id / 1048576) (id % 1048576 + n), makeE (id / 1048576) (id % 1048576 + n)) := by
        unfold nextI; rw [if_neg hb, if_neg hf]
        by_cases h0 : id % 1048576 + n = 0
        · rw [if_pos h0]
          unfold makeI makeE partsB
          rw [decide_eq_false (by omega)]
          rfl
        · rw [if_neg h0]
          unfold makeI makeE partsB
          rw [decide_eq_true (by omega)]
          simp only [if_true]
          rw [show id / 1048576 * 1048576 + (id % 1048576 + n) = id + n from by omega]
      rw [e]
      have H2 := fun W => Lib.hid (make_any (id / 1048576) (id % 1048576 + n) W)
      generalize makeI (id / 1048576) (id % 1048576 + n) = y1 at H2 ⊢
      generalize makeE (id / 1048576) (id % 1048576 + n) = y2 at H2 ⊢
      clear e hb hb1
      go_enter Tryd.func22, Tryd.ntmps22
      go_wp2_with fail
      refine (H.out).mono ?_
      rintro e w1 ⟨rfl, rfl⟩
      clear H
      go_wp2_with fail
      refine ((H2 _).out).mono ?_
      rintro e w1 ⟨rfl, rfl⟩
      clear H2
      go_wp2_with fail
      go_ret2
      exact ⟨rfl, rfl⟩

set_option maxRecDepth 100000 in
set_option maxHeartbeats 400000 in
theorem refNext_any (id n : Int) (w : World) (hn : -9223372036854775808 ≤ n) (hn' : n ≤ 9223372036854775807) : Calls Tryd.prog 23 #[.int .i64 id, .int .i64 n] w fun e w' => e = .returned (.tuple #[.int .i64 (nextI id n).1, .int .i64 (nextI id n).2]) ∧ w = w' := by
  have H := Lib.hid (start_any id w)
  by_cases hb : basedB id = false ∨ n < 0
  · have e : nextI id n = (0, 5) := by unfold nextI; rw [if_pos hb]
    rw [e]
    clear e
    by_cases hb0 : basedB id = false
    · rw [hb0] at H
      clear hb hb0
      go_enter Tryd.func23, Tryd.ntmps23
      go_wp2_with fail
      refine (H.out).mono ?_
      rintro e w1 ⟨rfl, rfl⟩
      clear H
      go_wp2_with fail
      go_ret2
      exact ⟨rfl, rfl⟩
    · have hb1 : basedB id = true := by simpa using hb0
      have hn0 : n < 0 := hb.resolve_left hb0
      rw [hb1] at H
      clear hb hb0 hb1
      go_enter Tryd.func23, Tryd.ntmps23
      go_wp2_with fail
      refine (H.out).mono ?_
      rintro e w1 ⟨rfl, rfl⟩
      clear H
      go_wp2_with fail
      go_ret2
      exact ⟨rfl, rfl⟩
  · have hb1 : basedB id = true := by
      cases h : basedB id
      · exact absurd (.inl h) hb
      · rfl
    have hn0 : 0 ≤ n := by
      rcases Int.lt_or_le n 0 with h | h
      · exact absurd (.inr h) hb
      · exact h
    obtain ⟨h1, h2⟩ := based_iff.1 hb1
    rw [hb1] at H
    by_cases hf : 1048575 - id % 1048576 < n
    · have e : nextI id n = (0, 17) := by unfold nextI; rw [if_neg hb, if_pos hf]
      rw [e]
      clear e hb hb1
      go_enter Tryd.func23, Tryd.ntmps23
      go_wp2_with fail
      refine (H.out).mono ?_
      rintro e w1 ⟨rfl, rfl⟩
      clear H
      go_wp2_with fail
      go_ret2
      exact ⟨rfl, rfl⟩
    · by_cases h0 : id % 1048576 + n = 0
      · have e : nextI id n = (0, 5) := by unfold nextI; rw [if_neg hb, if_neg hf, if_pos h0]
        rw [e]
        have h0' : (id % 1048576 + n == 0) = true := by rw [beq_iff_eq]; exact h0
        clear e hb hb1 h0
        go_enter Tryd.func23, Tryd.ntmps23
        go_wp2_with fail
        refine (H.out).mono ?_
        rintro e w1 ⟨rfl, rfl⟩
        clear H
        go_wp2_with fail
        go_ret2
        exact ⟨rfl, rfl⟩
      · have e : nextI id n = (id + n, 0) := by unfold nextI; rw [if_neg hb, if_neg hf, if_neg h0]
        rw [e]
        have h0' : (id % 1048576 + n == 0) = false := by rw [beq_eq_false_iff_ne]; exact h0
        clear e hb hb1 h0
        go_enter Tryd.func23, Tryd.ntmps23
        go_wp2_with fail
        refine (H.out).mono ?_
        rintro e w1 ⟨rfl, rfl⟩
        clear H
        go_wp2_with fail
        go_ret2
        exact ⟨rfl, rfl⟩
end Go.Proofs.YtbphdbhlckbecaaDoor
