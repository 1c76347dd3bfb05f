/-
  The reference's Count. No condition.
-/
import Derived.Test.YtnnclopojiegfaaWtA
namespace Go.Proofs.Ytnnclopojiegfaa
open Go.RowKit
set_option linter.unusedVariables false

/-- the number of elements at a position that may be none -/
def getC (bs : List Nat) (z : Int) : Option (Nat × Nat) := (getI bs z).bind fun y => if y.1 < 0 ∨ (bs.length : Int) - y.2 < y.1 then none else some (y.1.toNat, y.2)
def resC : Option (Nat × Nat) → Ending
  | some y => .returned (.tuple #[.int .i64 (y.1 : Int), .int .i64 (y.2 : Int), .int .i64 0])
  | none => .returned (.tuple #[.int .i64 0, .int .i64 0, .int .i64 13])
theorem getC_ok {bs : List Nat} {n p : Nat} (hl : bs.length = n) (h : p ≤ n) : getC bs (p : Int) = countP bs p := by
  unfold getC countP; rw [getI_ok hl h]

set_option maxRecDepth 100000 in
set_option maxHeartbeats 1000000 in
theorem refCount_any (A : Option Addr) (n c : Nat) (z : Int) (bs : List Nat) (w : World) (hn : n ≤ 1000000000) (B : Nat) (hr : Reads w B 1 A n (bs.map byt)) (hbs : ∀ x ∈ bs, x < 256) :
    Calls Try.prog 41 #[.slice A n c, .int .i64 z] w fun e w' => e = resC (getC bs z) ∧ w = w' := by
  have hl : bs.length = n := by have := hr.1; simpa using this
  have H1 := Lib.hid (refGetInt_any A n c z bs w hn B hr hbs)
  unfold getC
  rw [hl]
  have hgb := fun x q => getI_bound (bs := bs) (z := z) (x := x) (q := q)
  generalize getI bs z = o at H1 hgb ⊢
  rcases o with _ | ⟨x, q⟩
  · simp only [resI] at H1
    have HE : Hid (resC ((none : Option (Int × Nat)).bind fun y => if y.1 < 0 ∨ (n : Int) - y.2 < y.1 then none else some (y.1.toNat, y.2)) = .returned (.tuple #[.int .i64 0, .int .i64 0, .int .i64 13])) := rfl
    clear hr hbs hl hgb
    go_enter Try.func41, Try.ntmps41
    go_wp2_with fail
    refine (H1.out).mono ?_
    rintro e w1 ⟨rfl, rfl⟩
    go_wp2_with fail
    go_ret3
    exact ⟨HE.out.symm, rfl⟩
  · simp only [resI] at H1
    obtain ⟨hx1, hx2⟩ := hgb x q rfl
    rw [hl] at hx2
    clear hgb hr hbs
    by_cases hx : x < 0 ∨ (n : Int) - q < x
    · have HE : Hid (resC ((some (x, q)).bind fun y => if y.1 < 0 ∨ (n : Int) - y.2 < y.1 then none else some (y.1.toNat, y.2)) = .returned (.tuple #[.int .i64 0, .int .i64 0, .int .i64 13])) := by
        unfold Hid
        rw [Option.bind_some, if_pos hx]
        rfl
      clear hl
      go_enter Try.func41, Try.ntmps41
      go_wp2_with fail
      refine (H1.out).mono ?_
      rintro e w1 ⟨rfl, rfl⟩
      by_cases h0 : x < 0
      · have d1 : decide (x < 0) = true := decide_eq_true h0
        go_wp2_with fail
        go_ret3
        exact ⟨HE.out.symm, rfl⟩
      · have d1 : decide (x < 0) = false := decide_eq_false h0
        have d2 : decide ((n : Int) - (q : Int) < x) = true := decide_eq_true (by omega)
        go_wp2_with fail
        go_ret3
        exact ⟨HE.out.symm, rfl⟩
    · have HE : Hid (resC ((some (x, q)).bind fun y => if y.1 < 0 ∨ (n : Int) - y.2 < y.1 then none else some (y.1.toNat, y.2)) = .returned (.tuple #[.int .i64 x, .int .i64 (q : Int), .int .i64 0])) := by
        unfold Hid
        rw [Option.bind_some, if_neg hx]
        show Ending.returned (.tuple #[.int .i64 (x.toNat : Int), .int .i64 (q : Int), .int .i64 0]) = _
        rw [Int.toNat_of_nonneg (by omega)]
      have d1 : decide (x < 0) = false := decide_eq_false (by omega)
      have d2 : decide ((n : Int) - (q : Int) < x) = false := decide_eq_false (by omega)
      clear hl
      go_enter Try.func41, Try.ntmps41
      go_wp2_with fail
      refine (H1.out).mono ?_
      rintro e w1 ⟨rfl, rfl⟩
      go_wp2_with fail
      go_ret3
      exact ⟨HE.out.symm, rfl⟩
end Go.Proofs.Ytnnclopojiegfaa
