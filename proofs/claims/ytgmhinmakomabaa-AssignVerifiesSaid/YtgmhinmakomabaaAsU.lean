/-
  The certificates of solutions, in plain terms; a small matrix's solution. No condition.
-/
import Derived.Test.YtgmhinmakomabaaAsR
namespace Go.Proofs.Ytgmhinmakomabaa
open Go.RowKit
set_option linter.unusedVariables false

theorem verF_true {n : Nat} {c : Nat → Nat → Int} {tt : Nat → Nat} {t u v : Nat → Int} (ht : ∀ i, i < n → t i = (tt i : Int)) (hp : Perfect n tt) (hf : Feas n c u v) (hti : Tight n c u v tt) (hu : ∀ i, i < n → -1000000000 ≤ u i ∧ u i ≤ 1000000000) (hv : ∀ i, i < n → -1000000000 ≤ v i ∧ v i ≤ 1000000000) :
    verF n c t u v (costOf c tt n) = true := by
  unfold verF
  simp only [Bool.and_eq_true, decide_eq_true_eq]
  refine ⟨⟨⟨⟨?_, ?_⟩, ?_⟩, ?_⟩, ?_⟩
  · refine (allB_iff _ n).2 fun i hi => ?_
    have h1 := hu i hi
    have h2 := hv i hi
    unfold rngB
    simp
    omega
  · refine (allB_iff _ n).2 fun i hi => ?_
    have h1 := hp.1 i hi
    have h2 : tkB t (t i) i = false := by
      cases hk : tkB t (t i) i with
      | false => rfl
      | true =>
        obtain ⟨k, hk1, hk2⟩ := (tkB_iff _ _ _).1 hk
        rw [ht k (by omega), ht i hi] at hk2
        have := hp.2 k i (by omega) hi (by omega)
        omega
    rw [h2, ht i hi]
    simp
    omega
  · refine (allB_iff _ n).2 fun i hi => (allB_iff _ n).2 fun j hj => ?_
    have := hf i j hi hj
    simpa using this
  · unfold totF costOf
    exact sumTo_congr fun i hi => by rw [ht i hi]; simp
  · exact (cost_tight hp hti).symm
theorem verB_true {m : List (List Int)} {n : Nat} {tt : Nat → Nat} {t u v : Nat → Int} {cost : Int} (hm : matB m = true) (hl : m.length = n) (ht : ∀ i, i < n → t i = (tt i : Int)) (hfi : First n (mget m) tt) (hf : Feas n (mget m) u v) (hti : Tight n (mget m) u v tt)
    (hu : ∀ i, i < n → -1000000000 ≤ u i ∧ u i ≤ 1000000000) (hv : ∀ i, i < n → -1000000000 ≤ v i ∧ v i ≤ 1000000000) (hc : cost = costOf (mget m) tt n) : verB m n n n t u v cost = true := by
  subst hl
  unfold verB
  rw [hm, hc, verF_true ht hfi.1.1 hf hti hu hv]
  simp
/-- whatever certificate is accepted, no assignment is cheaper -/
theorem verF_least {n : Nat} {c : Nat → Nat → Int} {t u v : Nat → Int} {cost : Int} (h : verF n c t u v cost = true) {σ : Nat → Nat} (hs : Perfect n σ) : cost ≤ costOf c σ n := by
  unfold verF at h
  simp only [Bool.and_eq_true, decide_eq_true_eq] at h
  obtain ⟨⟨⟨⟨_, _⟩, h3⟩, _⟩, h5⟩ := h
  have hf : Feas n c u v := fun i j hi hj => by
    have := (allB_iff _ n).1 ((allB_iff _ n).1 h3 i hi) j hj
    simpa using this
  have := cost_ge hf hs
  omega
/-- the matrix of the chapter's example -/
def exM : List (List Int) := [[1, 2], [1, 5]]
theorem exM_mat : matB exM = true := by decide
theorem ex_first {tt : Nat → Nat} (h : First 2 (mget exM) tt) : tt 0 = 1 ∧ tt 1 = 0 ∧ costOf (mget exM) tt 2 = 3 := by
  have h0 := h.1.1.1 0 (by omega)
  have h1 := h.1.1.1 1 (by omega)
  have hne : tt 0 ≠ tt 1 := fun e => by have := h.1.1.2 0 1 (by omega) (by omega) e; omega
  have hle := h.1.2 (fun i => 1 - i) ⟨fun i hi => by show 1 - i < 2; omega, fun i j hi hj e => by have e' : 1 - i = 1 - j := e; omega⟩
  have e1 : costOf (mget exM) (fun i => 1 - i) 2 = 3 := by decide
  rw [e1] at hle
  have hc : costOf (mget exM) tt 2 = mget exM 0 (tt 0) + mget exM 1 (tt 1) := by
    show (0 + mget exM 0 (tt 0)) + mget exM 1 (tt 1) = _
    omega
  have hcase : (tt 0 = 0 ∧ tt 1 = 1) ∨ (tt 0 = 1 ∧ tt 1 = 0) := by omega
  rcases hcase with ⟨a, b⟩ | ⟨a, b⟩
  · rw [hc, a, b] at hle
    exact absurd hle (by decide)
  · refine ⟨a, b, ?_⟩
    rw [hc, a, b]
    decide
end Go.Proofs.Ytgmhinmakomabaa
