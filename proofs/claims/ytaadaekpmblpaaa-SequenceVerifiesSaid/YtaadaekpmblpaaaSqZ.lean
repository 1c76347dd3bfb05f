/-
  What the laws' texts import; small lengths out of light. No condition.
-/
import Derived.Test.YtaadaekpmblpaaaSqU
namespace Go.Proofs.Ytaadaekpmblpaaa
open Go.RowKit
set_option linter.unusedVariables false
theorem light_parts {drop add : List Int} {cost : List (List Int)} (h : lightL drop add cost = true) : drop.length ≤ 40 ∧ add.length ≤ 40 ∧ cost.length ≤ 60 ∧ ∀ r ∈ cost, r.length ≤ 60 := by
  unfold lightL at h
  simp only [Bool.and_eq_true, decide_eq_true_eq, List.all_eq_true] at h
  exact ⟨h.1.1.1, h.1.1.2, h.1.2, h.2⟩
theorem three_of_light {w : World} {A1 A2 A3 : Option Addr} {n1 n2 n3 : Nat} {drop add : List Int} {cost : List (List Int)} (h1 : Ints w w.heap.size A1 n1 drop) (h2 : Ints w w.heap.size A2 n2 add) (h3 : Mat w w.heap.size A3 n3 cost) (hl : lightL drop add cost = true) : Three w w.heap.size A1 n1 A2 n2 A3 n3 drop add cost := by
  obtain ⟨q1, q2, q3, q4⟩ := light_parts hl
  have e1 := Ints.len h1
  have e2 := Ints.len h2
  have e3 := Mat.len h3
  exact ⟨h1, h2, h3, by omega, by omega, by omega, fun r hr => by have := q4 r hr; omega⟩
theorem refCostB (A1 : Option Addr) (n1 c1 : Nat) (A2 : Option Addr) (n2 c2 : Nat) (A3 : Option Addr) (n3 c3 : Nat) (A4 : Option Addr) (n4 c4 : Nat) (drop add : List Int) (cost : List (List Int)) (ps : List (Int × Int)) (w : World)
    (h : Three w w.heap.size A1 n1 A2 n2 A3 n3 drop add cost) (h4 : Prs w w.heap.size A4 n4 ps) (hn4 : n4 ≤ 1000000000) :
    Calls Try.prog 18 #[.slice A1 n1 c1, .slice A2 n2 c2, .slice A3 n3 c3, .slice A4 n4 c4] w (CostPost w (costL drop add cost ps)) :=
  (refCost_any A1 n1 c1 A2 n2 c2 A3 n3 c3 A4 n4 c4 drop add cost ps w.heap.size w h h4 hn4).mono fun e w' ⟨he, m, hm⟩ => ⟨he, by subst hm; exact below_drewN (Below.refl _ _) m⟩
end Go.Proofs.Ytaadaekpmblpaaa
