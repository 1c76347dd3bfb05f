/-
  The plain law of alignments: least costs, a least-cost alignment, certificates. No condition.
-/
import Derived.Test.YtaadaekpmblpaaaSqV
namespace Go.Proofs.Ytaadaekpmblpaaa
open Go.RowKit
set_option linter.unusedVariables false

/-- the least cost of the alignments of the first i and the first j elements -/
def potF (drop add : List Int) (cost : List (List Int)) : Nat → Nat → Int
  | 0, 0 => 0
  | 0, j + 1 => potF drop add cost 0 j + add.getD j 0
  | i + 1, 0 => potF drop add cost i 0 + drop.getD i 0
  | i + 1, j + 1 =>
    if 0 ≤ pget cost i j then min (min (potF drop add cost i (j + 1) + drop.getD i 0) (potF drop add cost (i + 1) j + add.getD j 0)) (potF drop add cost i j + pget cost i j)
    else min (potF drop add cost i (j + 1) + drop.getD i 0) (potF drop add cost (i + 1) j + add.getD j 0)
termination_by i j => i + j
def backF (drop add : List Int) (cost : List (List Int)) : Nat → Nat → List (Int × Int)
  | 0, 0 => []
  | 0, j + 1 => backF drop add cost 0 j
  | i + 1, 0 => backF drop add cost i 0
  | i + 1, j + 1 =>
    if 0 ≤ pget cost i j ∧ potF drop add cost (i + 1) (j + 1) = potF drop add cost i j + pget cost i j then ((i : Int), (j : Int)) :: backF drop add cost i j
    else if potF drop add cost (i + 1) (j + 1) = potF drop add cost i (j + 1) + drop.getD i 0 then backF drop add cost i (j + 1)
    else backF drop add cost (i + 1) j
termination_by i j => i + j
def potM (drop add : List Int) (cost : List (List Int)) : List (List Int) := (List.range (drop.length + 1)).map fun i => (List.range (add.length + 1)).map fun j => potF drop add cost i j
def alignL (drop add : List Int) (cost : List (List Int)) : List (Int × Int) := (backF drop add cost drop.length add.length).reverse

section
variable {drop add : List Int} {cost : List (List Int)}
theorem potF_down (i j : Nat) : potF drop add cost (i + 1) j ≤ potF drop add cost i j + drop.getD i 0 := by
  cases j with
  | zero => rw [potF]; omega
  | succ j => rw [potF]; split <;> omega
theorem potF_right (i j : Nat) : potF drop add cost i (j + 1) ≤ potF drop add cost i j + add.getD j 0 := by
  cases i with
  | zero => rw [potF]; omega
  | succ i => rw [potF.eq_4]; split <;> omega
theorem potF_both (i j : Nat) (h : 0 ≤ pget cost i j) : potF drop add cost (i + 1) (j + 1) ≤ potF drop add cost i j + pget cost i j := by
  rw [potF, if_pos h]; omega
theorem potF_one (i j : Nat) : potF drop add cost (i + 1) (j + 1) = potF drop add cost i (j + 1) + drop.getD i 0 ∨ potF drop add cost (i + 1) (j + 1) = potF drop add cost (i + 1) j + add.getD j 0 ∨ (0 ≤ pget cost i j ∧ potF drop add cost (i + 1) (j + 1) = potF drop add cost i j + pget cost i j) := by
  rw [potF.eq_4]
  split <;> omega
theorem potF_bounds (hd : inside 0 1048576 drop = true) (ha : inside 0 1048576 add = true) (hc : ∀ i j, pget cost i j ≤ 1048576) : ∀ (i j : Nat), i ≤ drop.length → j ≤ add.length → 0 ≤ potF drop add cost i j ∧ potF drop add cost i j ≤ (i + j : Int) * 1048576
  | 0, 0, _, _ => by rw [potF]; omega
  | 0, j + 1, h1, h2 => by
    have h := potF_bounds hd ha hc 0 j (by omega) (by omega)
    have b := getD_bounds ha (i := j) (by omega)
    rw [potF]; omega
  | i + 1, 0, h1, h2 => by
    have h := potF_bounds hd ha hc i 0 (by omega) (by omega)
    have b := getD_bounds hd (i := i) (by omega)
    rw [potF]; omega
  | i + 1, j + 1, h1, h2 => by
    have h := potF_bounds hd ha hc i (j + 1) (by omega) (by omega)
    have h' := potF_bounds hd ha hc (i + 1) j (by omega) (by omega)
    have h'' := potF_bounds hd ha hc i j (by omega) (by omega)
    have b := getD_bounds hd (i := i) (by omega)
    have b' := getD_bounds ha (i := j) (by omega)
    have b'' := hc i j
    rw [potF]; split <;> omega
termination_by i j => i + j

theorem pget_potM {i j : Nat} (hi : i ≤ drop.length) (hj : j ≤ add.length) : pget (potM drop add cost) i j = potF drop add cost i j := by
  refine pget_of (r := (List.range (add.length + 1)).map fun j => potF drop add cost i j) ?_ ?_
  · unfold potM
    rw [List.getElem?_map, List.getElem?_range (by omega)]
    rfl
  · rw [List.getElem?_map, List.getElem?_range (by omega)]
    rfl
theorem proper_le (h : properL drop add cost = true) (i j : Nat) : pget cost i j ≤ 1048576 := by
  obtain ⟨_, _, _, _, _, h6⟩ := proper_parts h
  unfold pget
  rcases Nat.lt_or_ge i cost.length with hi | hi
  · rw [show cost.getD i [] = cost[i] from by rw [List.getD_eq_getElem?_getD, List.getElem?_eq_getElem hi]; rfl]
    have h7 := (h6 cost[i] (List.getElem_mem _)).2
    rcases Nat.lt_or_ge j cost[i].length with hj | hj
    · exact (getD_bounds h7 hj).2
    · simp [List.getElem?_eq_none hj]
  · simp [List.getElem?_eq_none hi]

/-- sums of beginnings -/
def sumTo (l : List Int) (k : Nat) : Int := (l.take k).sum
theorem sumTo_succ (l : List Int) (k : Nat) : sumTo l (k + 1) = sumTo l k + l.getD k 0 := by
  unfold sumTo
  rw [List.take_add_one, List.sum_append]
  cases h : l[k]? <;> simp [h]
theorem sumTo_all (l : List Int) {k : Nat} (h : l.length ≤ k) : sumTo l k = l.sum := by unfold sumTo; rw [List.take_of_length_le h]
theorem sumTo_zero (l : List Int) : sumTo l 0 = 0 := rfl

theorem cget_pget (i j : Nat) : cget cost (i : Int) (j : Int) = pget cost i j := by simp [cget, pget]
theorem dget_getD (l : List Int) (i : Nat) : dget l (i : Int) = l.getD i 0 := by simp [dget]

/-- the cost of the pairs of backF -/
theorem back_cost (hp : properL drop add cost = true) : ∀ (i j : Nat), i ≤ drop.length → j ≤ add.length → ∀ (acc : Int) (tail : List (Int × Int)), ∃ li lj : Int, li < i ∧ lj < j ∧
    costGo drop add cost acc (-1) (-1) ((backF drop add cost i j).reverse ++ tail) = costGo drop add cost (acc - sumTo drop i - sumTo add j + potF drop add cost i j) li lj tail
  | 0, 0, _, _, acc, tail => ⟨-1, -1, by omega, by omega, by rw [backF, potF, sumTo_zero, sumTo_zero]; simp⟩
  | 0, j + 1, h1, h2, acc, tail => by
    obtain ⟨li, lj, a, b, c⟩ := back_cost hp 0 j (by omega) (by omega) acc tail
    refine ⟨li, lj, a, by omega, ?_⟩
    rw [backF, c, potF, sumTo_succ]
    congr 1; omega
  | i + 1, 0, h1, h2, acc, tail => by
    obtain ⟨li, lj, a, b, c⟩ := back_cost hp i 0 (by omega) (by omega) acc tail
    refine ⟨li, lj, by omega, b, ?_⟩
    rw [backF, c, potF, sumTo_succ]
    congr 1; omega
  | i + 1, j + 1, h1, h2, acc, tail => by
    rw [backF]
    by_cases hc : 0 ≤ pget cost i j ∧ potF drop add cost (i + 1) (j + 1) = potF drop add cost i j + pget cost i j
    · rw [if_pos hc]
      obtain ⟨li, lj, a, b, c⟩ := back_cost hp i j (by omega) (by omega) acc (((i : Int), (j : Int)) :: tail)
      refine ⟨i, j, by omega, by omega, ?_⟩
      rw [List.reverse_cons, List.append_assoc, List.singleton_append, c, costGo, if_neg, hc.2, sumTo_succ, sumTo_succ]
      · simp only [cget_pget, dget_getD]
        congr 1; omega
      · simp only [badP, cget_pget]
        simp; omega
    · rw [if_neg hc]
      by_cases hd : potF drop add cost (i + 1) (j + 1) = potF drop add cost i (j + 1) + drop.getD i 0
      · rw [if_pos hd]
        obtain ⟨li, lj, a, b, c⟩ := back_cost hp i (j + 1) (by omega) (by omega) acc tail
        refine ⟨li, lj, by omega, b, ?_⟩
        rw [c, hd, sumTo_succ drop]
        congr 1; omega
      · rw [if_neg hd]
        obtain ⟨li, lj, a, b, c⟩ := back_cost hp (i + 1) j (by omega) (by omega) acc tail
        refine ⟨li, lj, a, by omega, ?_⟩
        have he : potF drop add cost (i + 1) (j + 1) = potF drop add cost (i + 1) j + add.getD j 0 := by
          rcases potF_one (drop := drop) (add := add) (cost := cost) i j with h | h | h
          · exact absurd h hd
          · exact h
          · exact absurd h hc
        rw [c, he, sumTo_succ add]
        congr 1; omega
termination_by i j => i + j

theorem align_cost (hp : properL drop add cost = true) : costL drop add cost (alignL drop add cost) = (potF drop add cost drop.length add.length, true) := by
  unfold costL alignL
  rw [if_pos hp]
  obtain ⟨li, lj, -, -, h⟩ := back_cost hp drop.length add.length (Nat.le_refl _) (Nat.le_refl _) (drop.sum + add.sum) []
  rw [List.append_nil] at h
  rw [h, costGo, sumTo_all _ (Nat.le_refl _), sumTo_all _ (Nat.le_refl _)]
  congr 1; omega

theorem align_verified (hp : properL drop add cost = true) : verL drop add cost (alignL drop add cost) (potF drop add cost drop.length add.length) (potM drop add cost) = true := by
  obtain ⟨h1, h2, h3, h4, h5, h6⟩ := proper_parts hp
  have hb := potF_bounds h4 h5 (proper_le hp)
  unfold verL
  rw [align_cost hp, pget_potM (by omega) (by omega), pget_potM (Nat.le_refl _) (Nat.le_refl _)]
  simp only [decide_true, Bool.and_true, Bool.true_and]
  simp only [Bool.and_eq_true, decide_eq_true_eq]
  refine ⟨⟨⟨by simp [potM], ?_⟩, by rw [potF]⟩, ?_⟩
  · rw [List.all_eq_true]
    intro r hr
    obtain ⟨i, hi, rfl⟩ := List.mem_map.1 hr
    have hi' := List.mem_range.1 hi
    unfold potRow
    simp only [List.length_map, List.length_range, decide_true, Bool.true_and]
    unfold inside
    rw [List.all_eq_true]
    intro x hx
    obtain ⟨j, hj, rfl⟩ := List.mem_map.1 hx
    have hj' := List.mem_range.1 hj
    have := hb i j (by omega) (by omega)
    simp; omega
  · unfold edgesOk
    rw [List.all_eq_true]
    intro i hi
    rw [List.all_eq_true]
    intro j hj
    have hi' := List.mem_range.1 hi
    have hj' := List.mem_range.1 hj
    unfold edgeOk edge1 edge2 edge3
    simp only [Bool.and_eq_true, Bool.or_eq_true, decide_eq_true_eq, Bool.not_eq_true', decide_eq_false_iff_not]
    refine ⟨⟨?_, ?_⟩, ?_⟩
    · by_cases h : i < drop.length
      · right
        rw [pget_potM (by omega) (by omega), pget_potM (by omega) (by omega)]
        exact potF_down i j
      · left; exact h
    · by_cases h : j < add.length
      · right
        rw [pget_potM (by omega) (by omega), pget_potM (by omega) (by omega)]
        exact potF_right i j
      · left; exact h
    · by_cases h : (i < drop.length ∧ j < add.length) ∧ 0 ≤ pget cost i j
      · right
        rw [pget_potM (by omega) (by omega), pget_potM (by omega) (by omega)]
        exact potF_both i j h.2
      · left
        rw [Bool.eq_false_iff]
        simpa using h

/-- no alignment is cheaper than a potential that keeps the edges -/
theorem weak {pot : List (List Int)} (he : edgesOk drop add cost pot = true) {i j : Nat} (hi : i ≤ drop.length) (hj : j ≤ add.length) : ∀ k, i + k ≤ drop.length → pget pot (i + k) j + sumTo drop i ≤ pget pot i j + sumTo drop (i + k)
  | 0, _ => by simp
  | k + 1, h => by
    have ih := weak he hi hj k (by omega)
    have h1 := List.all_eq_true.1 (List.all_eq_true.1 he (i + k) (List.mem_range.2 (by omega))) j (List.mem_range.2 (by omega))
    unfold edgeOk edge1 at h1
    simp only [Bool.and_eq_true, Bool.or_eq_true, Bool.not_eq_true', decide_eq_false_iff_not, decide_eq_true_eq] at h1
    have h2 := h1.1.1
    rw [← Nat.add_assoc, sumTo_succ]
    omega
theorem weak2 {pot : List (List Int)} (he : edgesOk drop add cost pot = true) {i j : Nat} (hi : i ≤ drop.length) (hj : j ≤ add.length) : ∀ k, j + k ≤ add.length → pget pot i (j + k) + sumTo add j ≤ pget pot i j + sumTo add (j + k)
  | 0, _ => by simp
  | k + 1, h => by
    have ih := weak2 he hi hj k (by omega)
    have h1 := List.all_eq_true.1 (List.all_eq_true.1 he i (List.mem_range.2 (by omega))) (j + k) (List.mem_range.2 (by omega))
    unfold edgeOk edge2 at h1
    simp only [Bool.and_eq_true, Bool.or_eq_true, Bool.not_eq_true', decide_eq_false_iff_not, decide_eq_true_eq] at h1
    have h2 := h1.1.2
    rw [← Nat.add_assoc, sumTo_succ]
    omega
theorem weak_to {pot : List (List Int)} (he : edgesOk drop add cost pot = true) {i j i' j' : Nat} (hi : i ≤ i') (hj : j ≤ j') (hi' : i' ≤ drop.length) (hj' : j' ≤ add.length) : pget pot i' j' + sumTo drop i + sumTo add j ≤ pget pot i j + sumTo drop i' + sumTo add j' := by
  have h1 := weak he (i := i) (j := j) (by omega) (by omega) (i' - i) (by omega)
  have h2 := weak2 he (i := i') (j := j) (by omega) (by omega) (j' - j) (by omega)
  rw [show i + (i' - i) = i' by omega] at h1
  rw [show j + (j' - j) = j' by omega] at h2
  omega
theorem weak_cost {pot : List (List Int)} (he : edgesOk drop add cost pot = true) : ∀ (ps : List (Int × Int)) (acc : Int) (i j : Nat) (d : Int), i ≤ drop.length → j ≤ add.length →
    pget pot i j + (drop.sum - sumTo drop i) + (add.sum - sumTo add j) ≤ acc → costGo drop add cost acc ((i : Int) - 1) ((j : Int) - 1) ps = (d, true) → pget pot drop.length add.length ≤ d
  | [], acc, i, j, d, hi, hj, ha, h => by
    rw [costGo] at h
    injection h with h
    have h1 := weak_to he hi hj (Nat.le_refl _) (Nat.le_refl _)
    rw [sumTo_all _ (Nat.le_refl _), sumTo_all _ (Nat.le_refl _)] at h1
    omega
  | p :: ps, acc, i, j, d, hi, hj, ha, h => by
    rw [costGo] at h
    by_cases hb : badP drop.length add.length cost ((i : Int) - 1) ((j : Int) - 1) p = true
    · rw [if_pos hb] at h
      injection h with _ h
      cases h
    · rw [if_neg hb] at h
      unfold badP at hb
      simp only [Bool.or_eq_true, decide_eq_true_eq, not_or] at hb
      obtain ⟨⟨⟨⟨b1, b2⟩, b3⟩, b4⟩, b5⟩ := hb
      obtain ⟨k, hk⟩ : ∃ k : Nat, p.1 = k := ⟨p.1.toNat, by omega⟩
      obtain ⟨l, hl⟩ : ∃ l : Nat, p.2 = l := ⟨p.2.toNat, by omega⟩
      rw [hk, hl] at h b5
      rw [hk] at b1 b3
      rw [hl] at b2 b4
      rw [cget_pget] at h b5
      rw [dget_getD, dget_getD] at h
      have h1 := weak_to he (i := i) (j := j) (i' := k) (j' := l) (by omega) (by omega) (by omega) (by omega)
      have h2 := List.all_eq_true.1 (List.all_eq_true.1 he k (List.mem_range.2 (by omega))) l (List.mem_range.2 (by omega))
      unfold edgeOk edge3 at h2
      simp only [Bool.and_eq_true, Bool.or_eq_true, Bool.not_eq_true', decide_eq_true_eq] at h2
      have h3 : pget pot (k + 1) (l + 1) ≤ pget pot k l + pget cost k l := by
        rcases h2.2 with h4 | h4
        · rw [Bool.eq_false_iff] at h4
          exact absurd (by simp; omega) h4
        · exact h4
      refine weak_cost he ps _ (k + 1) (l + 1) d (by omega) (by omega) ?_ (by rw [show ((k + 1 : Nat) : Int) - 1 = k by omega, show ((l + 1 : Nat) : Int) - 1 = l by omega]; exact h)
      rw [sumTo_succ, sumTo_succ]
      omega
/-- whatever certificate is accepted, no alignment is cheaper than its cost -/
theorem ver_least {ps qs : List (Int × Int)} {c d : Int} {pot : List (List Int)} (h : verL drop add cost ps c pot = true) (hq : costL drop add cost qs = (d, true)) : c ≤ d := by
  unfold verL at h
  simp only [Bool.and_eq_true, decide_eq_true_eq] at h
  obtain ⟨⟨⟨⟨⟨⟨h1, h2⟩, h3⟩, h4⟩, h5⟩, h6⟩, h7⟩ := h
  have hp := costL_proper h1
  unfold costL at hq
  rw [if_pos hp] at hq
  have := weak_cost h7 qs (drop.sum + add.sum) 0 0 d (by omega) (by omega) (by rw [h5, sumTo_zero, sumTo_zero]; omega) (by simpa using hq)
  omega
theorem ver_cost {ps : List (Int × Int)} {c : Int} {pot : List (List Int)} (h : verL drop add cost ps c pot = true) : costL drop add cost ps = (c, true) := by
  unfold verL at h
  simp only [Bool.and_eq_true, decide_eq_true_eq] at h
  exact Prod.ext h.1.1.1.1.1.2 h.1.1.1.1.1.1
end
end Go.Proofs.Ytaadaekpmblpaaa
