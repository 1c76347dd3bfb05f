/-
  What the reference's keys says of Between: plain. No condition.
-/
import Derived.Test.YtikabbpipdekfaaPsF
namespace Go.Proofs.Ytikabbpipdekfaa
open Go.RowKit
set_option linter.unusedVariables false

theorem from_ge {l : List UInt8} {n : Nat} (h : Lets l) (hl : l.length ≤ 60) (hn : n ≤ 60) : (from_ l n = W l / Bn n ∧ W l / Bn n % 26 = 0) ∨ from_ l n = W l / Bn n + 1 := by
  unfold from_
  split
  · rename_i hlt
    refine .inl ⟨V_of_W h hn, ?_⟩
    rw [← V_of_W h hn, show n = l.length + ((n - l.length - 1) + 1) by omega, V_more, Nat.pow_succ, ← Nat.mul_assoc]
    exact Nat.mul_mod_left _ _
  · exact .inr (by rw [V_of_W h hn])
theorem below_up {L n K0 k : Nat} (h0 : (K0 = L / Bn n ∧ L / Bn n % 26 = 0) ∨ K0 = L / Bn n + 1) (h1 : K0 ≤ k) (h2 : k < up L n) : k % 26 = 0 := by
  unfold up at h2
  split at h2
  · rename_i hm
    rcases h0 with ⟨h0, h3⟩ | h0
    · have : k = L / Bn n ∨ k = L / Bn n + 1 := by omega
      rcases this with rfl | rfl
      · exact h3
      · exact hm
    · obtain rfl : k = L / Bn n + 1 := by omega
      exact hm
  · rcases h0 with ⟨h0, h3⟩ | h0
    · obtain rfl : k = L / Bn n := by omega
      exact h3
    · omega
theorem from_le_up {L n K0 : Nat} (h0 : (K0 = L / Bn n ∧ L / Bn n % 26 = 0) ∨ K0 = L / Bn n + 1) : K0 ≤ up L n ∧ L / Bn n ≤ K0 := by
  have := up_ge L n
  rcases h0 with ⟨h0, -⟩ | h0 <;> constructor <;> omega
theorem filter_none {a c : Nat} (h : ∀ k, a ≤ k → k < a + c → k % 26 = 0) : (List.range' a c).filter (fun k => k % 26 ≠ 0) = [] := by
  rw [List.filter_eq_nil_iff]
  intro k hk
  have := List.mem_range'_1.1 hk
  simpa using h k this.1 this.2
theorem filter_all {a c : Nat} (h : ∀ k, a ≤ k → k < a + c → k % 26 ≠ 0) : (List.range' a c).filter (fun k => k % 26 ≠ 0) = List.range' a c := by
  rw [List.filter_eq_self]
  intro k hk
  have := List.mem_range'_1.1 hk
  simpa using h k this.1 this.2
theorem kres_none {L H n K0 : Nat} {xs : List ByteArray} (h0 : (K0 = L / Bn n ∧ L / Bn n % 26 = 0) ∨ K0 = L / Bn n + 1) (hl : lev L H n = none) (h : KRes H n K0 xs) : xs = [] := by
  obtain ⟨t, K, hs, -⟩ := h
  have hu : ¬ up L n * Bn n < H := fun h => by
    unfold lev at hl
    rw [if_pos h] at hl
    cases hl
  have := hs.nums
  rw [filter_none (fun k h1 h2 => ?_)] at this
  · simpa using this
  · refine below_up h0 h1 ?_
    rcases Nat.lt_or_ge k (up L n) with h3 | h3
    · exact h3
    · have h4 := hs.lt k h1 (by have := hs.k0; omega)
      have h5 : up L n * Bn n ≤ k * Bn n := Nat.mul_le_mul_right _ h3
      omega
theorem kres_some {L H n K0 : Nat} {xs : List ByteArray} (h0 : (K0 = L / Bn n ∧ L / Bn n % 26 = 0) ∨ K0 = L / Bn n + 1) (h1 : 1 ≤ n) (hn : n ≤ 60) (hH : H ≤ Bn 0) (hm : ∀ n', 1 ≤ n' → n' < n → lev L H n' = none) (hl : lev L H n ≠ none) (h : KRes H n K0 xs) :
    0 < xs.length ∧ ∃ t, xs[(xs.length - 1) / 2]? = some t ∧ BRes L H t.data.toList 0 := by
  obtain ⟨t, K, hs, hx⟩ := h
  have hu := lev_lt hl
  have hk0 := hs.k0
  obtain ⟨hku, hqk⟩ := from_le_up h0
  have hum := up_mod L n
  have hlen : xs.length = (xs.map (val n)).length := by simp
  have hKu : up L n < K := by
    rcases Nat.lt_or_ge (up L n) K with h | h
    · exact h
    · exfalso
      have e1 := hs.nums
      rw [filter_none (fun k h1 h2 => below_up h0 h1 (by omega))] at e1
      have hxs : xs.length = 0 := by rw [hlen, e1]; rfl
      rcases hx with hx | hx | hx
      · have h5 : 26 ^ n * Bn n ≤ up L n * Bn n := Nat.mul_le_mul_right _ (by rw [← hx]; exact h)
        rw [Bn_top hn] at h5
        omega
      · have h5 : K * Bn n ≤ up L n * Bn n := Nat.mul_le_mul_right _ h
        omega
      · omega
  obtain ⟨E, hE⟩ : ∃ E, 26 * (up L n / 26) + 26 = E := ⟨_, rfl⟩
  obtain ⟨T, hT⟩ : ∃ T, min K E = T := ⟨_, rfl⟩
  have hET : T ≤ E := by omega
  have hKT : T ≤ K := by omega
  have hTu : up L n < T := by omega
  have hsplit : List.range' K0 (K - K0) = List.range' K0 (up L n - K0) ++ (List.range' (up L n) (T - up L n) ++ List.range' T (K - T)) := by
    have e1 : List.range' (up L n) (T - up L n) ++ List.range' T (K - T) = List.range' (up L n) ((T - up L n) + (K - T)) := by
      rw [← List.range'_append_1, show up L n + (T - up L n) = T by omega]
    have e2 : List.range' K0 (up L n - K0) ++ List.range' (up L n) ((T - up L n) + (K - T)) = List.range' K0 ((up L n - K0) + ((T - up L n) + (K - T))) := by
      rw [← List.range'_append_1 (s := K0), show K0 + (up L n - K0) = up L n by omega]
    rw [e1, e2, show (up L n - K0) + ((T - up L n) + (K - T)) = K - K0 by omega]
  have hnums : xs.map (val n) = List.range' (up L n) (T - up L n) := by
    rw [hs.nums, hsplit, List.filter_append, List.filter_append, filter_none (fun k h1 h2 => below_up h0 h1 (by omega)), filter_all (fun k h1 h2 => by omega), filter_none (fun k g1 g2 => ?_)]
    · simp
    · by_cases hk : k % 26 = 0
      · exact hk
      · exfalso
        have hlt := hs.lt k (by omega) (by omega)
        have := one_block h1 hn hH hm (k := k) (of_above (by have := up_ge L n; omega)) hlt hk
        omega
  have hc : xs.length = T - up L n := by rw [hlen, hnums]; simp
  have hcnt : IsCnt H n (up L n) (T - up L n) := by
    refine ⟨by omega, by omega, ?_, ?_⟩
    · exact hs.lt _ (by omega) (by omega)
    · by_cases hTE : T = E
      · exact .inl (by omega)
      · have hTK : T = K := by omega
        refine .inr ?_
        rcases hx with hx | hx | hx
        · exfalso
          have : 26 ^ n % 26 = 0 := by
            rw [show n = (n - 1) + 1 by omega, Nat.pow_succ]; exact Nat.mul_mod_left _ _
          rw [← hx] at this
          omega
        · rw [show up L n + (T - up L n) = K by omega]; exact hx
        · omega
  refine ⟨by omega, ?_⟩
  obtain ⟨y, hy⟩ : ∃ y, xs[(xs.length - 1) / 2]? = some y := ⟨_, List.getElem?_eq_getElem (by omega)⟩
  refine ⟨y, hy, ?_⟩
  have hv : val n y = up L n + (xs.length - 1) / 2 := by
    have : (xs.map (val n))[(xs.length - 1) / 2]? = some (val n y) := by rw [List.getElem?_map, hy]; rfl
    rw [hnums, List.getElem?_range' (by omega)] at this
    injection this with this
    omega
  have he := hs.each y (List.mem_of_getElem? hy)
  refine .inl ⟨rfl, n, T - up L n, h1, hn, hm, hl, hcnt, he.1, he.2, ?_⟩
  show val n y = _
  rw [hv, hc]
end Go.Proofs.Ytikabbpipdekfaa
