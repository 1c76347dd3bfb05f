/-
  Mod, and the dice. No condition.
-/
import Derived.Test.YtaadaekpmblpaaaSqP
namespace Go.Proofs.Ytaadaekpmblpaaa
open Go.RowKit
set_option linter.unusedVariables false

theorem mod_spelt (z m : Int) (h0 : 0 < m) : (z % m = if z.tmod m < 0 then z.tmod m + m else z.tmod m) ∧ -m < z.tmod m ∧ z.tmod m < m := by
  have hne : ¬ m = 0 := by omega
  have h1 := Int.tmod_eq_emod (a := z) (b := m)
  have h2 := Int.emod_nonneg z hne
  have h3 := Int.emod_lt_of_pos z h0
  have h5 : ∀ q : Int, (0 ≤ z ∨ m ∣ z) ∨ ¬ (0 ≤ z ∨ m ∣ z) := fun _ => Classical.em _
  rcases h5 0 with h | h
  · rw [if_pos h] at h1
    refine ⟨?_, by omega, by omega⟩
    rw [if_neg (by omega)]; omega
  · rw [if_neg h] at h1
    have h6 : z % m ≠ 0 := fun e => h (.inr (Int.dvd_of_emod_eq_zero e))
    refine ⟨?_, by omega, by omega⟩
    rw [if_pos (by omega)]; omega

set_option maxRecDepth 100000 in
set_option maxHeartbeats 400000 in
theorem mod_any (z m : Int) (w : World) (h0 : 0 < m) (hm : m ≤ 1000000000) (hz1 : -9223372036854775808 ≤ z) (hz2 : z ≤ 9223372036854775807) :
    Calls Try.prog 16 #[.int .i64 z, .int .i64 m] w fun e w' => e = .returned (.int .i64 (z % m)) ∧ w = w' := by
  have hne : ¬ m = 0 := by omega
  have hne' : (m == 0) = false := by simpa using hne
  obtain ⟨ht, hr1, hr2⟩ := mod_spelt z m h0
  obtain ⟨r, hr⟩ : ∃ r, z % m = r := ⟨_, rfl⟩
  obtain ⟨q, hq⟩ : ∃ q, z.tmod m = q := ⟨_, rfl⟩
  rw [hr] at ht ⊢
  rw [hq] at ht hr1 hr2
  clear hr
  by_cases hneg : q < 0
  · rw [if_pos hneg] at ht
    subst ht
    go_enter Try.func16, Try.ntmps16
    go_wp2_with fail
    go_ret
    simp
  · rw [if_neg hneg] at ht
    subst ht
    go_enter Try.func16, Try.ntmps16
    go_wp2_with fail
    go_ret
    simp
end Go.Proofs.Ytaadaekpmblpaaa
