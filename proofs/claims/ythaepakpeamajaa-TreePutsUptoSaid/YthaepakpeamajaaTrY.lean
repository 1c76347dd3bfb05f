/-
  The numbers of all paths. No condition.
-/
import Derived.Test.YthaepakpeamajaaTrV
import Derived.Test.YthaepakpeamajaaTrX
namespace Go.Proofs.Ythaepakpeamajaa
open Go.RowKit
set_option linter.unusedVariables false

theorem pathss_get : ∀ (ks : List TX) (P : List Int) (off i : Nat) (l : List Int), (T.pathss (ks.map TX.plain) P off)[i]? = some l →
    ∃ j k i', ks[j]? = some k ∧ i = T.sizes ((ks.take j).map TX.plain) + i' ∧ (k.plain.paths (P ++ [((off + j : Nat) : Int)]))[i']? = some l
  | [], P, off, i, l, h => by simp [T.pathss] at h
  | k :: ks, P, off, i, l, h => by
    rw [List.map_cons, T.pathss] at h
    rcases Nat.lt_or_ge i (k.plain.paths (P ++ [(off : Int)])).length with hi | hi
    · rw [List.getElem?_append_left hi] at h
      exact ⟨0, k, i, rfl, by simp [T.sizes], by simpa using h⟩
    · rw [List.getElem?_append_right hi] at h
      obtain ⟨j, k', i', h1, h2, h3⟩ := pathss_get ks P (off + 1) _ l h
      rw [paths_len] at h2 hi
      refine ⟨j + 1, k', i', by simpa using h1, ?_, by rw [show off + (j + 1) = off + 1 + j by omega]; exact h3⟩
      rw [List.take_succ_cons, List.map_cons, T.sizes]
      omega
theorem paths_num (t : TX) : ∀ (P : List Int) (i : Nat) (l : List Int), (t.plain.paths P)[i]? = some l → ∃ q s, l = P ++ q ∧ t.find q = some s ∧ t.num q = (i : Int) ∧ ∀ x ∈ q, 0 ≤ x ∧ x ≤ (t.plain.size : Int) := by
  induction t using TX.ind with
  | h t ih =>
  intro P i l h
  rw [paths_plain] at h
  cases i with
  | zero =>
    simp at h
    subst h
    exact ⟨[], t, by simp, by rw [TX.find], by rw [TX.num]; rfl, fun x hx => by cases hx⟩
  | succ i =>
    have h' : (T.pathss (t.kids.map TX.plain) P 0)[i]? = some l := by simpa using h
    obtain ⟨j, k, i', h1, h2, h3⟩ := pathss_get _ _ _ _ _ h'
    have hjl := (List.getElem?_eq_some_iff.1 h1).1
    obtain ⟨q, s, e1, e2, e3, e4⟩ := ih k (List.mem_of_getElem? h1) _ _ _ h3
    have hsz := szs_le h1
    refine ⟨(j : Int) :: q, s, by rw [e1]; simp, ?_, ?_, fun x hx => ?_⟩
    · rw [TX.find, if_neg (by omega)]
      simp [h1, e2]
    · rw [TX.num]
      simp [h1, e3]
      unfold szs
      omega
    · rcases List.mem_cons.1 hx with rfl | hx
      · have : t.kids.length ≤ t.plain.size := by
          rw [TX.plain_eq, T.size]
          have : ∀ l : List T, l.length ≤ T.sizes l := fun l => by
            induction l with
            | nil => simp
            | cons a l ih => rw [T.sizes, List.length_cons]; cases a with | node _ _ _ _ => rw [T.size]; omega
          have := this (t.kids.map TX.plain)
          rw [List.length_map] at this
          omega
        omega
      · have := e4 x hx; omega
/-- the number of the path with an index -/
theorem paths_numW (t : TX) {i : Nat} {l : List Int} (h : (t.plain.paths [])[i]? = some l) (hi : (i : Int) ≤ 9223372036854775807) : t.numW l = (i : Int) ∧ (∃ s, t.find l = some s) ∧ ∀ x ∈ l, 0 ≤ x ∧ x ≤ (t.plain.size : Int) := by
  obtain ⟨q, s, e1, e2, e3, e4⟩ := paths_num t [] i l h
  rw [List.nil_append] at e1
  subst e1
  refine ⟨?_, ⟨s, e2⟩, e4⟩
  rw [numW_some e2, e3]
  exact IntWalk.wrap64_in _ (by omega)
theorem paths_len_le (t : TX) : ∀ (P : List Int) (l : List Int), l ∈ t.plain.paths P → l.length ≤ P.length + t.plain.size := by
  induction t using TX.ind with
  | h t ih =>
  intro P l h
  obtain ⟨i, hi⟩ := List.mem_iff_getElem?.1 h
  rw [paths_plain] at hi
  cases i with
  | zero => simp at hi; subst hi; omega
  | succ i =>
    have h' : (T.pathss (t.kids.map TX.plain) P 0)[i]? = some l := by simpa using hi
    obtain ⟨j, k, i', h1, h2, h3⟩ := pathss_get _ _ _ _ _ h'
    have := ih k (List.mem_of_getElem? h1) _ l (List.mem_of_getElem? h3)
    have hsz := szs_le h1
    simp at this
    omega
end Go.Proofs.Ythaepakpeamajaa
