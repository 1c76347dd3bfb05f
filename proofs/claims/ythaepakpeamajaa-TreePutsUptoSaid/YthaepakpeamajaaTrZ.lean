/-
  What a node put at a path changes. No condition.
-/
import Derived.Test.YthaepakpeamajaaTrR
import Derived.Test.YthaepakpeamajaaTrY
namespace Go.Proofs.Ythaepakpeamajaa
open Go.RowKit
set_option linter.unusedVariables false

theorem T.eta (t : T) : t = .node t.kind t.text t.leads t.kids := by cases t; rfl
theorem T.size_eq (t : T) : t.size = 1 + T.sizes t.kids := by cases t; rw [T.size]; rfl
theorem T.find_cons {t s : T} {i : Int} {p : List Int} (h : t.find (i :: p) = some s) : 0 ≤ i ∧ i < t.kids.length ∧ ∃ k, t.kids[i.toNat]? = some k ∧ k.find p = some s := by
  rw [T.find] at h
  split at h
  · cases h
  · rename_i hc
    split at h
    · cases h
    · rename_i k hk
      exact ⟨by omega, by omega, k, hk, h⟩
theorem T.find_in {t k : T} {i : Int} {p : List Int} (h0 : 0 ≤ i) (h1 : i < t.kids.length) (hk : t.kids[i.toNat]? = some k) : t.find (i :: p) = k.find p := by
  rw [T.find, if_neg (by omega)]
  simp [hk]
theorem T.find_out {t : T} {i : Int} {p : List Int} (h : i < 0 ∨ (t.kids.length : Int) ≤ i) : t.find (i :: p) = none := by
  rw [T.find, if_pos h]
theorem T.repl_in {t k k' : T} {i : Int} {p : List Int} {u : T} (h0 : 0 ≤ i) (h1 : i < t.kids.length) (hk : t.kids[i.toNat]? = some k) (hr : k.repl p u = some k') : t.repl (i :: p) u = some (.node t.kind t.text t.leads (t.kids.set i.toNat k')) := by
  rw [T.repl, if_neg (by omega)]
  simp [hk, hr]
theorem sizes_set : ∀ (l : List T) (m : Nat) (k k' : T), l[m]? = some k → T.sizes (l.set m k') + k.size = T.sizes l + k'.size
  | [], m, k, k', h => by simp at h
  | x :: l, 0, k, k', h => by
    simp at h; subst h
    rw [List.set_cons_zero, T.sizes, T.sizes]; omega
  | x :: l, m + 1, k, k', h => by
    have := sizes_set l m k k' (by simpa using h)
    rw [List.set_cons_succ, T.sizes, T.sizes]; omega
/-- what was put is there, and the size changes by that of the subtree -/
theorem repl_some : ∀ (p : List Int) (t u old : T), t.find p = some old → ∃ x, t.repl p u = some x ∧ x.find p = some u ∧ x.size + old.size = t.size + u.size
  | [], t, u, old, h => by
    rw [T.find] at h
    injection h with h
    subst h
    exact ⟨u, by rw [T.repl], by rw [T.find], by omega⟩
  | i :: p, t, u, old, h => by
    obtain ⟨h0, h1, k, hk, hf⟩ := T.find_cons h
    obtain ⟨k', e1, e2, e3⟩ := repl_some p k u old hf
    have hkl := (List.getElem?_eq_some_iff.1 hk).1
    refine ⟨_, T.repl_in h0 h1 hk e1, ?_, ?_⟩
    · rw [T.find_in (k := k') h0 (by show i < ((t.kids.set i.toNat k').length : Int); rw [List.length_set]; exact h1) (by show (t.kids.set i.toNat k')[i.toNat]? = some k'; rw [List.getElem?_set, if_pos rfl, if_pos hkl])]
      exact e2
    · have := sizes_set t.kids i.toNat k k' hk
      rw [T.size, T.size_eq t]
      omega
/-- a path begins with another one -/
def starts (a b : List Int) : Prop := b.length ≤ a.length ∧ a.take b.length = b
/-- nodes elsewhere are as they were -/
theorem repl_other : ∀ (p q : List Int) (t u x : T), t.repl p u = some x → ¬ starts q p → ¬ starts p q → x.find q = t.find q
  | [], q, t, u, x, h, h1, h2 => absurd ⟨Nat.zero_le _, by simp⟩ h1
  | i :: p, [], t, u, x, h, h1, h2 => absurd ⟨Nat.zero_le _, by simp⟩ h2
  | i :: p, j :: q, t, u, x, h, h1, h2 => by
    rw [T.repl] at h
    split at h
    · cases h
    · rename_i hc
      split at h
      · cases h
      · rename_i k hk
        split at h
        · cases h
        · rename_i k' hr
          injection h with h
          subst h
          have hkl := (List.getElem?_eq_some_iff.1 hk).1
          by_cases hj : j < 0 ∨ (t.kids.length : Int) ≤ j
          · rw [T.find_out hj, T.find_out (by show j < 0 ∨ ((t.kids.set i.toNat k').length : Int) ≤ j; rw [List.length_set]; exact hj)]
          · obtain ⟨kj, hkj⟩ : ∃ k, t.kids[j.toNat]? = some k := ⟨_, List.getElem?_eq_getElem (by omega)⟩
            rw [T.find_in (by omega) (by omega) hkj]
            by_cases e : i = j
            · subst e
              rw [hk] at hkj
              injection hkj with hkj
              subst hkj
              rw [T.find_in (k := k') (by omega) (by show i < ((t.kids.set i.toNat k').length : Int); rw [List.length_set]; omega) (by show (t.kids.set i.toNat k')[i.toNat]? = some k'; rw [List.getElem?_set, if_pos rfl, if_pos hkl])]
              refine repl_other p q k u k' hr (fun h3 => h1 ⟨by have := h3.1; simp; exact this, by simp; exact h3.2⟩) (fun h3 => h2 ⟨by have := h3.1; simp; exact this, by simp; exact h3.2⟩)
            · rw [T.find_in (k := kj) (by omega) (by show j < ((t.kids.set i.toNat k').length : Int); rw [List.length_set]; omega) (by show (t.kids.set i.toNat k')[j.toNat]? = some kj; rw [List.getElem?_set, if_neg (by omega)]; exact hkj)]
end Go.Proofs.Ythaepakpeamajaa
