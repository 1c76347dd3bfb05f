/-
  Several rows of one's own, in blocks of their own. No condition.
-/
import Derived.Test.YtdabmjcpiblofaaDoorRow
namespace Go.Proofs.YtdabmjcpiblofaaDoor
open Go.RowKit
set_option linter.unusedVariables false
/-- rows of elements of one cell, each in a block of its own -/
structure Own (w : World) (base : Nat) (e : TypeId) (vs : List (Value × List Value)) : Prop where
  own : ∀ (k : Nat) p, vs[k]? = some p → w.ownsRow base e 1 p.1 p.2.length p.2
  sep : ∀ (i j : Nat) p q (g : Nat), i ≠ j → vs[i]? = some p → vs[j]? = some q → p.1.ownBlock = some g → q.1.ownBlock ≠ some g
section
variable {w w' : World} {base : Nat} {e : TypeId} {vs : List (Value × List Value)}
theorem owns_nil (w : World) (base : Nat) (e : TypeId) : w.ownsRow base e 1 (.slice none 0 0) 0 [] := ⟨rfl, .inl ⟨rfl, rfl⟩⟩
theorem own_lt {size n : Nat} {v : Value} {xs : List Value} (h : w.ownsRow base e size v n xs) : ∀ g, v.ownBlock = some g → g < w.heap.size := fun g hg => by
  rcases h.2 with ⟨rfl, _⟩ | ⟨g', cap, cur, rfl, hb, hh, _⟩
  · simp [Value.ownBlock] at hg
  · have : g' = g := by simpa [Value.ownBlock] using hg
    subst this
    rcases Nat.lt_or_ge g' w.heap.size with h1 | h1
    · exact h1
    · rw [Array.getElem?_eq_none h1] at hh; cases hh
theorem own_from {size n : Nat} {v : Value} {xs : List Value} (h : w.ownsRow base e size v n xs) : ∀ g, v.ownBlock = some g → base ≤ g := fun g hg => by
  rcases h.2 with ⟨rfl, _⟩ | ⟨g', cap, cur, rfl, hb, _⟩
  · simp [Value.ownBlock] at hg
  · have : g' = g := by simpa [Value.ownBlock] using hg
    omega
theorem Own.start (w : World) (base : Nat) (e : TypeId) (n : Nat) : Own w base e (List.replicate n (.slice none 0 0, [])) :=
  ⟨fun k p h => by
    obtain ⟨hk, rfl⟩ := List.getElem?_eq_some_iff.1 h
    simp only [List.getElem_replicate]
    exact owns_nil w base e, fun i j p q g _ h _ hg => by
    obtain ⟨hk, rfl⟩ := List.getElem?_eq_some_iff.1 h
    simp [Value.ownBlock] at hg⟩
/-- other blocks are written, or made -/
theorem Own.grown (h : Own w base e vs) {row : Option Nat} (hg : w.grownBy w' row) (hr : ∀ (k : Nat) (p : Value × List Value) (g : Nat), vs[k]? = some p → p.1.ownBlock = some g → row ≠ some g) : Own w' base e vs :=
  ⟨fun k p hk => (h.own k p hk).kept hg (by
    cases hb : p.1.ownBlock with
    | none => exact .inl rfl
    | some g => exact .inr (fun e => hr k p g hk hb e.symm)), h.sep⟩
theorem Own.alloc (h : Own w base e vs) (o : Obj) : Own (w.alloc o) base e vs := ⟨fun k p hk => (h.own k p hk).alloc o, h.sep⟩
theorem Own.drewN (h : Own w base e vs) (n : Nat) : Own (w.drewN n) base e vs := ⟨fun k p hk => h.own k p hk, h.sep⟩
theorem Own.drew (h : Own w base e vs) : Own w.drew base e vs := ⟨fun k p hk => h.own k p hk, h.sep⟩
/-- a block of another element type is written -/
theorem Own.blk (h : Own w base e vs) {g : Nat} {t : TypeId} {cs : Array Value} (hb : Blk w g t cs) (hne : e ≠ t) (hg : w.grownBy w' (some g)) : Own w' base e vs :=
  h.grown hg fun k p g' hk hp e' => by
    injection e' with e'
    subst e'
    exact own_blk_ne (h.own k p hk) hb hne hp
/-- one of them has grown -/
theorem Own.push (h : Own w base e vs) {k : Nat} {v v' : Value} {xs xs' : List Value} (hk : vs[k]? = some (v, xs)) (hg : Grows w w' v v') (ho : w'.ownsRow base e 1 v' xs'.length xs') : Own w' base e (vs.set k (v', xs')) := by
  have hk' := (List.getElem?_eq_some_iff.1 hk).1
  have old : ∀ (j : Nat) p, j ≠ k → vs[j]? = some p → ∀ g, p.1.ownBlock = some g → v'.ownBlock ≠ some g := fun j p hj hp g hpg hv => by
    rcases hg.own g hv with h1 | h1
    · exact h.sep j k p (v, xs) g hj hp hk hpg h1
    · have := own_lt (h.own j p hp) g hpg
      omega
  refine ⟨fun j p hj => ?_, fun i j p q g hij hi hj hpg hqg => ?_⟩
  · rw [List.getElem?_set] at hj
    by_cases e1 : k = j
    · rw [if_pos e1, if_pos (by omega)] at hj
      injection hj with hj
      subst hj
      exact ho
    · rw [if_neg e1] at hj
      refine owns_grows (h.own j p hj) hg ?_
      cases hb : p.1.ownBlock with
      | none => exact .inl rfl
      | some g => exact .inr (fun e2 => h.sep j k p (v, xs) g (fun e3 => e1 e3.symm) hj hk hb e2.symm)
  · rw [List.getElem?_set] at hi hj
    by_cases e1 : k = i
    · subst e1
      rw [if_pos rfl, if_pos (by omega)] at hi
      injection hi with hi
      subst hi
      rw [if_neg hij] at hj
      exact old j q (fun e => hij e.symm) hj g hqg hpg
    · rw [if_neg e1] at hi
      by_cases e2 : k = j
      · subst e2
        rw [if_pos rfl, if_pos (by omega)] at hj
        injection hj with hj
        subst hj
        exact old i p (fun e => hij e) hi g hpg hqg
      · rw [if_neg e2] at hj
        exact h.sep i j p q g hij hi hj hpg hqg
end
end Go.Proofs.YtdabmjcpiblofaaDoor
