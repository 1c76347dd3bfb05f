/-
  Shortest augmenting paths, in plain terms: what is known between the rounds. No condition.
-/
import Derived.Test.YtgmhinmakomabaaAsK
namespace Go.Proofs.Ytgmhinmakomabaa
set_option linter.unusedVariables false

/-- rows before k have columns of their own, along tight elements -/
structure Ph (n k : Nat) (c : Nat → Nat → Int) (u v : Nat → Int) (to : Nat → Nat) (ow : Nat → Int) : Prop where
  lt : ∀ i, i < k → to i < n
  own : ∀ i, i < k → ow (to i) = i
  col : ∀ j, j < n → ow j = -1 ∨ ∃ i : Nat, i < k ∧ ow j = i ∧ to i = j
  feas : Feas n c u v
  tight : ∀ i, i < k → u i + v (to i) = c i (to i)
  vle : ∀ j, j < n → -(1048576 * (k : Int)) ≤ v j ∧ v j ≤ 0
  v0 : ∀ j, j < n → ow j = -1 → v j = 0
  u0 : ∀ i, k ≤ i → i < n → u i = 0
  kn : k ≤ n

/-- the rows that are reached -/
def Rch (k : Nat) (to : Nat → Nat) (d : Nat → Bool) (i : Nat) : Prop := i = k ∨ (i < k ∧ d (to i) = true)
instance (k : Nat) (to : Nat → Nat) (d : Nat → Bool) (i : Nat) : Decidable (Rch k to d i) := by unfold Rch; infer_instance
/-- within the search for a column of row k; D: how far it has come; m: how many columns are done, in the order ord -/
structure Gr (n k : Nat) (c : Nat → Nat → Int) (u v : Nat → Int) (to : Nat → Nat) (ow : Nat → Int) (d : Nat → Bool) (sl : Nat → Int) (fr : Nat → Nat) (ord : Nat → Nat) (m : Nat) (D : Int) : Prop where
  lt : ∀ i, i < k → to i < n
  own : ∀ i, i < k → ow (to i) = i
  col : ∀ j, j < n → ow j = -1 ∨ ∃ i : Nat, i < k ∧ ow j = i ∧ to i = j
  feas : Feas n c u v
  tight : ∀ i, i < k → u i + v (to i) = c i (to i)
  kn : k < n
  dn : ∀ j, j < n → d j = true → ow j ≠ -1
  vle : ∀ j, j < n → -(1048576 * (k : Int)) - D ≤ v j ∧ v j ≤ 0
  v0 : ∀ j, j < n → ow j = -1 → v j = 0
  u0 : ∀ i, k < i → i < n → u i = 0
  uk : u k = D
  D0 : 0 ≤ D
  slk : ∀ j, j < n → d j = false → Rch k to d (fr j) ∧ sl j = c (fr j) j - u (fr j) - v j ∧ ∀ i, Rch k to d i → sl j ≤ c i j - u i - v j
  free : ∀ j, j < n → ow j = -1 → sl j + D ≤ 1048576
  pth : ∀ j, j < n → d j = true → u (fr j) + v j = c (fr j) j ∧ (fr j = k ∨ (fr j < k ∧ d (to (fr j)) = true ∧ ord (to (fr j)) < ord j))
  ordm : ∀ j, j < n → d j = true → ord j < m

def CB (n : Nat) (c : Nat → Nat → Int) : Prop := ∀ i j, i < n → j < n → 0 ≤ c i j ∧ c i j ≤ 1048576

theorem Ph.start {n : Nat} {c : Nat → Nat → Int} (hc : CB n c) {u v : Nat → Int} {ow : Nat → Int} (hu : ∀ i, i < n → u i = 0) (hv : ∀ j, j < n → v j = 0) (ho : ∀ j, j < n → ow j = -1) (to : Nat → Nat) : Ph n 0 c u v to ow :=
  ⟨fun i h => absurd h (by omega), fun i h => absurd h (by omega), fun j h => .inl (ho j h), fun i j hi hj => by rw [hu i hi, hv j hj]; exact (hc i j hi hj).1, fun i h => absurd h (by omega),
    fun j h => by rw [hv j h]; omega, fun j h _ => hv j h, fun i _ h => hu i h, Nat.zero_le _⟩

section
variable {n k : Nat} {c : Nat → Nat → Int} {u v : Nat → Int} {to : Nat → Nat} {ow : Nat → Int}
theorem Ph.ub (h : Ph n k c u v to ow) (hc : CB n c) {i : Nat} (hi : i < n) : 0 ≤ u i ∧ u i ≤ 1048576 * ((k : Int) + 1) := by
  rcases Nat.lt_or_ge i k with h1 | h1
  · have h2 := h.tight i h1
    have h3 := h.vle (to i) (h.lt i h1)
    have h4 := hc i (to i) hi (h.lt i h1)
    omega
  · rw [h.u0 i h1 hi]; omega
/-- all rows have columns -/
theorem Ph.done (h : Ph n n c u v to ow) : Perfect n to ∧ Tight n c u v to :=
  ⟨⟨h.lt, fun i j hi hj e => by
    have h1 := h.own i hi
    have h2 := h.own j hj
    rw [e, h2] at h1
    omega⟩, h.tight⟩
theorem Ph.free (h : Ph n k c u v to ow) (hk : k < n) : ∃ j, j < n ∧ ow j = -1 := by
  refine Classical.byContradiction fun hne => ?_
  have hall : ∀ j, j < n → ∃ i : Nat, i < k ∧ ow j = i ∧ to i = j := fun j hj => (h.col j hj).resolve_left fun e => hne ⟨j, hj, e⟩
  have h1 := nodup_le (l := (List.range n).map fun j => (ow j).toNat) (m := List.range k)
    (nodup_map List.nodup_range fun x hx y hy e => by
      obtain ⟨i, _, a, b⟩ := hall x (List.mem_range.1 hx)
      obtain ⟨i', _, a', b'⟩ := hall y (List.mem_range.1 hy)
      rw [a, a'] at e
      have : i = i' := by omega
      rw [← b, ← b', this])
    (fun x hx => by
      obtain ⟨j, hj, rfl⟩ := List.mem_map.1 hx
      obtain ⟨i, hi, a, _⟩ := hall j (List.mem_range.1 hj)
      rw [a]
      exact List.mem_range.2 (by omega))
  simp at h1
  omega
/-- the search for row k begins -/
theorem Ph.enter (h : Ph n k c u v to ow) (hk : k < n) (hc : CB n c) {d : Nat → Bool} {sl : Nat → Int} {fr : Nat → Nat} (hd : ∀ j, j < n → d j = false) (hs : ∀ j, j < n → sl j = c k j - u k - v j) (hf : ∀ j, j < n → fr j = k) (ord : Nat → Nat) :
    Gr n k c u v to ow d sl fr ord 0 0 := by
  have hR : ∀ i, Rch k to d i → i = k := fun i hi => by
    rcases hi with hi | ⟨h1, h2⟩
    · exact hi
    · rw [hd _ (h.lt i h1)] at h2; cases h2
  refine ⟨h.lt, h.own, h.col, h.feas, h.tight, hk, fun j hj hj2 => (by rw [hd j hj] at hj2; cases hj2), fun j hj => (by have := h.vle j hj; omega), h.v0, fun i h1 h2 => h.u0 i (by omega) h2, h.u0 k (Nat.le_refl _) hk, Int.le_refl _,
    fun j hj _ => ⟨.inl (hf j hj), by rw [hs j hj, hf j hj], fun i hi => (by rw [hR i hi, hs j hj]; exact Int.le_refl _)⟩, fun j hj ho => ?_, fun j hj hj2 => (by rw [hd j hj] at hj2; cases hj2), fun j hj hj2 => (by rw [hd j hj] at hj2; cases hj2)⟩
  rw [hs j hj, h.u0 k (Nat.le_refl _) hk, h.v0 j hj ho]
  have := (hc k j hk hj).2
  omega
end

section
variable {n k m : Nat} {c : Nat → Nat → Int} {u v : Nat → Int} {to : Nat → Nat} {ow : Nat → Int} {d : Nat → Bool} {sl : Nat → Int} {fr ord : Nat → Nat} {D : Int}
theorem Gr.phk (h : Gr n k c u v to ow d sl fr ord m D) : ∃ j, j < n ∧ ow j = -1 := by
  refine Classical.byContradiction fun hne => ?_
  have hall : ∀ j, j < n → ∃ i : Nat, i < k ∧ ow j = i ∧ to i = j := fun j hj => (h.col j hj).resolve_left fun e => hne ⟨j, hj, e⟩
  have hk := h.kn
  have h1 := nodup_le (l := (List.range n).map fun j => (ow j).toNat) (m := List.range k)
    (nodup_map List.nodup_range fun x hx y hy e => by
      obtain ⟨i, _, a, b⟩ := hall x (List.mem_range.1 hx)
      obtain ⟨i', _, a', b'⟩ := hall y (List.mem_range.1 hy)
      rw [a, a'] at e
      have : i = i' := by omega
      rw [← b, ← b', this])
    (fun x hx => by
      obtain ⟨j, hj, rfl⟩ := List.mem_map.1 hx
      obtain ⟨i, hi, a, _⟩ := hall j (List.mem_range.1 hj)
      rw [a]
      exact List.mem_range.2 (by omega))
  simp at h1
  omega
theorem Gr.rlt (h : Gr n k c u v to ow d sl fr ord m D) {i : Nat} (hi : Rch k to d i) : i < n := by
  have := h.kn
  rcases hi with hi | hi
  · omega
  · have := hi.1; omega
theorem Gr.sl0 (h : Gr n k c u v to ow d sl fr ord m D) {j : Nat} (hj : j < n) (hd : d j = false) : 0 ≤ sl j := by
  obtain ⟨h1, h2, _⟩ := h.slk j hj hd
  have := h.feas (fr j) j (h.rlt h1) hj
  omega
theorem Gr.free_nd (h : Gr n k c u v to ow d sl fr ord m D) {j : Nat} (hj : j < n) (ho : ow j = -1) : d j = false := by
  cases hd : d j with
  | false => rfl
  | true => exact (h.dn j hj hd ho).elim
theorem Gr.Dle (h : Gr n k c u v to ow d sl fr ord m D) : D ≤ 1048576 := by
  obtain ⟨j, hj, ho⟩ := h.phk
  have := h.sl0 hj (h.free_nd hj ho)
  have := h.free j hj ho
  omega
theorem Gr.some_nd (h : Gr n k c u v to ow d sl fr ord m D) : ∃ j, j < n ∧ d j = false := by
  obtain ⟨j, hj, ho⟩ := h.phk
  exact ⟨j, hj, h.free_nd hj ho⟩
theorem Gr.ub (h : Gr n k c u v to ow d sl fr ord m D) (hc : CB n c) {i : Nat} (hi : i < n) : 0 ≤ u i ∧ u i ≤ 1048576 * ((k : Int) + 2) := by
  have hD := h.Dle
  have hD0 := h.D0
  rcases Nat.lt_trichotomy i k with h1 | h1 | h1
  · have h2 := h.tight i h1
    have h3 := h.vle (to i) (h.lt i h1)
    have h4 := hc i (to i) hi (h.lt i h1)
    omega
  · subst h1; rw [h.uk]; omega
  · rw [h.u0 i h1 hi]; omega
theorem Gr.vb (h : Gr n k c u v to ow d sl fr ord m D) {j : Nat} (hj : j < n) : -(1048576 * ((k : Int) + 1)) ≤ v j ∧ v j ≤ 0 := by
  have hD := h.Dle
  have := h.vle j hj
  omega
theorem Gr.slb (h : Gr n k c u v to ow d sl fr ord m D) (hc : CB n c) {j : Nat} (hj : j < n) (hd : d j = false) : 0 ≤ sl j ∧ sl j ≤ 1048576 * ((k : Int) + 2) := by
  refine ⟨h.sl0 hj hd, ?_⟩
  have h1 := (h.slk j hj hd).2.2 k (.inl rfl)
  have h2 := h.vb hj
  have h3 := hc k j h.kn hj
  have h4 := h.uk
  have h5 := h.D0
  omega

/-- the search goes on to the nearest column -/
theorem Gr.step (h : Gr n k c u v to ow d sl fr ord m D) {x : Nat} (hx : x < n) (hd : d x = false) (hmin : ∀ j, j < n → d j = false → sl x ≤ sl j)
    {u' v' sl' : Nat → Int} (hu : ∀ i, i < n → u' i = u i + if Rch k to d i then sl x else 0) (hv : ∀ j, j < n → v' j = v j - if d j = true then sl x else 0) (hs : ∀ j, j < n → d j = false → sl' j = sl j - sl x) :
    Gr n k c u' v' to ow d sl' fr ord m (D + sl x) ∧ sl' x = 0 := by
  have h0 := h.sl0 hx hd
  have hkn := h.kn
  have hRk : Rch k to d k := .inl rfl
  have hRd : ∀ i, i < k → (Rch k to d i ↔ d (to i) = true) := fun i hi => ⟨fun hr => (hr.resolve_left (by omega)).2, fun hd => .inr ⟨hi, hd⟩⟩
  have hpR : ∀ j, j < n → d j = true → Rch k to d (fr j) := fun j hj hdj => by
    rcases (h.pth j hj hdj).2 with h1 | ⟨h1, h2, _⟩
    · exact .inl h1
    · exact .inr ⟨h1, h2⟩
  refine ⟨⟨h.lt, h.own, h.col, fun i j hi hj => ?_, fun i hi => ?_, hkn, h.dn, fun j hj => ?_, fun j hj ho => ?_, fun i h1 h2 => ?_, ?_, ?_, fun j hj hdj => ?_, fun j hj ho => ?_, fun j hj hdj => ?_, h.ordm⟩, ?_⟩
  · have h1 := h.feas i j hi hj
    rw [hu i hi, hv j hj]
    cases hdj : d j with
    | true =>
      by_cases hr : Rch k to d i
      · rw [if_pos hr, if_pos rfl]; omega
      · rw [if_neg hr, if_pos rfl]; omega
    | false =>
      by_cases hr : Rch k to d i
      · have h2 := (h.slk j hj hdj).2.2 i hr
        have h3 := hmin j hj hdj
        rw [if_pos hr, if_neg (by simp)]; omega
      · rw [if_neg hr, if_neg (by simp)]; omega
  · rw [hu i (by omega), hv _ (h.lt i hi)]
    have h1 := h.tight i hi
    by_cases hr : d (to i) = true
    · rw [if_pos ((hRd i hi).2 hr), if_pos hr]; omega
    · rw [if_neg (fun e => hr ((hRd i hi).1 e)), if_neg hr]; omega
  · have h1 := h.vle j hj
    rw [hv j hj]
    split <;> omega
  · rw [hv j hj, h.free_nd hj ho, h.v0 j hj ho]; simp
  · rw [hu i h2, h.u0 i h1 h2, if_neg]
    · rfl
    · rintro (e | e)
      · omega
      · have := e.1; omega
  · rw [hu k hkn, if_pos hRk, h.uk]
  · have := h.D0; omega
  · obtain ⟨h1, h2, h3⟩ := h.slk j hj hdj
    refine ⟨h1, ?_, fun i hi => ?_⟩
    · rw [hs j hj hdj, hu _ (h.rlt h1), if_pos h1, hv j hj, hdj, h2]; simp; omega
    · have := h3 i hi
      rw [hs j hj hdj, hu _ (h.rlt hi), if_pos hi, hv j hj, hdj]; simp; omega
  · have := h.free j hj ho
    rw [hs j hj (h.free_nd hj ho)]; omega
  · obtain ⟨h1, h2⟩ := h.pth j hj hdj
    refine ⟨?_, h2⟩
    rw [hu _ (h.rlt (hpR j hj hdj)), if_pos (hpR j hj hdj), hv j hj, if_pos hdj]
    omega
  · rw [hs x hx hd]; omega

/-- the nearest column is owned: its row is reached -/
theorem Gr.more (h : Gr n k c u v to ow d sl fr ord m D) {x r : Nat} (hx : x < n) (hd : d x = false) (h0 : sl x = 0) (hr : ow x = (r : Int)) {d' : Nat → Bool} {sl' : Nat → Int} {fr' : Nat → Nat}
    (hd' : ∀ j, j < n → d' j = upd d x true j) (hs : ∀ j, j < n → d' j = false → (c r j - u r - v j < sl j ∧ sl' j = c r j - u r - v j ∧ fr' j = r) ∨ (sl j ≤ c r j - u r - v j ∧ sl' j = sl j ∧ fr' j = fr j)) (hf : ∀ j, j < n → d' j = true → fr' j = fr j) :
    Gr n k c u v to ow d' sl' fr' (upd ord x m) (m + 1) D ∧ r < k ∧ to r = x := by
  obtain ⟨hrk, htr⟩ : r < k ∧ to r = x := by
    rcases h.col x hx with h1 | ⟨i, h1, h2, h3⟩
    · omega
    · obtain rfl : i = r := by omega
      exact ⟨h1, h3⟩
  have hkn := h.kn
  have hdx : d' x = true := by rw [hd' x hx, upd_same]
  have hold : ∀ j, j < n → d j = true → d' j = true := fun j hj hdj => by
    rw [hd' j hj]
    by_cases e : j = x
    · subst e; exact upd_same _ _ _
    · rw [upd_ne _ _ e]; exact hdj
  have hnew : ∀ j, j < n → j ≠ x → d' j = d j := fun j hj e => by rw [hd' j hj, upd_ne _ _ e]
  have hR : ∀ i, Rch k to d' i ↔ Rch k to d i ∨ i = r := fun i => by
    constructor
    · rintro (e | ⟨h1, h2⟩)
      · exact .inl (.inl e)
      · by_cases e : to i = x
        · refine .inr ?_
          have a := h.own i h1
          have b := h.own r hrk
          rw [e] at a
          rw [htr] at b
          omega
        · exact .inl (.inr ⟨h1, by rw [← hnew _ (h.lt i h1) e]; exact h2⟩)
    · rintro ((e | ⟨h1, h2⟩) | e)
      · exact .inl e
      · exact .inr ⟨h1, hold _ (h.lt i h1) h2⟩
      · subst e
        exact .inr ⟨hrk, by rw [htr]; exact hdx⟩
  have hnd : ∀ j, j < n → d' j = false → d j = false ∧ j ≠ x := fun j hj hdj => by
    have hne : j ≠ x := fun e => by subst e; rw [hdx] at hdj; cases hdj
    exact ⟨by rw [← hnew j hj hne]; exact hdj, hne⟩
  refine ⟨⟨h.lt, h.own, h.col, h.feas, h.tight, hkn, fun j hj hdj => ?_, h.vle, h.v0, h.u0, h.uk, h.D0, fun j hj hdj => ?_, fun j hj ho => ?_, fun j hj hdj => ?_, fun j hj hdj => ?_⟩, hrk, htr⟩
  · by_cases e : j = x
    · subst e; omega
    · exact h.dn j hj (by rw [← hnew j hj e]; exact hdj)
  · obtain ⟨hdj2, hne⟩ := hnd j hj hdj
    obtain ⟨h1, h2, h3⟩ := h.slk j hj hdj2
    rcases hs j hj hdj with ⟨a, b, e⟩ | ⟨a, b, e⟩
    · rw [b, e]
      refine ⟨(hR r).2 (.inr rfl), rfl, fun i hi => ?_⟩
      rcases (hR i).1 hi with hi | rfl
      · have := h3 i hi; omega
      · exact Int.le_refl _
    · rw [b, e]
      refine ⟨(hR _).2 (.inl h1), h2, fun i hi => ?_⟩
      rcases (hR i).1 hi with hi | rfl
      · exact h3 i hi
      · exact a
  · have hdj : d' j = false := by
      rw [hnew j hj (fun e => by subst e; omega)]
      exact h.free_nd hj ho
    have := h.free j hj ho
    rcases hs j hj hdj with ⟨a, b, e⟩ | ⟨a, b, e⟩ <;> omega
  · rw [hf j hj hdj]
    by_cases e : j = x
    · subst e
      obtain ⟨h1, h2, _⟩ := h.slk j hj hd
      refine ⟨by omega, ?_⟩
      rcases h1 with h1 | ⟨h1, h3⟩
      · exact .inl h1
      · refine .inr ⟨h1, hold _ (h.lt _ h1) h3, ?_⟩
        have hne : to (fr j) ≠ j := fun e => by rw [e, hd] at h3; cases h3
        rw [upd_ne _ _ hne, upd_same]
        exact h.ordm _ (h.lt _ h1) h3
    · have hdj2 : d j = true := by rw [← hnew j hj e]; exact hdj
      obtain ⟨h1, h2⟩ := h.pth j hj hdj2
      refine ⟨h1, ?_⟩
      rcases h2 with h2 | ⟨h2, h3, h4⟩
      · exact .inl h2
      · have hne : to (fr j) ≠ x := fun e => by rw [e, hd] at h3; cases h3
        refine .inr ⟨h2, hold _ (h.lt _ h2) h3, ?_⟩
        rw [upd_ne _ _ hne, upd_ne _ _ e]
        exact h4
  · by_cases e : j = x
    · subst e; rw [upd_same]; omega
    · rw [upd_ne _ _ e]
      have := h.ordm j hj (by rw [← hnew j hj e]; exact hdj)
      omega
end

/-- the way back from a free column: column x is to be given to the row that it was reached from -/
structure Tn (n k : Nat) (c : Nat → Nat → Int) (u v : Nat → Int) (to : Nat → Nat) (ow : Nat → Int) (d : Nat → Bool) (fr ord : Nat → Nat) (x l : Nat) (to' : Nat → Nat) (ow' : Nat → Int) : Prop where
  xn : x < n
  lt : ∀ i, i < k → to' i < n
  tight : ∀ i, i < k → u i + v (to' i) = c i (to' i)
  own : ∀ i, i < k → ow' (to' i) = i
  nx : ∀ i, i < k → to' i ≠ x
  col : ∀ j, j < n → j ≠ x → ow' j = -1 ∨ ∃ i : Nat, i < k ∧ ow' j = i ∧ to' i = j
  tx : u (fr x) + v x = c (fr x) x
  px : fr x = k ∨ (fr x < k ∧ d (to (fr x)) = true ∧ ord (to (fr x)) < l)
  same : ∀ j, j < n → d j = true → ord j < l → ow' j = ow j ∧ ∀ i, i < k → to i = j → to' i = j
  sub : ∀ j, j < n → ow' j = -1 → ow j = -1
section
variable {n k m l x : Nat} {c : Nat → Nat → Int} {u v : Nat → Int} {to to' : Nat → Nat} {ow ow' : Nat → Int} {d : Nat → Bool} {sl : Nat → Int} {fr ord : Nat → Nat} {D : Int}
theorem Gr.turn (h : Gr n k c u v to ow d sl fr ord m D) (hx : x < n) (h0 : sl x = 0) (ho : ow x = -1) : Tn n k c u v to ow d fr ord x m to ow := by
  have hd := h.free_nd hx ho
  obtain ⟨h1, h2, _⟩ := h.slk x hx hd
  refine ⟨hx, h.lt, h.tight, h.own, fun i hi e => ?_, fun j hj _ => h.col j hj, by omega, ?_, fun j _ _ _ => ⟨rfl, fun i _ e => e⟩, fun j _ e => e⟩
  · have := h.own i hi
    rw [e] at this
    omega
  · rcases h1 with h1 | ⟨h1, h3⟩
    · exact .inl h1
    · exact .inr ⟨h1, h3, h.ordm _ (h.lt _ h1) h3⟩
/-- the way back has come to row k -/
theorem Tn.last (t : Tn n k c u v to ow d fr ord x l to' ow') (h : Gr n k c u v to ow d sl fr ord m D) (hk : fr x = k) : Ph n (k + 1) c u v (upd to' k x) (upd ow' x k) := by
  have hD := h.Dle
  have e1 : ∀ i, i < k → upd to' k x i = to' i := fun i hi => upd_ne _ _ (by omega)
  refine ⟨fun i hi => ?_, fun i hi => ?_, fun j hj => ?_, h.feas, fun i hi => ?_, fun j hj => ?_, fun j hj ho => ?_, fun i h1 h2 => h.u0 i (by omega) h2, h.kn⟩
  · by_cases e : i = k
    · subst e; rw [upd_same]; exact t.xn
    · rw [e1 i (by omega)]; exact t.lt i (by omega)
  · by_cases e : i = k
    · subst e; rw [upd_same, upd_same]
    · rw [e1 i (by omega), upd_ne _ _ (t.nx i (by omega))]; exact t.own i (by omega)
  · by_cases e : j = x
    · subst e
      exact .inr ⟨k, by omega, upd_same _ _ _, upd_same _ _ _⟩
    · rw [upd_ne _ _ e]
      rcases t.col j hj e with h1 | ⟨i, h1, h2, h3⟩
      · exact .inl h1
      · exact .inr ⟨i, by omega, h2, by rw [e1 i h1]; exact h3⟩
  · by_cases e : i = k
    · subst e; rw [upd_same]
      have := t.tx
      rw [hk] at this
      exact this
    · rw [e1 i (by omega)]; exact t.tight i (by omega)
  · have := h.vle j hj
    rw [show ((k + 1 : Nat) : Int) = (k : Int) + 1 by omega]
    omega
  · by_cases e : j = x
    · subst e; rw [upd_same] at ho; omega
    · rw [upd_ne _ _ e] at ho
      exact h.v0 j hj (t.sub j hj ho)
/-- .. to another row: its column is free now -/
theorem Tn.back (t : Tn n k c u v to ow d fr ord x l to' ow') (h : Gr n k c u v to ow d sl fr ord m D) (hk : fr x ≠ k) :
    fr x < k ∧ to' (fr x) = to (fr x) ∧ ord (to (fr x)) < l ∧ Tn n k c u v to ow d fr ord (to (fr x)) (ord (to (fr x))) (upd to' (fr x) x) (upd ow' x (fr x)) := by
  obtain ⟨hr, hdy, hoy⟩ := t.px.resolve_left hk
  have hy := h.lt _ hr
  obtain ⟨s1, s2⟩ := t.same _ hy hdy hoy
  have hty := s2 _ hr rfl
  have hxy : to (fr x) ≠ x := fun e => t.nx _ hr (hty.trans e)
  obtain ⟨p1, p2⟩ := h.pth _ hy hdy
  have hinj : ∀ i, i < k → to' i = to (fr x) → i = fr x := fun i hi e => by
    have a := t.own i hi
    have b := t.own _ hr
    rw [e] at a
    rw [hty] at b
    omega
  refine ⟨hr, hty, hoy, ⟨hy, fun i hi => ?_, fun i hi => ?_, fun i hi => ?_, fun i hi => ?_, fun j hj hj2 => ?_, p1, p2, fun j hj hdj hoj => ?_, fun j hj ho => ?_⟩⟩
  · by_cases e : i = fr x
    · rw [e, upd_same]; exact t.xn
    · rw [upd_ne _ _ e]; exact t.lt i hi
  · by_cases e : i = fr x
    · rw [e, upd_same]; exact t.tx
    · rw [upd_ne _ _ e]; exact t.tight i hi
  · by_cases e : i = fr x
    · rw [e, upd_same, upd_same]
    · rw [upd_ne _ _ e, upd_ne _ _ (t.nx i hi)]; exact t.own i hi
  · by_cases e : i = fr x
    · rw [e, upd_same]; exact fun e => hxy e.symm
    · rw [upd_ne _ _ e]; exact fun e2 => e (hinj i hi e2)
  · by_cases e : j = x
    · subst e
      exact .inr ⟨fr j, hr, upd_same _ _ _, upd_same _ _ _⟩
    · rw [upd_ne _ _ e]
      rcases t.col j hj e with h1 | ⟨i, h1, h2, h3⟩
      · exact .inl h1
      · refine .inr ⟨i, h1, h2, ?_⟩
        rw [upd_ne _ _ (fun e2 => hj2 (by rw [← h3, e2, hty]))]
        exact h3
  · obtain ⟨a, b⟩ := t.same j hj hdj (by omega)
    have hjx : j ≠ x := fun e => by
      subst e
      have hd2 : ow' j = ow j := a
      obtain ⟨i, h1, h2, h3⟩ := (h.col j hj).resolve_left (h.dn j hj hdj)
      exact t.nx i h1 (b i h1 h3)
    refine ⟨by rw [upd_ne _ _ hjx]; exact a, fun i hi hij => ?_⟩
    rw [upd_ne _ _ (fun e => ?_)]
    · exact b i hi hij
    · subst e
      rw [hij] at hoj
      omega
  · by_cases e : j = x
    · subst e; rw [upd_same] at ho; omega
    · rw [upd_ne _ _ e] at ho
      exact t.sub j hj ho
end
end Go.Proofs.Ytgmhinmakomabaa
