/-
  Alternating paths, in plain terms: a search that finds a column for a row, or shows that there is none. No condition.
-/
import Derived.Test.YtgmhinmakomabaaAsM
namespace Go.Proofs.Ytgmhinmakomabaa
set_option linter.unusedVariables false

def cnt (s : Nat → Bool) : Nat → Nat
  | 0 => 0
  | k + 1 => cnt s k + if s k then 1 else 0
theorem cnt_le (s : Nat → Bool) : ∀ n, cnt s n ≤ n
  | 0 => Nat.le_refl _
  | n + 1 => by
    have := cnt_le s n
    show cnt s n + (if s n then 1 else 0) ≤ n + 1
    split <;> omega
theorem cnt_mono {s t : Nat → Bool} : ∀ {n : Nat}, (∀ x, x < n → s x = true → t x = true) → cnt s n ≤ cnt t n
  | 0, _ => Nat.le_refl _
  | n + 1, h => by
    have h1 := cnt_mono (n := n) fun x hx => h x (by omega)
    have h2 := h n (by omega)
    show cnt s n + (if s n then 1 else 0) ≤ cnt t n + (if t n then 1 else 0)
    cases hs : s n
    · simp; omega
    · simp [h2 hs]; exact h1
theorem cnt_congr {s t : Nat → Bool} : ∀ {n : Nat}, (∀ x, x < n → s x = t x) → cnt s n = cnt t n
  | 0, _ => rfl
  | n + 1, h => by
    show cnt s n + (if s n then 1 else 0) = cnt t n + (if t n then 1 else 0)
    rw [cnt_congr (n := n) fun x hx => h x (by omega), h n (by omega)]
theorem cnt_upd {s : Nat → Bool} {j : Nat} (hj : s j = false) : ∀ {n : Nat}, j < n → cnt (upd s j true) n = cnt s n + 1
  | 0, h => absurd h (by omega)
  | n + 1, h => by
    show cnt (upd s j true) n + (if upd s j true n then 1 else 0) = cnt s n + (if s n then 1 else 0) + 1
    by_cases e : j = n
    · subst e
      rw [upd_same, cnt_congr (t := s) fun x hx => upd_ne s true (by omega), hj]
      simp
    · rw [upd_ne s true (by omega : n ≠ j), cnt_upd hj (n := n) (by omega)]
      omega
theorem cnt_lt {s : Nat → Bool} {j n : Nat} (hj : s j = false) (h : j < n) : cnt s n < n := by
  have := cnt_upd hj h
  have := cnt_le (upd s j true) n
  omega

/-- rows A have columns: to is the column of a row, ow the row of a column (-1: none) -/
structure Mt (n : Nat) (E : Nat → Nat → Prop) (C A : Nat → Prop) (to : Nat → Nat) (ow : Nat → Int) : Prop where
  lt : ∀ r, A r → r < n ∧ to r < n
  e : ∀ r, A r → E r (to r) ∧ C (to r)
  own : ∀ r, A r → ow (to r) = r
  col : ∀ x, x < n → C x → ow x = -1 ∨ ∃ r : Nat, A r ∧ ow x = r ∧ to r = x

/-- a column was found for row i -/
structure Found (n : Nat) (E : Nat → Nat → Prop) (C A : Nat → Prop) (to : Nat → Nat) (ow : Nat → Int) (seen : Nat → Bool) (i : Nat) (to' : Nat → Nat) (ow' : Nat → Int) : Prop where
  lt : ∀ r, A r ∨ r = i → to' r < n
  e : ∀ r, A r ∨ r = i → E r (to' r) ∧ C (to' r)
  own : ∀ r, A r ∨ r = i → ow' (to' r) = r
  new : seen (to' i) = false
  old : ∀ x, seen x = true → ow' x = ow x
  col : ∀ x, x < n → C x → seen x = false → ow' x = -1 ∨ ∃ r : Nat, (A r ∨ r = i) ∧ ow' x = r ∧ to' r = x
  keep : ∀ r, A r → r ≠ i → seen (to r) = true → to' r = to r
  other : ∀ r, ¬ A r → r ≠ i → to' r = to r
  out : ∀ x, ¬ C x → ow' x = ow x

section
variable {n : Nat} {E : Nat → Nat → Prop} {C A : Nat → Prop} {to : Nat → Nat} {ow : Nat → Int} {seen : Nat → Bool} {i j : Nat}
theorem Mt.take (h : Mt n E C A to ow) (hi : A i → seen (to i) = true) (hj : j < n) (hc : C j) (he : E i j) (hs : seen j = false) (hf : ow j = -1) :
    Found n E C A to ow seen i (upd to i j) (upd ow j i) := by
  refine ⟨fun r hr => ?_, fun r hr => ?_, fun r hr => ?_, by rw [upd_same]; exact hs, fun x hx => ?_, fun x hx hcx hsx => ?_, fun r hr hne _ => upd_ne _ _ hne, fun r _ hne => upd_ne _ _ hne, fun x hx => upd_ne _ _ (fun e => by subst e; exact hx hc)⟩
  · by_cases e : r = i
    · subst e; rw [upd_same]; exact hj
    · rw [upd_ne _ _ e]; exact (h.lt r (hr.resolve_right e)).2
  · by_cases e : r = i
    · subst e; rw [upd_same]; exact ⟨he, hc⟩
    · rw [upd_ne _ _ e]; exact h.e r (hr.resolve_right e)
  · by_cases e : r = i
    · subst e; rw [upd_same, upd_same]
    · have hA : A r := hr.resolve_right e
      rw [upd_ne _ _ e]
      have h1 := h.own r hA
      rw [upd_ne _ _ (fun e2 => by rw [e2, hf] at h1; omega)]
      exact h1
  · exact upd_ne _ _ (fun e => by rw [e, hs] at hx; cases hx)
  · by_cases e : x = j
    · subst e
      exact .inr ⟨i, .inr rfl, upd_same _ _ _, upd_same _ _ _⟩
    · rw [upd_ne _ _ e]
      rcases h.col x hx hcx with h1 | ⟨r, hr, h1, h2⟩
      · exact .inl h1
      · refine .inr ⟨r, .inl hr, h1, ?_⟩
        rw [upd_ne _ _ (fun e2 => ?_)]
        · exact h2
        · subst e2
          have := hi hr
          rw [h2, hsx] at this
          cases this
theorem Mt.pass (h : Mt n E C A to ow) (hi : A i → seen (to i) = true) (hj : j < n) (hc : C j) (he : E i j) (hs : seen j = false) {i' : Nat} (hi' : A i') (ht : to i' = j) {to1 : Nat → Nat} {ow1 : Nat → Int}
    (k : Found n E C A to ow (upd seen j true) i' to1 ow1) : Found n E C A to ow seen i (upd to1 i j) (upd ow1 j i) := by
  have hne : i ≠ i' := fun e => by
    subst e
    have := hi hi'
    rw [ht, hs] at this
    cases this
  have hA : ∀ r, A r ∨ r = i → r ≠ i → A r ∨ r = i' := fun r hr e => .inl (hr.resolve_right e)
  have hup : ∀ x, seen x = true → upd seen j true x = true := fun x hx => by
    by_cases e : x = j
    · subst e; exact upd_same _ _ _
    · rw [upd_ne _ _ e]; exact hx
  have hxj : ∀ x, seen x = true → x ≠ j := fun x hx e => by rw [e, hs] at hx; cases hx
  have howj : ow1 j = i' := by rw [k.old j (upd_same _ _ _), ← ht]; exact h.own i' hi'
  refine ⟨fun r hr => ?_, fun r hr => ?_, fun r hr => ?_, by rw [upd_same]; exact hs, fun x hx => ?_, fun x hx hcx hsx => ?_, fun r hr hne' hsr => ?_, fun r hr hne' => ?_, fun x hx => ?_⟩
  · by_cases e : r = i
    · subst e; rw [upd_same]; exact hj
    · rw [upd_ne _ _ e]; exact k.lt r (hA r hr e)
  · by_cases e : r = i
    · subst e; rw [upd_same]; exact ⟨he, hc⟩
    · rw [upd_ne _ _ e]; exact k.e r (hA r hr e)
  · by_cases e : r = i
    · subst e; rw [upd_same, upd_same]
    · rw [upd_ne _ _ e]
      have h1 := k.own r (hA r hr e)
      rw [upd_ne _ _ (fun e2 => ?_)]
      · exact h1
      · rw [e2, howj] at h1
        have e3 : i' = r := by omega
        subst e3
        have := k.new
        rw [e2, upd_same] at this
        cases this
  · rw [upd_ne _ _ (hxj x hx)]
    exact k.old x (hup x hx)
  · by_cases e : x = j
    · subst e
      exact .inr ⟨i, .inr rfl, upd_same _ _ _, upd_same _ _ _⟩
    · rw [upd_ne _ _ e]
      rcases k.col x hx hcx (by rw [upd_ne _ _ e]; exact hsx) with h1 | ⟨r, hr, h1, h2⟩
      · exact .inl h1
      · have hAr : A r := hr.elim id (fun h => h ▸ hi')
        refine .inr ⟨r, .inl hAr, h1, ?_⟩
        rw [upd_ne _ _ (fun e2 => ?_)]
        · exact h2
        · subst e2
          have h3 := k.keep r hAr hne (hup _ (hi hAr))
          have h4 := hi hAr
          rw [← h3, h2, hsx] at h4
          cases h4
  · rw [upd_ne _ _ hne']
    exact k.keep r hr (fun e2 => hxj _ hsr (by rw [e2]; exact ht)) (hup _ hsr)
  · rw [upd_ne _ _ hne']
    exact k.other r hr (fun e2 => hr (e2 ▸ hi'))
  · rw [upd_ne _ _ (fun e => by subst e; exact hx hc)]
    exact k.out x hx
end

/-- what was seen on the search for a column of row i, of the columns before k -/
structure Part (n : Nat) (E : Nat → Nat → Prop) (C : Nat → Prop) (ow : Nat → Int) (seen : Nat → Bool) (i k : Nat) (seen' : Nat → Bool) : Prop where
  sub : ∀ x, seen x = true → seen' x = true
  row : ∀ y, y < k → E i y → C y → seen' y = true
  cl : ∀ x, x < n → seen' x = true → seen x = false → C x ∧ ∃ r : Nat, ow x = r ∧ ∀ y, y < n → E r y → C y → seen' y = true
section
variable {n : Nat} {E : Nat → Nat → Prop} {C : Nat → Prop} {ow : Nat → Int} {seen seen' seen'' : Nat → Bool} {i k r : Nat}
theorem Part.start : Part n E C ow seen i 0 seen := ⟨fun _ h => h, fun y h => absurd h (by omega), fun x _ h h' => by rw [h] at h'; cases h'⟩
theorem Part.skip (h : Part n E C ow seen i k seen') (hk : E i k → C k → seen' k = true) : Part n E C ow seen i (k + 1) seen' :=
  ⟨h.sub, fun y hy he hc => by
    rcases Nat.lt_or_ge y k with h1 | h1
    · exact h.row y h1 he hc
    · obtain rfl : y = k := by omega
      exact hk he hc, h.cl⟩
theorem Part.fail (h : Part n E C ow seen i k seen') (hc : C k) (hr : ow k = r) (h2 : Part n E C ow (upd seen' k true) r n seen'') : Part n E C ow seen i (k + 1) seen'' := by
  have hup : ∀ x, seen' x = true → upd seen' k true x = true := fun x hx => by
    by_cases e : x = k
    · subst e; exact upd_same _ _ _
    · rw [upd_ne _ _ e]; exact hx
  refine ⟨fun x hx => h2.sub x (hup x (h.sub x hx)), fun y hy he hcy => ?_, fun x hx hx2 hx3 => ?_⟩
  · rcases Nat.lt_or_ge y k with h1 | h1
    · exact h2.sub y (hup y (h.row y h1 he hcy))
    · obtain rfl : y = k := by omega
      exact h2.sub y (upd_same _ _ _)
  · cases hs : seen' x with
    | true =>
      obtain ⟨a, q, hq, b⟩ := h.cl x hx hs hx3
      exact ⟨a, q, hq, fun y hy he hcy => h2.sub y (hup y (b y hy he hcy))⟩
    | false =>
      by_cases e : x = k
      · subst e
        exact ⟨hc, r, hr, fun y hy he hcy => h2.row y hy he hcy⟩
      · exact h2.cl x hx hx2 (by rw [upd_ne _ _ e]; exact hs)
end

/-- more rows than columns -/
theorem no_match {n : Nat} {U : Nat → Bool} {ow : Nat → Nat} {i : Nat} {τ : Nat → Nat} (hp : Perfect n τ) (h1 : ∀ x, x < n → U x = true → ow x ≠ i ∧ ow x < n ∧ U (τ (ow x)) = true) (hi : i < n) (h2 : U (τ i) = true)
    (hinj : ∀ x y, x < n → y < n → U x = true → U y = true → ow x = ow y → x = y) : False := by
  obtain ⟨l, hl⟩ : ∃ l, l = (List.range n).filter U := ⟨_, rfl⟩
  have hm : ∀ x, x ∈ l ↔ x < n ∧ U x = true := fun x => by rw [hl, List.mem_filter, List.mem_range]
  have hn : l.Nodup := by rw [hl]; exact List.nodup_range.filter _
  have hr : (i :: l.map ow).Nodup := by
    rw [List.nodup_cons]
    refine ⟨fun h => ?_, nodup_map hn fun x hx y hy e => hinj x y ((hm x).1 hx).1 ((hm y).1 hy).1 ((hm x).1 hx).2 ((hm y).1 hy).2 e⟩
    obtain ⟨x, hx, e⟩ := List.mem_map.1 h
    exact (h1 x ((hm x).1 hx).1 ((hm x).1 hx).2).1 e
  have hlt : ∀ r ∈ i :: l.map ow, r < n ∧ U (τ r) = true := fun r hr => by
    rcases List.mem_cons.1 hr with rfl | hr
    · exact ⟨hi, h2⟩
    · obtain ⟨x, hx, rfl⟩ := List.mem_map.1 hr
      exact (h1 x ((hm x).1 hx).1 ((hm x).1 hx).2).2
  have h3 := nodup_le (l := (i :: l.map ow).map τ) (m := l) (nodup_map hr fun x hx y hy e => hp.2 x y (hlt x hx).1 (hlt y hy).1 e) (fun x hx => by
    obtain ⟨r, hr, rfl⟩ := List.mem_map.1 hx
    exact (hm _).2 ⟨hp.1 r (hlt r hr).1, (hlt r hr).2⟩)
  simp at h3
  omega
end Go.Proofs.Ytgmhinmakomabaa
