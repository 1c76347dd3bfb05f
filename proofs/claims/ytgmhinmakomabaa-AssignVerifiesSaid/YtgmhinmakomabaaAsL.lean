/-
  The first of the least-cost assignments, row by row, in plain terms. No condition.
-/
import Derived.Test.YtgmhinmakomabaaAsN
namespace Go.Proofs.Ytgmhinmakomabaa
set_option linter.unusedVariables false

/-- no tight assignment begins as f does before row i, and has column j there -/
def NoT (n : Nat) (c : Nat → Nat → Int) (u v : Nat → Int) (f : Nat → Int) (i j : Nat) : Prop :=
  ¬ ∃ τ, Perfect n τ ∧ Tight n c u v τ ∧ (∀ q, q < i → (τ q : Int) = f q) ∧ τ i = j
theorem NoT.congr {n : Nat} {c : Nat → Nat → Int} {u v : Nat → Int} {f g : Nat → Int} {i j : Nat} (h : NoT n c u v f i j) (e : ∀ q, q < i → f q = g q) : NoT n c u v g i j :=
  fun ⟨τ, a, b, d, e'⟩ => h ⟨τ, a, b, fun q hq => (d q hq).trans (e q hq).symm, e'⟩
/-- a tight assignment that is the first one on the rows before k -/
structure Lw (n k : Nat) (c : Nat → Nat → Int) (u v : Nat → Int) (to : Nat → Nat) (ow : Nat → Int) : Prop where
  perf : Perfect n to
  tight : Tight n c u v to
  own : ∀ i, i < n → ow (to i) = i
  lex : ∀ i, i < k → ∀ j, j < to i → NoT n c u v (fun q => (to q : Int)) i j
theorem Ph.low {n : Nat} {c : Nat → Nat → Int} {u v : Nat → Int} {to : Nat → Nat} {ow : Nat → Int} (h : Ph n n c u v to ow) : Lw n 0 c u v to ow :=
  ⟨h.done.1, h.done.2, h.own, fun i hi => absurd hi (by omega)⟩
theorem first_of {n : Nat} {c : Nat → Nat → Int} {u v : Nat → Int} {σ : Nat → Nat} (hf : Feas n c u v) (hp : Perfect n σ) (ht : Tight n c u v σ) (hl : ∀ i, i < n → ∀ j, j < σ i → NoT n c u v (fun q => (σ q : Int)) i j) : First n c σ := by
  refine ⟨(least_iff hf hp ht σ).2 ⟨hp, ht⟩, fun i j hi hj => ?_⟩
  rintro ⟨τ, h1, h2, h3⟩
  obtain ⟨h4, h5⟩ := (least_iff hf hp ht τ).1 h1
  exact hl i hi j hj ⟨τ, h4, h5, fun q hq => by rw [h2 q hq], h3⟩
theorem Lw.first {n : Nat} {c : Nat → Nat → Int} {u v : Nat → Int} {to : Nat → Nat} {ow : Nat → Int} (h : Lw n n c u v to ow) (hf : Feas n c u v) : First n c to := first_of hf h.perf h.tight h.lex

section
variable {n k j : Nat} {c : Nat → Nat → Int} {u v : Nat → Int} {to : Nat → Nat} {ow : Nat → Int}
/-- which elements are tight -/
def Tg (c : Nat → Nat → Int) (u v : Nat → Int) (i j : Nat) : Prop := u i + v j = c i j
/-- the columns of later rows, and that of this row -/
def Cl (k : Nat) (ow : Nat → Int) (free : Nat) (x : Nat) : Prop := x = free ∨ (k : Int) < ow x
theorem Lw.inv (h : Lw n k c u v to ow) {x : Nat} (hx : x < n) : ∃ r : Nat, r < n ∧ ow x = r ∧ to r = x := by
  obtain ⟨r, hr, e⟩ := h.perf.onto hx
  exact ⟨r, hr, by rw [← e]; exact h.own r hr, e⟩
theorem Lw.mt (h : Lw n k c u v to ow) (hk : k < n) : Mt n (Tg c u v) (Cl k ow (to k)) (fun r => k < r ∧ r < n) to (upd ow (to k) (-1)) := by
  have hne : ∀ r, k < r → r < n → to r ≠ to k := fun r h1 h2 e => by have := h.perf.2 r k h2 hk e; omega
  refine ⟨fun r hr => ⟨hr.2, h.perf.1 r hr.2⟩, fun r hr => ⟨h.tight r hr.2, .inr (by rw [h.own r hr.2]; omega)⟩, fun r hr => by rw [upd_ne _ _ (hne r hr.1 hr.2)]; exact h.own r hr.2, fun x hx hc => ?_⟩
  by_cases e : x = to k
  · subst e; exact .inl (upd_same _ _ _)
  · rw [upd_ne _ _ e]
    obtain ⟨r, h1, h2, h3⟩ := h.inv hx
    have := hc.resolve_left e
    exact .inr ⟨r, ⟨by omega, h1⟩, h2, h3⟩
/-- the columns before j are out of question -/
theorem Lw.skip_low (h : Lw n k c u v to ow) (hk : k < n) (hj : j < n) (ho : ow j < (k : Int)) : NoT n c u v (fun q => (to q : Int)) k j := by
  rintro ⟨τ, h1, h2, h3, h4⟩
  obtain ⟨r, hr, e1, e2⟩ := h.inv hj
  have h5 : (τ r : Int) = to r := h3 r (by omega)
  have := h1.2 r k hr hk (by omega)
  omega
theorem no_slack (hk : k < n) (hs : u k + v j ≠ c k j) (f : Nat → Int) : NoT n c u v f k j := by
  rintro ⟨τ, h1, h2, h3, h4⟩
  exact hs (by have := h2 k hk; rwa [h4] at this)
theorem Lw.stuck (h : Lw n k c u v to ow) (hk : k < n) (hj : j < n) {r : Nat} (hr : ow j = r) (hkr : k < r) {seen : Nat → Bool} (hs : ∀ x, x < n → (seen x = true ↔ x = j)) {seen' : Nat → Bool}
    (hp : Part n (Tg c u v) (Cl k ow (to k)) (upd ow (to k) (-1)) seen r n seen') : NoT n c u v (fun q => (to q : Int)) k j := by
  rintro ⟨τ, h1, h2, h3, h4⟩
  have hsj : seen j = true := (hs j hj).2 rfl
  obtain ⟨r', hr1, hr2, hr3⟩ := h.inv hj
  obtain rfl : r' = r := by omega
  have hC : ∀ q, k < q → q < n → Cl k ow (to k) (τ q) := fun q hq hqn => by
    obtain ⟨s, e1, e2, e3⟩ := h.inv (h1.1 q hqn)
    rcases Nat.lt_trichotomy s k with a | a | a
    · have h5 : (τ s : Int) = to s := h3 s a
      have := h1.2 s q e1 hqn (by omega)
      omega
    · subst a; exact .inl e3.symm
    · exact .inr (by rw [e2]; omega)
  refine no_match (U := seen') (ow := fun x => (ow x).toNat) (i := k) h1 (fun x hx hU => ?_) hk (by rw [h4]; exact hp.sub j hsj) (fun x y hx hy _ _ e => ?_)
  · obtain ⟨s, e1, e2, e3⟩ := h.inv hx
    have key : k < s ∧ ∀ y, y < n → Tg c u v s y → Cl k ow (to k) y → seen' y = true := by
      by_cases e : x = j
      · subst e
        obtain rfl : s = r' := by omega
        exact ⟨hkr, fun y hy => hp.row y hy⟩
      · have hsx : seen x = false := by
          cases hq : seen x with
          | false => rfl
          | true => exact (e ((hs x hx).1 hq)).elim
        obtain ⟨a, q, b, d⟩ := hp.cl x hx hU hsx
        have hne : x ≠ to k := fun e => by subst e; rw [upd_same] at b; omega
        rw [upd_ne _ _ hne] at b
        obtain rfl : s = q := by omega
        have := a.resolve_left hne
        exact ⟨by omega, d⟩
    rw [e2]
    simp only [Int.toNat_natCast]
    exact ⟨by omega, e1, key.2 _ (h1.1 s e1) (h2 s e1) (hC s key.1 e1)⟩
  · obtain ⟨s, _, e2, e3⟩ := h.inv hx
    obtain ⟨s', _, e2', e3'⟩ := h.inv hy
    rw [e2, e2'] at e
    have : s = s' := by omega
    rw [← e3, ← e3', this]
/-- row k has no earlier column -/
theorem Lw.none (h : Lw n k c u v to ow) (hn : ∀ j, j < to k → NoT n c u v (fun q => (to q : Int)) k j) : Lw n (k + 1) c u v to ow :=
  ⟨h.perf, h.tight, h.own, fun i hi => by
    rcases Nat.lt_or_ge i k with h1 | h1
    · exact h.lex i h1
    · obtain rfl : i = k := by omega
      exact hn⟩
/-- row k gets an earlier column -/
theorem Lw.found (h : Lw n k c u v to ow) (hk : k < n) (hj : j < n) {r : Nat} (hr : ow j = r) (hkr : k < r) {seen : Nat → Bool} (hs : seen j = true) (ht : Tg c u v k j) (hn : ∀ j', j' < j → NoT n c u v (fun q => (to q : Int)) k j')
    {to' : Nat → Nat} {ow' : Nat → Int} (f : Found n (Tg c u v) (Cl k ow (to k)) (fun r => k < r ∧ r < n) to (upd ow (to k) (-1)) seen r to' ow') : Lw n (k + 1) c u v (upd to' k j) (upd ow' j k) := by
  obtain ⟨r', hr1, hr2, hr3⟩ := h.inv hj
  obtain rfl : r' = r := by omega
  have hlow : ∀ i, i < k → to' i = to i := fun i hi => f.other i (by omega) (by omega)
  have hjk : j ≠ to k := fun e => by have := h.own k hk; rw [← e] at this; omega
  have hown : ∀ i, i < n → upd ow' j k (upd to' k j i) = i := fun i hi => by
    by_cases e : i = k
    · subst e; rw [upd_same, upd_same]
    rw [upd_ne _ _ e]
    rcases Nat.lt_or_ge i k with h1 | h1
    · rw [hlow i h1]
      have ho := h.own i hi
      have hne : to i ≠ j := fun e => by rw [e] at ho; omega
      have hne2 : to i ≠ to k := fun e2 => e (h.perf.2 i k hi hk e2)
      rw [upd_ne _ _ hne, f.out _ (fun hc => by have := hc.resolve_left hne2; omega), upd_ne _ _ hne2]
      exact ho
    · have hA : (k < i ∧ i < n) ∨ i = r' := .inl ⟨by omega, hi⟩
      have ho := f.own i hA
      have hne : to' i ≠ j := fun e2 => by
        rw [e2, f.old j hs, upd_ne _ _ hjk] at ho
        have e3 : i = r' := by omega
        subst e3
        have := f.new
        rw [e2, hs] at this
        cases this
      rw [upd_ne _ _ hne]
      exact ho
  have hlt : ∀ i, i < n → upd to' k j i < n := fun i hi => by
    by_cases e : i = k
    · subst e; rw [upd_same]; exact hj
    rw [upd_ne _ _ e]
    rcases Nat.lt_or_ge i k with h1 | h1
    · rw [hlow i h1]; exact h.perf.1 i hi
    · exact f.lt i (.inl ⟨by omega, hi⟩)
  refine ⟨⟨hlt, fun a b ha hb e => ?_⟩, fun i hi => ?_, hown, fun i hi j' hj' => ?_⟩
  · have h1 := hown a ha
    have h2 := hown b hb
    rw [e, h2] at h1
    omega
  · by_cases e : i = k
    · subst e; rw [upd_same]; exact ht
    rw [upd_ne _ _ e]
    rcases Nat.lt_or_ge i k with h1 | h1
    · rw [hlow i h1]; exact h.tight i hi
    · exact (f.e i (.inl ⟨by omega, hi⟩)).1
  · have hag : ∀ q, q < k → ((to q : Nat) : Int) = (upd to' k j q : Nat) := fun q hq => by rw [upd_ne _ _ (by omega), hlow q hq]
    rcases Nat.lt_or_ge i k with h1 | h1
    · rw [upd_ne _ _ (by omega), hlow i h1] at hj'
      exact (h.lex i h1 j' hj').congr fun q hq => hag q (by omega)
    · obtain rfl : i = k := by omega
      rw [upd_same] at hj'
      exact (hn j' hj').congr hag
end

/-- a tight assignment that has the columns of f, where it has one -/
def Comp (n : Nat) (c : Nat → Nat → Int) (u v : Nat → Int) (f : Nat → Int) : Prop := ∃ τ, Perfect n τ ∧ Tight n c u v τ ∧ ∀ r, r < n → 0 ≤ f r → (τ r : Int) = f r
/-- some rows have columns of their own, along tight elements -/
structure Fx (n : Nat) (c : Nat → Nat → Int) (u v : Nat → Int) (f : Nat → Int) : Prop where
  rng : ∀ r, r < n → f r = -1 ∨ (0 ≤ f r ∧ f r < n)
  inj : ∀ r s, r < n → s < n → 0 ≤ f r → f r = f s → r = s
  tight : ∀ r, r < n → 0 ≤ f r → u r + v (f r).toNat = c r (f r).toNat
/-- which columns are not taken -/
def Ut (n : Nat) (f : Nat → Int) (x : Nat) : Prop := ∀ r, r < n → f r ≠ x
section
variable {n k i j : Nat} {c : Nat → Nat → Int} {u v : Nat → Int} {to : Nat → Nat} {ow : Nat → Int} {f : Nat → Int}
theorem mt_start (E : Nat → Nat → Prop) (C : Nat → Prop) (h : ∀ x, x < n → ow x = -1) : Mt n E C (fun r => r < 0 ∧ f r < 0) to ow :=
  ⟨fun r hr => absurd hr.1 (by omega), fun r hr => absurd hr.1 (by omega), fun r hr => absurd hr.1 (by omega), fun x hx _ => .inl (h x hx)⟩
theorem Mt.skip {E : Nat → Nat → Prop} {C : Nat → Prop} (h : Mt n E C (fun r => r < i ∧ f r < 0) to ow) (hi : 0 ≤ f i) : Mt n E C (fun r => r < i + 1 ∧ f r < 0) to ow := by
  have e : ∀ r, (r < i + 1 ∧ f r < 0) → r < i ∧ f r < 0 := fun r hr => by
    rcases Nat.lt_or_ge r i with h1 | h1
    · exact ⟨h1, hr.2⟩
    · obtain rfl : r = i := by omega
      exact absurd hr.2 (by omega)
  exact ⟨fun r hr => h.lt r (e r hr), fun r hr => h.e r (e r hr), fun r hr => h.own r (e r hr), fun x hx hc => (h.col x hx hc).imp id fun ⟨r, a, b⟩ => ⟨r, ⟨by omega, a.2⟩, b⟩⟩
theorem Found.mt {E : Nat → Nat → Prop} {C : Nat → Prop} {seen : Nat → Bool} {to' : Nat → Nat} {ow' : Nat → Int} (h : Found n E C (fun r => r < i ∧ f r < 0) to ow seen i to' ow') (hi : i < n) (hf : f i < 0) (hs : ∀ x, x < n → seen x = false) : Mt n E C (fun r => r < i + 1 ∧ f r < 0) to' ow' := by
  have e : ∀ r, (r < i + 1 ∧ f r < 0) → (r < i ∧ f r < 0) ∨ r = i := fun r hr => by
    rcases Nat.lt_or_ge r i with h1 | h1
    · exact .inl ⟨h1, hr.2⟩
    · exact .inr (by omega)
  exact ⟨fun r hr => ⟨by omega, h.lt r (e r hr)⟩, fun r hr => h.e r (e r hr), fun r hr => h.own r (e r hr), fun x hx hc => (h.col x hx hc (hs x hx)).imp id fun ⟨r, a, b⟩ => ⟨r, by
    rcases a with a | rfl
    · exact ⟨by omega, a.2⟩
    · exact ⟨by omega, hf⟩, b⟩⟩
theorem Mt.comp (h : Mt n (Tg c u v) (Ut n f) (fun r => r < n ∧ f r < 0) to ow) (hf : Fx n c u v f) : Comp n c u v f := by
  refine ⟨fun r => if 0 ≤ f r then (f r).toNat else to r, ⟨fun r hr => ?_, fun r s hr hs e => ?_⟩, fun r hr => ?_, fun r hr h0 => ?_⟩
  · simp only
    split
    · rename_i h0
      have := hf.rng r hr
      omega
    · exact (h.lt r ⟨hr, by omega⟩).2
  · simp only at e
    split at e <;> split at e
    · rename_i h0 h1
      exact hf.inj r s hr hs h0 (by omega)
    · rename_i h0 h1
      have := (h.e s ⟨hs, by omega⟩).2 r hr
      omega
    · rename_i h0 h1
      have := (h.e r ⟨hr, by omega⟩).2 s hs
      omega
    · rename_i h0 h1
      have a := h.own r ⟨hr, by omega⟩
      have b := h.own s ⟨hs, by omega⟩
      rw [e, b] at a
      omega
  · simp only
    split
    · rename_i h0
      exact hf.tight r hr h0
    · exact (h.e r ⟨hr, by omega⟩).1
  · simp only
    rw [if_pos h0]
    omega
theorem Mt.stuck (h : Mt n (Tg c u v) (Ut n f) (fun r => r < i ∧ f r < 0) to ow) (hi : i < n) (hfi : f i < 0) {seen seen' : Nat → Bool} (hs : ∀ x, x < n → seen x = false) (hp : Part n (Tg c u v) (Ut n f) ow seen i n seen') : ¬ Comp n c u v f := by
  rintro ⟨τ, h1, h2, h3⟩
  have hC : ∀ q, q < n → f q < 0 → Ut n f (τ q) := fun q hq h0 r hr e => by
    have := h3 r hr (by omega)
    have := h1.2 r q hr hq (by omega)
    subst this
    omega
  have key : ∀ x, x < n → seen' x = true → ∃ r : Nat, r < i ∧ f r < 0 ∧ ow x = r ∧ to r = x ∧ ∀ y, y < n → Tg c u v r y → Ut n f y → seen' y = true := fun x hx hU => by
    obtain ⟨a, r, b, d⟩ := hp.cl x hx hU (hs x hx)
    rcases h.col x hx a with e | ⟨r', e1, e2, e3⟩
    · omega
    · obtain rfl : r' = r := by omega
      exact ⟨r', e1.1, e1.2, b, e3, d⟩
  refine no_match (U := seen') (ow := fun x => (ow x).toNat) (i := i) h1 (fun x hx hU => ?_) hi ?_ (fun x y hx hy hUx hUy e => ?_)
  · obtain ⟨r, a, b, d, e, g⟩ := key x hx hU
    rw [d]
    simp only [Int.toNat_natCast]
    exact ⟨by omega, by omega, g _ (h1.1 r (by omega)) (h2 r (by omega)) (hC r (by omega) b)⟩
  · exact hp.row _ (h1.1 i hi) (h2 i hi) (hC i hi hfi)
  · obtain ⟨r, _, _, d, e1, _⟩ := key x hx hUx
    obtain ⟨r', _, _, d', e1', _⟩ := key y hy hUy
    rw [d, d'] at e
    have : r = r' := by omega
    rw [← e1, ← e1', this]

/-- the reference's rows before k are fixed -/
structure Fd (n k : Nat) (c : Nat → Nat → Int) (u v : Nat → Int) (f : Nat → Int) : Prop where
  fx : Fx n c u v f
  neg : ∀ r, k ≤ r → r < n → f r = -1
  pos : ∀ r, r < k → 0 ≤ f r
  comp : Comp n c u v f
  lex : ∀ i, i < k → ∀ j : Nat, (j : Int) < f i → NoT n c u v f i j
  kn : k ≤ n
theorem Fd.start (hf : ∀ r, r < n → f r = -1) {σ : Nat → Nat} (hp : Perfect n σ) (ht : Tight n c u v σ) : Fd n 0 c u v f :=
  ⟨⟨fun r hr => .inl (hf r hr), fun r s hr hs h0 => by rw [hf r hr] at h0; omega, fun r hr h0 => by rw [hf r hr] at h0; omega⟩, fun r _ hr => hf r hr, fun r hr => absurd hr (by omega), ⟨σ, hp, ht, fun r hr h0 => by rw [hf r hr] at h0; omega⟩, fun i hi => absurd hi (by omega), Nat.zero_le _⟩
theorem Fd.not (h : Fd n k c u v f) (hk : k < n) (hn : ¬ Comp n c u v (upd f k j)) : NoT n c u v f k j := by
  rintro ⟨τ, h1, h2, h3, h4⟩
  refine hn ⟨τ, h1, h2, fun r hr h0 => ?_⟩
  rcases Nat.lt_trichotomy r k with a | a | a
  · rw [upd_ne _ _ (by omega)]; exact h3 r a
  · subst a; rw [upd_same, h4]
  · rw [upd_ne _ _ (by omega), h.neg r (by omega) hr] at h0; omega
theorem Fd.taken (h : Fd n k c u v f) (hk : k < n) (ht : ∃ r, r < n ∧ f r = (j : Int)) : NoT n c u v f k j := by
  obtain ⟨r, hr, e⟩ := ht
  have hrk : r < k := by
    rcases Nat.lt_or_ge r k with a | a
    · exact a
    · rw [h.neg r a hr] at e; omega
  rintro ⟨τ, h1, h2, h3, h4⟩
  have := h3 r hrk
  have := h1.2 r k hr hk (by omega)
  omega
theorem Fd.fx_upd (h : Fd n k c u v f) (hk : k < n) (hj : j < n) (ht : ∀ r, r < n → f r ≠ (j : Int)) (htg : u k + v j = c k j) : Fx n c u v (upd f k j) := by
  refine ⟨fun r hr => ?_, fun r s hr hs h0 e => ?_, fun r hr h0 => ?_⟩
  · by_cases e : r = k
    · subst e; rw [upd_same]; omega
    · rw [upd_ne _ _ e]; exact h.fx.rng r hr
  · by_cases e1 : r = k
    · by_cases e2 : s = k
      · omega
      · subst e1
        rw [upd_same, upd_ne _ _ e2] at e
        exact (ht s hs e.symm).elim
    · rw [upd_ne _ _ e1] at e h0
      by_cases e2 : s = k
      · subst e2
        rw [upd_same] at e
        exact (ht r hr e).elim
      · rw [upd_ne _ _ e2] at e
        exact h.fx.inj r s hr hs h0 e
  · by_cases e : r = k
    · subst e; rw [upd_same]; simpa using htg
    · rw [upd_ne _ _ e] at h0 ⊢
      exact h.fx.tight r hr h0
theorem Fd.next (h : Fd n k c u v f) (hk : k < n) (hj : j < n) (hfx : Fx n c u v (upd f k j)) (hn : ∀ j', j' < j → NoT n c u v f k j') (hc : Comp n c u v (upd f k j)) : Fd n (k + 1) c u v (upd f k j) := by
  have hag : ∀ q, q < k → f q = upd f k j q := fun q hq => (upd_ne f _ (by omega)).symm
  refine ⟨hfx, fun r h1 h2 => by rw [upd_ne _ _ (by omega)]; exact h.neg r (by omega) h2, fun r hr => ?_, hc, fun i hi j' hj' => ?_, hk⟩
  · by_cases e : r = k
    · subst e; rw [upd_same]; omega
    · rw [upd_ne _ _ e]; exact h.pos r (by omega)
  · rcases Nat.lt_or_ge i k with h1 | h1
    · rw [upd_ne _ _ (by omega)] at hj'
      exact (h.lex i h1 j' hj').congr fun q hq => hag q (by omega)
    · obtain rfl : i = k := by omega
      rw [upd_same] at hj'
      exact (hn j' (by omega)).congr hag
/-- some column is found -/
theorem Fd.some (h : Fd n k c u v f) (hk : k < n) (hn : ∀ j, j < n → NoT n c u v f k j) : False := by
  obtain ⟨τ, h1, h2, h3⟩ := h.comp
  exact hn _ (h1.1 k hk) ⟨τ, h1, h2, fun q hq => h3 q (by omega) (h.pos q hq), rfl⟩
theorem Fd.done (h : Fd n n c u v f) (hf : Feas n c u v) : ∃ σ : Nat → Nat, First n c σ ∧ Tight n c u v σ ∧ ∀ i, i < n → f i = σ i := by
  obtain ⟨τ, h1, h2, h3⟩ := h.comp
  have e : ∀ i, i < n → f i = τ i := fun i hi => (h3 i hi (h.pos i hi)).symm
  refine ⟨τ, first_of hf h1 h2 fun i hi j hj => ?_, h2, e⟩
  exact (h.lex i hi j (by rw [e i hi]; omega)).congr fun q hq => e q (by omega)
end
end Go.Proofs.Ytgmhinmakomabaa
