/-
  Least-cost assignments, in plain terms: permutations, dual numbers, the first of the least ones. No condition.
-/
import Init
namespace Go.Proofs.Ytgmhinmakomabaa
set_option linter.unusedVariables false

def sumTo (f : Nat → Int) : Nat → Int
  | 0 => 0
  | k + 1 => sumTo f k + f k
def upd {α : Type} (f : Nat → α) (i : Nat) (x : α) : Nat → α := fun k => if k = i then x else f k
theorem upd_same {α : Type} (f : Nat → α) (i : Nat) (x : α) : upd f i x i = x := by simp [upd]
theorem upd_ne {α : Type} (f : Nat → α) {i j : Nat} (x : α) (h : j ≠ i) : upd f i x j = f j := by simp [upd, h]

theorem sumTo_congr {f g : Nat → Int} : ∀ {n : Nat}, (∀ i, i < n → f i = g i) → sumTo f n = sumTo g n
  | 0, _ => rfl
  | n + 1, h => by
    show sumTo f n + f n = sumTo g n + g n
    rw [sumTo_congr (n := n) (fun i hi => h i (by omega)), h n (by omega)]
theorem sumTo_add (f g : Nat → Int) : ∀ n : Nat, sumTo (fun i => f i + g i) n = sumTo f n + sumTo g n
  | 0 => rfl
  | n + 1 => by
    show sumTo (fun i => f i + g i) n + (f n + g n) = (sumTo f n + f n) + (sumTo g n + g n)
    rw [sumTo_add f g n]; omega
theorem sumTo_le {f g : Nat → Int} : ∀ {n : Nat}, (∀ i, i < n → f i ≤ g i) → sumTo f n ≤ sumTo g n
  | 0, _ => Int.le_refl _
  | n + 1, h => by
    have h1 := sumTo_le (n := n) (fun i hi => h i (by omega))
    have h2 := h n (by omega)
    show sumTo f n + f n ≤ sumTo g n + g n
    omega
/-- sums that are equal though each part is at most the other: the parts are equal -/
theorem sumTo_eq {f g : Nat → Int} : ∀ {n : Nat}, (∀ i, i < n → f i ≤ g i) → sumTo f n = sumTo g n → ∀ i, i < n → f i = g i
  | 0, _, _, i, hi => absurd hi (by omega)
  | n + 1, h, he, i, hi => by
    have h1 := sumTo_le (n := n) (fun i hi => h i (by omega))
    have h2 := h n (by omega)
    have he' : sumTo f n + f n = sumTo g n + g n := he
    rcases Nat.lt_or_ge i n with h3 | h3
    · exact sumTo_eq (n := n) (fun i hi => h i (by omega)) (by omega) i h3
    · obtain rfl : i = n := by omega
      omega
theorem sumTo_bound {f : Nat → Int} {lo hi : Int} : ∀ {n : Nat}, (∀ i, i < n → lo ≤ f i ∧ f i ≤ hi) → lo * n ≤ sumTo f n ∧ sumTo f n ≤ hi * n
  | 0, _ => by simp [sumTo]
  | n + 1, h => by
    have h1 := sumTo_bound (n := n) (fun i hi => h i (by omega))
    have h2 := h n (by omega)
    show lo * ((n + 1 : Nat) : Int) ≤ sumTo f n + f n ∧ sumTo f n + f n ≤ hi * ((n + 1 : Nat) : Int)
    rw [show ((n + 1 : Nat) : Int) = (n : Int) + 1 by omega, Int.mul_add, Int.mul_add, Int.mul_one, Int.mul_one]
    omega
theorem sumTo_range (f : Nat → Int) : ∀ n : Nat, sumTo f n = ((List.range n).map f).sum
  | 0 => rfl
  | n + 1 => by
    show sumTo f n + f n = _
    rw [List.range_succ, List.map_append, List.sum_append, sumTo_range f n]
    simp
theorem perm_sum {l m : List Int} (h : l.Perm m) : l.sum = m.sum := by
  induction h with
  | nil => rfl
  | cons x _ ih => simp [ih]
  | swap x y l => simp; omega
  | trans _ _ h1 h2 => exact h1.trans h2

/-- a list without repetitions is no longer than one that holds its elements -/
theorem nodup_le {l m : List Nat} (hl : l.Nodup) (h : ∀ x ∈ l, x ∈ m) : l.length ≤ m.length := by
  induction l generalizing m with
  | nil => simp
  | cons a l ih =>
    have ha : a ∈ m := h a (by simp)
    rw [List.nodup_cons] at hl
    have h1 := ih (m := m.erase a) hl.2 (fun x hx => by
      have hne : x ≠ a := fun e => hl.1 (e ▸ hx)
      exact (List.mem_erase_of_ne hne).2 (h x (by simp [hx])))
    rw [List.length_erase_of_mem ha] at h1
    have := List.length_pos_of_mem ha
    simp; omega
theorem nodup_map {f : Nat → Nat} {l : List Nat} (hl : l.Nodup) (hf : ∀ x ∈ l, ∀ y ∈ l, f x = f y → x = y) : (l.map f).Nodup := by
  induction l with
  | nil => simp
  | cons a l ih =>
    rw [List.nodup_cons] at hl
    rw [List.map_cons, List.nodup_cons]
    refine ⟨fun h => ?_, ih hl.2 fun x hx y hy => hf x (by simp [hx]) y (by simp [hy])⟩
    obtain ⟨b, hb, e⟩ := List.mem_map.1 h
    have := hf b (by simp [hb]) a (by simp) e
    exact hl.1 (this ▸ hb)

def Perfect (n : Nat) (σ : Nat → Nat) : Prop := (∀ i, i < n → σ i < n) ∧ ∀ i j, i < n → j < n → σ i = σ j → i = j
theorem Perfect.onto {n : Nat} {σ : Nat → Nat} (h : Perfect n σ) {j : Nat} (hj : j < n) : ∃ i, i < n ∧ σ i = j := by
  refine Classical.byContradiction fun hc => ?_
  have h1 := nodup_le (l := (List.range n).map σ) (m := (List.range n).erase j)
    (nodup_map List.nodup_range fun x hx y hy e => h.2 x y (List.mem_range.1 hx) (List.mem_range.1 hy) e)
    (fun x hx => by
      obtain ⟨i, hi, rfl⟩ := List.mem_map.1 hx
      have hi := List.mem_range.1 hi
      exact (List.mem_erase_of_ne (fun e => hc ⟨i, hi, e⟩)).2 (List.mem_range.2 (h.1 i hi)))
  rw [List.length_erase_of_mem (List.mem_range.2 hj)] at h1
  simp at h1
  omega
theorem Perfect.sum {n : Nat} {σ : Nat → Nat} (h : Perfect n σ) (f : Nat → Int) : sumTo (fun i => f (σ i)) n = sumTo f n := by
  rw [sumTo_range, sumTo_range]
  have hp : ((List.range n).map σ).Perm (List.range n) := by
    rw [List.perm_ext_iff_of_nodup (nodup_map List.nodup_range fun x hx y hy e => h.2 x y (List.mem_range.1 hx) (List.mem_range.1 hy) e) List.nodup_range]
    intro a
    constructor
    · intro ha
      obtain ⟨i, hi, rfl⟩ := List.mem_map.1 ha
      exact List.mem_range.2 (h.1 i (List.mem_range.1 hi))
    · intro ha
      obtain ⟨i, hi, rfl⟩ := h.onto (List.mem_range.1 ha)
      exact List.mem_map.2 ⟨i, List.mem_range.2 hi, rfl⟩
  have := perm_sum (hp.map f)
  rw [List.map_map] at this
  exact this
theorem Perfect.congr {n : Nat} {σ τ : Nat → Nat} (h : Perfect n σ) (e : ∀ i, i < n → τ i = σ i) : Perfect n τ :=
  ⟨fun i hi => by rw [e i hi]; exact h.1 i hi, fun i j hi hj he => h.2 i j hi hj (by rw [← e i hi, ← e j hj, he])⟩

def Feas (n : Nat) (c : Nat → Nat → Int) (u v : Nat → Int) : Prop := ∀ i j, i < n → j < n → u i + v j ≤ c i j
def Tight (n : Nat) (c : Nat → Nat → Int) (u v : Nat → Int) (σ : Nat → Nat) : Prop := ∀ i, i < n → u i + v (σ i) = c i (σ i)
def costOf (c : Nat → Nat → Int) (σ : Nat → Nat) (n : Nat) : Int := sumTo (fun i => c i (σ i)) n
def Least (n : Nat) (c : Nat → Nat → Int) (σ : Nat → Nat) : Prop := Perfect n σ ∧ ∀ τ, Perfect n τ → costOf c σ n ≤ costOf c τ n
/-- the first of the least ones -/
def First (n : Nat) (c : Nat → Nat → Int) (σ : Nat → Nat) : Prop :=
  Least n c σ ∧ ∀ i j, i < n → j < σ i → ¬ ∃ τ, Least n c τ ∧ (∀ k, k < i → τ k = σ k) ∧ τ i = j
theorem First.unique {n : Nat} {c : Nat → Nat → Int} {σ τ : Nat → Nat} (h : First n c σ) (k : First n c τ) : ∀ i, i < n → σ i = τ i := by
  intro i
  induction i using Nat.strongRecOn with
  | _ i ih =>
    intro hi
    rcases Nat.lt_trichotomy (σ i) (τ i) with h1 | h1 | h1
    · exact (k.2 i (σ i) hi h1 ⟨σ, h.1, fun q hq => ih q hq (by omega), rfl⟩).elim
    · exact h1
    · exact (h.2 i (τ i) hi h1 ⟨τ, k.1, fun q hq => (ih q hq (by omega)).symm, rfl⟩).elim

section
variable {n : Nat} {c : Nat → Nat → Int} {u v : Nat → Int}
theorem cost_ge (hf : Feas n c u v) {τ : Nat → Nat} (ht : Perfect n τ) : sumTo u n + sumTo v n ≤ costOf c τ n := by
  rw [← ht.sum v, ← sumTo_add]
  exact sumTo_le fun i hi => hf i (τ i) hi (ht.1 i hi)
theorem cost_tight {τ : Nat → Nat} (ht : Perfect n τ) (h : Tight n c u v τ) : costOf c τ n = sumTo u n + sumTo v n := by
  rw [← ht.sum v, ← sumTo_add]
  exact sumTo_congr fun i hi => (h i hi).symm
theorem tight_cost (hf : Feas n c u v) {τ : Nat → Nat} (ht : Perfect n τ) (h : costOf c τ n = sumTo u n + sumTo v n) : Tight n c u v τ := by
  rw [← ht.sum v, ← sumTo_add] at h
  exact sumTo_eq (fun i hi => hf i (τ i) hi (ht.1 i hi)) h.symm
theorem least_iff (hf : Feas n c u v) {σ : Nat → Nat} (hp : Perfect n σ) (hs : Tight n c u v σ) (τ : Nat → Nat) : Least n c τ ↔ Perfect n τ ∧ Tight n c u v τ := by
  constructor
  · rintro ⟨h1, h2⟩
    refine ⟨h1, tight_cost hf h1 ?_⟩
    have a := cost_ge hf h1
    have b := h2 σ hp
    rw [cost_tight hp hs] at b
    omega
  · rintro ⟨h1, h2⟩
    refine ⟨h1, fun ρ hρ => ?_⟩
    rw [cost_tight h1 h2]
    exact cost_ge hf hρ
end
/-- two of least cost cost the same -/
theorem Least.same {n : Nat} {c : Nat → Nat → Int} {σ τ : Nat → Nat} (h : Least n c σ) (k : Least n c τ) : costOf c σ n = costOf c τ n := by
  have := h.2 τ k.1
  have := k.2 σ h.1
  omega
end Go.Proofs.Ytgmhinmakomabaa
