/-
  Keys as numbers: plain. No condition.
-/
import Derived.Test.YtikabbpipdekfaaOwn
namespace Go.Proofs.Ytikabbpipdekfaa
set_option linter.unusedVariables false

/-- the number of a letter -/
def dg (c : UInt8) : Nat := c.toNat - 97
def Let (c : UInt8) : Prop := 97 ≤ c.toNat ∧ c.toNat ≤ 122
def Lets (l : List UInt8) : Prop := ∀ c ∈ l, Let c
/-- a text as a number of k digits (the first k letters) -/
def V : Nat → List UInt8 → Nat
  | 0, _ => 0
  | _ + 1, [] => 0
  | k + 1, c :: r => dg c * 26 ^ k + V k r
theorem V_nil (k : Nat) : V k [] = 0 := by cases k <;> rfl
theorem V_cons (k : Nat) (c : UInt8) (r : List UInt8) : V (k + 1) (c :: r) = dg c * 26 ^ k + V k r := rfl
theorem dg_le {c : UInt8} (h : Let c) : dg c ≤ 25 := by unfold dg; have := h.2; omega
theorem Lets.cons {c : UInt8} {l : List UInt8} (h : Lets (c :: l)) : Let c ∧ Lets l := ⟨h c (by simp), fun x hx => h x (by simp [hx])⟩
theorem Lets.app {a b : List UInt8} (h : Lets a) (h' : Lets b) : Lets (a ++ b) := fun x hx => (List.mem_append.1 hx).elim (h x) (h' x)
theorem Lets.take {a : List UInt8} (h : Lets a) (n : Nat) : Lets (a.take n) := fun x hx => h x (List.mem_of_mem_take hx)
theorem V_lt : ∀ (k : Nat) (l : List UInt8), Lets l → V k l < 26 ^ k
  | 0, l, _ => by show 0 < 1; omega
  | k + 1, [], _ => by rw [V_nil]; exact Nat.pow_pos (by omega)
  | k + 1, c :: r, h => by
    have h1 := V_lt k r h.cons.2
    have h2 := dg_le h.cons.1
    rw [V_cons, Nat.pow_succ]
    have : dg c * 26 ^ k ≤ 25 * 26 ^ k := Nat.mul_le_mul_right _ h2
    omega
/-- texts compare as their numbers, if the second one does not end in 'a' -/
def Fin (l : List UInt8) : Prop := l.getLast? ≠ some 97
theorem Fin.cons {c : UInt8} {l : List UInt8} (h : Fin (c :: l)) (hl : l ≠ []) : Fin l := by
  unfold Fin at *
  rwa [List.getLast?_cons_of_ne_nil hl] at h
theorem V_pos : ∀ (k : Nat) (l : List UInt8), Lets l → Fin l → l ≠ [] → l.length ≤ k → 0 < V k l
  | 0, l, _, _, h, h' => absurd (List.eq_nil_of_length_eq_zero (by omega)) h
  | k + 1, [], _, _, h, _ => absurd rfl h
  | k + 1, c :: r, h, hf, _, hl => by
    rw [V_cons]
    by_cases hr : r = []
    · subst hr
      have h1 := h.cons.1
      have h2 : c ≠ 97 := fun e => hf (by simp [e])
      have h3 : c.toNat ≠ 97 := fun e => h2 (UInt8.toNat_inj.1 e)
      have h4 : 1 ≤ dg c := by unfold dg; have := h1.1; omega
      have : 1 * 26 ^ k ≤ dg c * 26 ^ k := Nat.mul_le_mul_right _ h4
      have := Nat.pow_pos (n := k) (show 0 < 26 by omega)
      omega
    · have := V_pos k r h.cons.2 (hf.cons hr) hr (by simp at hl; omega)
      omega
theorem lt_iff : ∀ (k : Nat) (a b : List UInt8), Lets a → Lets b → a.length ≤ k → b.length ≤ k → Fin b → (a < b ↔ V k a < V k b)
  | k, [], [], _, _, _, _, _ => by simp
  | k, [], c :: r, _, hb, _, hl, hf => by
    have := V_pos k _ hb hf (by simp) hl
    rw [V_nil]
    simp [this]
  | k, c :: r, [], _, _, _, _, _ => by simp [V_nil]
  | 0, c :: r, _ :: _, _, _, h, _, _ => by simp at h
  | k + 1, c :: r, c' :: r', ha, hb, h, h', hf => by
    rw [V_cons, V_cons, List.cons_lt_cons_iff]
    have l1 := V_lt k r ha.cons.2
    have l2 := V_lt k r' hb.cons.2
    have d1 := ha.cons.1
    have d2 := hb.cons.1
    have key : ∀ x y : UInt8, Let x → Let y → (x < y ↔ dg x < dg y) := fun x y hx hy => by
      rw [UInt8.lt_iff_toNat_lt]
      unfold dg
      have := hx.1; have := hy.1
      omega
    constructor
    · rintro (h1 | ⟨rfl, h1⟩)
      · have h2 := (key _ _ d1 d2).1 h1
        have : (dg c + 1) * 26 ^ k ≤ dg c' * 26 ^ k := Nat.mul_le_mul_right _ h2
        rw [Nat.add_mul] at this
        omega
      · by_cases hr : r' = []
        · subst hr; simp at h1
        · have := (lt_iff k r r' ha.cons.2 hb.cons.2 (by simpa using h) (by simpa using h') (hf.cons hr)).1 h1
          omega
    · intro h1
      rcases Nat.lt_trichotomy (dg c) (dg c') with h2 | h2 | h2
      · exact .inl ((key _ _ d1 d2).2 h2)
      · have e : c = c' := by
          apply UInt8.toNat_inj.1
          unfold dg at h2
          have := d1.1; have := d2.1
          omega
        subst e
        refine .inr ⟨rfl, ?_⟩
        by_cases hr : r' = []
        · subst hr; rw [V_nil] at h1; omega
        · exact (lt_iff k r r' ha.cons.2 hb.cons.2 (by simpa using h) (by simpa using h') (hf.cons hr)).2 (by omega)
      · exfalso
        have : (dg c' + 1) * 26 ^ k ≤ dg c * 26 ^ k := Nat.mul_le_mul_right _ h2
        rw [Nat.add_mul] at this
        omega
theorem V_app : ∀ (a b : List UInt8) (k : Nat), V (a.length + k) (a ++ b) = V a.length a * 26 ^ k + V k b
  | [], b, k => by simp [V]
  | c :: a, b, k => by
    rw [List.length_cons, show a.length + 1 + k = (a.length + k) + 1 by omega, List.cons_append, V_cons, V_app a b k, V_cons, Nat.add_mul, Nat.pow_add, Nat.mul_assoc]
    omega
theorem V_more (l : List UInt8) (k : Nat) : V (l.length + k) l = V l.length l * 26 ^ k := by
  have := V_app l [] k
  rw [List.append_nil, V_nil, Nat.add_zero] at this
  exact this
/-- the first n digits -/
theorem V_take : ∀ (n k : Nat) (l : List UInt8), Lets l → V n l = V (n + k) l / 26 ^ k
  | 0, k, l, h => by
    rw [Nat.zero_add]
    exact (Nat.div_eq_of_lt (V_lt k l h)).symm
  | n + 1, k, [], h => by rw [V_nil, V_nil]; simp
  | n + 1, k, c :: r, h => by
    rw [show n + 1 + k = (n + k) + 1 by omega, V_cons, V_cons, V_take n k r h.cons.2, Nat.pow_add, ← Nat.mul_assoc, Nat.add_comm (dg c * 26 ^ n * 26 ^ k), Nat.add_mul_div_right _ _ (Nat.pow_pos (by omega))]
    omega
theorem V_of_take (n : Nat) (l : List UInt8) : V n (l.take n) = V n l := by
  induction n generalizing l with
  | zero => rfl
  | succ n ih =>
    cases l with
    | nil => rw [List.take_nil]
    | cons c r => rw [List.take_succ_cons, V_cons, V_cons, ih]
theorem V_inj : ∀ (n : Nat) (a b : List UInt8), a.length = n → b.length = n → Lets a → Lets b → V n a = V n b → a = b
  | 0, [], [], _, _, _, _, _ => rfl
  | n + 1, c :: r, c' :: r', h, h', ha, hb, e => by
    rw [V_cons, V_cons] at e
    have l1 := V_lt n r ha.cons.2
    have l2 := V_lt n r' hb.cons.2
    have hd : dg c = dg c' := by
      rcases Nat.lt_trichotomy (dg c) (dg c') with h2 | h2 | h2
      · exfalso
        have : (dg c + 1) * 26 ^ n ≤ dg c' * 26 ^ n := Nat.mul_le_mul_right _ h2
        rw [Nat.add_mul] at this
        omega
      · exact h2
      · exfalso
        have : (dg c' + 1) * 26 ^ n ≤ dg c * 26 ^ n := Nat.mul_le_mul_right _ h2
        rw [Nat.add_mul] at this
        omega
    have e1 : c = c' := by
      apply UInt8.toNat_inj.1
      unfold dg at hd
      have := ha.cons.1.1; have := hb.cons.1.1
      omega
    subst e1
    rw [V_inj n r r' (by simpa using h) (by simpa using h') ha.cons.2 hb.cons.2 (by omega)]
/-- the last digit -/
theorem V_last (a : List UInt8) (c : UInt8) : V (a.length + 1) (a ++ [c]) = V a.length a * 26 + dg c := by
  rw [V_app]; simp [V]
theorem last_form {l : List UInt8} (h : l ≠ []) : ∃ a c, l = a ++ [c] := ⟨l.dropLast, l.getLast h, (List.dropLast_concat_getLast h).symm⟩
theorem fin_iff {l : List UInt8} (h : l ≠ []) (hl : Lets l) : Fin l ↔ V l.length l % 26 ≠ 0 := by
  obtain ⟨a, c, rfl⟩ := last_form h
  have hc := hl c (by simp)
  have := dg_le hc
  rw [List.length_append, List.length_cons, List.length_nil, V_last, Nat.mul_comm, Nat.mul_add_mod, Nat.mod_eq_of_lt (by omega)]
  unfold Fin
  rw [List.getLast?_concat]
  unfold dg
  have h1 := hc.1
  constructor
  · intro h2 h3
    exact h2 (by rw [show c = 97 from UInt8.toNat_inj.1 (by show c.toNat = 97; omega)])
  · intro h2 h3
    injection h3 with h3
    subst h3
    exact h2 rfl

/-- how much a letter at the place n weighs -/
def Bn (n : Nat) : Nat := 26 ^ (60 - n)
theorem Bn_pos (n : Nat) : 0 < Bn n := Nat.pow_pos (by omega)
theorem Bn_up {n : Nat} (h : n < 60) : Bn n = 26 * Bn (n + 1) := by
  unfold Bn
  rw [show 60 - n = (60 - (n + 1)) + 1 by omega, Nat.pow_succ]
  omega
theorem Bn_top {n : Nat} (h : n ≤ 60) : 26 ^ n * Bn n = Bn 0 := by
  unfold Bn
  rw [← Nat.pow_add]
  congr 1
  omega
/-- a key as a number -/
def W (l : List UInt8) : Nat := V 60 l
theorem W_eq {l : List UInt8} (h : l.length ≤ 60) : W l = V l.length l * Bn l.length := by
  have := V_more l (60 - l.length)
  rw [show l.length + (60 - l.length) = 60 by omega] at this
  exact this
theorem W_lt {l : List UInt8} (h : Lets l) : W l < Bn 0 := V_lt 60 l h
theorem V_of_W {l : List UInt8} {n : Nat} (h : Lets l) (hn : n ≤ 60) : V n l = W l / Bn n := by
  have := V_take n (60 - n) l h
  rwa [show n + (60 - n) = 60 by omega] at this
structure Key (l : List UInt8) : Prop where
  pos : l ≠ []
  len : l.length ≤ 60
  lets : Lets l
  fin : Fin l
theorem W_lt_iff {a b : List UInt8} (ha : Lets a) (hal : a.length ≤ 60) (hb : Lets b) (hbl : b.length ≤ 60) (hf : Fin b) : a < b ↔ W a < W b := lt_iff 60 a b ha hb hal hbl hf

/-- the least number above l at the level n that is none of a shorter key -/
def up (L n : Nat) : Nat := if (L / Bn n + 1) % 26 = 0 then L / Bn n + 2 else L / Bn n + 1
def lev (L H n : Nat) : Option Nat := if up L n * Bn n < H then some (up L n) else none
theorem up_ge (L n : Nat) : L / Bn n + 1 ≤ up L n := by unfold up; split <;> omega
theorem up_mod (L n : Nat) : up L n % 26 ≠ 0 := by unfold up; split <;> omega
theorem up_least {L n k : Nat} (h : L / Bn n < k) (hk : k % 26 ≠ 0) : up L n ≤ k := by
  unfold up
  split
  · rename_i h1
    have : L / Bn n + 1 ≠ k := fun e => hk (by rw [← e]; exact h1)
    omega
  · omega
theorem above {L n k : Nat} (h : L < k * Bn n) : L / Bn n < k := Nat.div_lt_of_lt_mul (by rw [Nat.mul_comm]; exact h)
theorem of_above {L n k : Nat} (h : L / Bn n < k) : L < k * Bn n := (Nat.div_lt_iff_lt_mul (Bn_pos n)).1 h
theorem lev_of {L H n k : Nat} (h1 : L < k * Bn n) (h2 : k * Bn n < H) (hk : k % 26 ≠ 0) : lev L H n ≠ none := by
  have := up_least (above h1) hk
  have h3 : up L n * Bn n ≤ k * Bn n := Nat.mul_le_mul_right _ this
  unfold lev
  rw [if_pos (by omega)]
  simp
/-- a number strictly between, at any level, is one of a key of so many letters or fewer -/
theorem lev_some : ∀ (n k L H : Nat), n ≤ 60 → H ≤ Bn 0 → L < k * Bn n → k * Bn n < H → ∃ n', 1 ≤ n' ∧ n' ≤ n ∧ lev L H n' ≠ none
  | 0, k, L, H, hn, hH, h1, h2 => by
    exfalso
    have hk : k < 1 := by
      rcases Nat.lt_or_ge k 1 with h | h
      · exact h
      · have : 1 * Bn 0 ≤ k * Bn 0 := Nat.mul_le_mul_right _ h
        rw [Nat.one_mul] at this
        omega
    have : k = 0 := by omega
    subst this
    rw [Nat.zero_mul] at h1
    omega
  | n + 1, k, L, H, hn, hH, h1, h2 => by
    by_cases hk : k % 26 = 0
    · have e : k * Bn (n + 1) = k / 26 * Bn n := by
        rw [Bn_up (n := n) (by omega), ← Nat.mul_assoc]
        congr 1
        omega
      rw [e] at h1 h2
      obtain ⟨n', a, b, c⟩ := lev_some n (k / 26) L H (by omega) hH h1 h2
      exact ⟨n', a, by omega, c⟩
    · exact ⟨n + 1, by omega, by omega, lev_of h1 h2 hk⟩
/-- at the first level at which there is a key, all of them differ in the last letter alone -/
theorem one_block {L H n k : Nat} (hn : 1 ≤ n) (hn6 : n ≤ 60) (hH : H ≤ Bn 0) (hm : ∀ n', 1 ≤ n' → n' < n → lev L H n' = none) (h1 : L < k * Bn n) (h2 : k * Bn n < H) (hk : k % 26 ≠ 0) : k / 26 = up L n / 26 := by
  have hle := up_least (above h1) hk
  rcases Nat.lt_or_ge (up L n / 26) (k / 26) with h | h
  · exfalso
    obtain ⟨n, rfl⟩ : ∃ n', n = n' + 1 := ⟨n - 1, by omega⟩
    have e : k / 26 * Bn n = k / 26 * 26 * Bn (n + 1) := by rw [Bn_up (by omega), Nat.mul_assoc]
    have g1 : L < k / 26 * 26 * Bn (n + 1) := of_above (by have := up_ge L (n + 1); omega)
    have g2 : k / 26 * 26 * Bn (n + 1) ≤ k * Bn (n + 1) := Nat.mul_le_mul_right _ (by omega)
    rw [← e] at g1 g2
    obtain ⟨n', a, b, c⟩ := lev_some n (k / 26) L H (by omega) hH g1 (by omega)
    exact c (hm n' a (by omega))
  · omega
/-- how many keys there are from the number m on, in its block -/
structure IsCnt (H n m c : Nat) : Prop where
  pos : 1 ≤ c
  blk : m % 26 + c ≤ 26
  lt : (m + (c - 1)) * Bn n < H
  end_ : m % 26 + c = 26 ∨ H ≤ (m + c) * Bn n
theorem IsCnt.unique {H n m c c' : Nat} (h : IsCnt H n m c) (h' : IsCnt H n m c') : c = c' := by
  have key : ∀ {a b : Nat}, IsCnt H n m a → IsCnt H n m b → ¬ a < b := fun {a b} ha hb hlt => by
    have h1 : (m + a) * Bn n ≤ (m + (b - 1)) * Bn n := Nat.mul_le_mul_right _ (by omega)
    have := hb.lt
    have := hb.blk
    rcases ha.end_ with e | e <;> omega
  have := key h h'
  have := key h' h
  omega
/-- what Between finds: the key, or the error -/
def BRes (L H : Nat) (s : List UInt8) (e : Int) : Prop :=
  (e = 0 ∧ ∃ n c, 1 ≤ n ∧ n ≤ 60 ∧ (∀ n', 1 ≤ n' → n' < n → lev L H n' = none) ∧ lev L H n ≠ none ∧ IsCnt H n (up L n) c ∧ s.length = n ∧ Lets s ∧ V n s = up L n + (c - 1) / 2) ∨
  (e = 17 ∧ s = [] ∧ ∀ n', 1 ≤ n' → n' ≤ 60 → lev L H n' = none)
theorem BRes.unique {L H : Nat} {s s' : List UInt8} {e e' : Int} (h : BRes L H s e) (h' : BRes L H s' e') : s = s' ∧ e = e' := by
  rcases h with ⟨h1, n, c, n1, n6, hm, hl, hc, a, b, v⟩ | ⟨h1, h2, h3⟩
  · rcases h' with ⟨h1', n', c', n1', n6', hm', hl', hc', a', b', v'⟩ | ⟨h1', h2', h3'⟩
    · obtain rfl : n = n' := by
        rcases Nat.lt_trichotomy n n' with h | h | h
        · exact absurd (hm' n n1 h) hl
        · exact h
        · exact absurd (hm n' n1' h) hl'
      obtain rfl := hc.unique hc'
      exact ⟨V_inj n s s' a a' b b' (by rw [v, v']), by rw [h1, h1']⟩
    · exact absurd (h3' n n1 n6) hl
  · rcases h' with ⟨h1', n', c', n1', n6', hm', hl', hc', a', b', v'⟩ | ⟨h1', h2', h3'⟩
    · exact absurd (h3 n' n1' n6') hl'
    · exact ⟨by rw [h2, h2'], by rw [h1, h1']⟩
theorem lev_lt {L H n : Nat} (h : lev L H n ≠ none) : up L n * Bn n < H := by
  unfold lev at h
  split at h
  · assumption
  · exact absurd rfl h
/-- a key that was found is a key, and lies between -/
theorem BRes.key {L H : Nat} {s : List UInt8} (h : BRes L H s 0) (hH : H ≤ Bn 0) : Key s ∧ L < W s ∧ W s < H := by
  rcases h with ⟨-, n, c, n1, n6, hm, hl, hc, a, b, v⟩ | ⟨h1, -⟩
  · have hs : s ≠ [] := fun e => by subst e; simp at a; omega
    have hw : W s = (up L n + (c - 1) / 2) * Bn n := by rw [W_eq (by omega), a, v]
    refine ⟨⟨hs, by omega, b, (fin_iff hs b).2 ?_⟩, ?_, ?_⟩
    · rw [a, v]
      have := hc.blk; have := hc.pos; have := up_mod L n
      omega
    · rw [hw]
      exact of_above (by have := up_ge L n; omega)
    · rw [hw]
      have := hc.lt; have := hc.pos
      have h1 : (up L n + (c - 1) / 2) * Bn n ≤ (up L n + (c - 1)) * Bn n := Nat.mul_le_mul_right _ (by omega)
      omega
  · cases h1
/-- of keys between none has fewer letters -/
theorem BRes.short {L H : Nat} {s k : List UInt8} {e : Int} (h : BRes L H s e) (hk : Key k) (h1 : L < W k) (h2 : W k < H) : e = 0 ∧ s.length ≤ k.length := by
  have hp : 1 ≤ k.length := by have := hk.pos; cases k with | nil => exact absurd rfl this | cons => simp
  have hlk : lev L H k.length ≠ none := by
    rw [W_eq hk.len] at h1 h2
    exact lev_of h1 h2 ((fin_iff hk.pos hk.lets).1 hk.fin)
  rcases h with ⟨h0, n, c, n1, n6, hm, hl, hc, a, b, v⟩ | ⟨h0, h2', h3⟩
  · refine ⟨h0, ?_⟩
    rw [a]
    rcases Nat.lt_or_ge k.length n with h | h
    · exact absurd (hm _ hp h) hlk
    · exact h
  · exact absurd (h3 _ hp hk.len) hlk
/-- between numbers of fewer than 60 letters there is a key -/
theorem BRes.room {L H : Nat} {s : List UInt8} {e : Int} (h : BRes L H s e) (hH : H ≤ Bn 0) (h1 : L % 26 = 0) (h2 : H % 26 = 0) (h3 : L < H) : e = 0 := by
  rcases h with ⟨h0, -⟩ | ⟨h0, h2', h4⟩
  · exact h0
  · exfalso
    have e60 : Bn 60 = 1 := rfl
    exact lev_of (L := L) (H := H) (n := 60) (k := L + 1) (by rw [e60]; omega) (by rw [e60]; omega) (by omega) (h4 60 (by omega) (by omega))
theorem W_mod {l : List UInt8} (h : l.length < 60) : W l % 26 = 0 := by
  rw [W_eq (by omega), Bn_up h, Nat.mul_left_comm]
  exact Nat.mul_mod_right _ _
end Go.Proofs.Ytikabbpipdekfaa
