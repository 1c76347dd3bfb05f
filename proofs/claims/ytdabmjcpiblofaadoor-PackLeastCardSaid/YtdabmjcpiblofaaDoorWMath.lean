/-
  The bytes of a number, and the number that bytes begin with: plain lists, no program. No condition.
-/
import Derived.Test.YtdabmjcpiblofaaDoorBase
import Derived.Laws.BitsAllLaws
import Derived.Laws.BitsLemmas
namespace Go.Proofs.YtdabmjcpiblofaaDoor
open Go.RowKit
set_option linter.unusedVariables false

/-- the bytes of a number that is not negative -/
def encU (u : Nat) : List Nat := if u < 128 then [u] else (u % 128 + 128) :: encU (u / 128)
termination_by u
decreasing_by omega

theorem encU_lt {u : Nat} (h : u < 128) : encU u = [u] := by rw [encU, if_pos h]
theorem encU_ge {u : Nat} (h : 128 ≤ u) : encU u = (u % 128 + 128) :: encU (u / 128) := by rw [encU, if_neg (by omega)]

theorem encU_len (k : Nat) : ∀ u, u < 128 ^ (k + 1) → (encU u).length ≤ k + 1 := by
  induction k with
  | zero => intro u h; rw [encU_lt (by simpa using h)]; simp
  | succ k ih =>
    intro u h
    by_cases h1 : u < 128
    · rw [encU_lt h1]; simp
    · rw [encU_ge (by omega), List.length_cons]
      have := ih (u / 128) (Nat.div_lt_of_lt_mul (by rw [Nat.mul_comm]; simpa [Nat.pow_succ] using h))
      omega
theorem encU_len10 {u : Nat} (h : u < 18446744073709551616) : (encU u).length ≤ 10 := by
  have e : (128 : Nat) ^ (9 + 1) = 1180591620717411303424 := by decide
  exact encU_len 9 u (by rw [e]; omega)
theorem encU_pos (u : Nat) : 0 < (encU u).length := by rw [encU]; split <;> simp
theorem encU_byte (n : Nat) : ∀ u, u ≤ n → ∀ x ∈ encU u, x < 256 := by
  induction n with
  | zero => intro u h x hx; rw [encU_lt (by omega)] at hx; simp at hx; omega
  | succ n ih =>
    intro u h x hx
    by_cases h1 : u < 128
    · rw [encU_lt h1] at hx; simp at hx; omega
    · rw [encU_ge (by omega)] at hx
      rcases List.mem_cons.1 hx with rfl | hx
      · omega
      · exact ih (u / 128) (by omega) x hx

/-- numbers as numbers that are not negative -/
def zig (n : Int) : Nat := if 0 ≤ n then (2 * n).toNat else (-2 * n - 1).toNat
theorem zig_lt {n : Int} (h : -9223372036854775808 ≤ n) (h' : n ≤ 9223372036854775807) : zig n < 18446744073709551616 := by unfold zig; split <;> omega

/-- the bytes of a number -/
def encI (n : Int) : List Nat := encU (zig n)
theorem encI_len {n : Int} (h : -9223372036854775808 ≤ n) (h' : n ≤ 9223372036854775807) : (encI n).length ≤ 10 := encU_len10 (zig_lt h h')
theorem encI_byte (n : Int) : ∀ x ∈ encI n, x < 256 := encU_byte _ _ (Nat.le_refl _)

theorem nat_not64 (y : Nat) (h : y < 18446744073709551616) : 18446744073709551615 ^^^ y = 18446744073709551615 - y := by
  have h1 := BitVec.toNat_not (x := BitVec.ofNat 64 y)
  rw [BitVec.not_def, BitVec.toNat_xor, BitVec.toNat_allOnes, BitVec.toNat_ofNat, Nat.mod_eq_of_lt (by omega)] at h1
  simpa using h1
theorem bits_zig (n : Int) (h : n < 0) (h' : -9223372036854775808 ≤ n) : bits BinOp.xor IntKind.u64 IntKind.u64.max (IntKind.u64.wrap (IntKind.u64.wrap n * 2)) = (zig n : Int) := by
  have e1 : IntKind.u64.max = ((18446744073709551615 : Nat) : Int) := by decide
  have e2 : IntKind.u64.wrap (IntKind.u64.wrap n * 2) = (((18446744073709551616 + 2 * n).toNat : Nat) : Int) := by
    simp only [IntKind.wrap_u64]
    omega
  rw [e1, e2, u64_xor_nat _ _ (by omega) (by omega), nat_not64 _ (by omega)]
  unfold zig
  rw [if_neg (by omega)]
  omega
theorem ref_zig (n : Int) (h : n < 0) (h' : -9223372036854775808 ≤ n) : -(n + 1) * 2 + 1 = (zig n : Int) := by
  unfold zig
  rw [if_neg (by omega)]
  omega
theorem quo128 {x : Nat} (h : x < 18446744073709551616) : IntKind.u64.wrap ((x : Int) / 128) = ((x / 128 : Nat) : Int) := by rw [IntKind.wrap_u64]; omega
theorem zig_pos (n : Int) (h : ¬ n < 0) : n * 2 = (zig n : Int) := by
  unfold zig
  rw [if_pos (by omega)]
  omega
theorem bits_or128 (x : Nat) : bits BinOp.or IntKind.u8 ((x : Int) % 256) 128 = (x : Int) % 128 + 128 := by
  have h : ∀ r : Fin 256, bits BinOp.or IntKind.u8 ((r.val : Nat) : Int) 128 = ((r.val % 128 + 128 : Nat) : Int) := by decide +kernel
  have := h ⟨x % 256, by omega⟩
  simp only [Int.natCast_emod] at this
  rw [show ((256 : Nat) : Int) = 256 from rfl] at this
  rw [this]
  omega

/-- the number that bytes begin with, and how many bytes it has; i bytes have been read before, their value is acc -/
def scan : Nat → Nat → List Nat → Option (Nat × Nat)
  | _, _, [] => none
  | i, acc, x :: r => if (i = 9 ∧ 1 < x) ∨ (0 < i ∧ x = 0) then none else if x < 128 then some (acc + x % 128 * 2 ^ (7 * i), i + 1) else scan (i + 1) (acc + x % 128 * 2 ^ (7 * i)) r

def unzig (u : Nat) : Int := if u % 2 = 1 then -((u / 2 : Nat) : Int) - 1 else ((u / 2 : Nat) : Int)

/-- the number at a position, and the position behind it -/
def numP (bs : List Nat) (p : Nat) : Option (Int × Nat) := (scan 0 0 (bs.drop p)).map fun y => (unzig y.1, p + y.2)

theorem pow7_le {i : Nat} (h : i ≤ 9) : 2 ^ (7 * i) ≤ 9223372036854775808 := by
  have : (2 : Nat) ^ (7 * i) ≤ 2 ^ 63 := Nat.pow_le_pow_right (by omega) (by omega)
  simpa using this
theorem pow7_succ (i : Nat) : 2 ^ (7 * (i + 1)) = 128 * 2 ^ (7 * i) := by
  rw [Nat.mul_add, Nat.pow_add]; omega
theorem acc_step {i acc x : Nat} (h : acc < 2 ^ (7 * i)) : acc + x % 128 * 2 ^ (7 * i) < 2 ^ (7 * (i + 1)) := by
  rw [pow7_succ]
  have h1 : x % 128 * 2 ^ (7 * i) ≤ 127 * 2 ^ (7 * i) := Nat.mul_le_mul_right _ (by omega)
  omega
theorem acc_le {i acc x : Nat} (h : acc < 2 ^ (7 * i)) (hi : i ≤ 9) (hx : ¬ (i = 9 ∧ 1 < x)) : x % 128 * 2 ^ (7 * i) + 2 ^ (7 * i) ≤ 18446744073709551616 := by
  by_cases h9 : i = 9
  · subst h9
    have h0 : x % 128 ≤ 1 := by omega
    have h2 : 2 ^ (7 * 9) = 9223372036854775808 := by decide
    clear h
    rw [h2]
    omega
  · have h2 : (2 : Nat) ^ (7 * i) ≤ 2 ^ 56 := Nat.pow_le_pow_right (by omega) (by omega)
    have h3 : (2 : Nat) ^ 56 = 72057594037927936 := by decide
    have h1 : x % 128 * 2 ^ (7 * i) ≤ 127 * 2 ^ (7 * i) := Nat.mul_le_mul_right _ (by omega)
    rw [h3] at h2
    omega
theorem or_join {i acc x : Nat} (h : acc < 2 ^ (7 * i)) (hi : i ≤ 9) (hx : ¬ (i = 9 ∧ 1 < x)) :
    bits BinOp.or IntKind.u64 (acc : Int) ((x % 128 * 2 ^ (7 * i) : Nat) : Int) = ((acc + x % 128 * 2 ^ (7 * i) : Nat) : Int) := by
  have h1 := acc_le h hi hx
  have h2 : 0 < 2 ^ (7 * i) := Nat.pow_pos (by omega)
  rw [u64_or_nat _ _ (by omega) (by omega), Nat.or_comm, nat_join (7 * i) (x % 128 * 2 ^ (7 * i)) acc (Nat.mul_mod_left _ _) h, Nat.add_comm]

theorem scan_bound : ∀ (l : List Nat) (i acc u k : Nat), acc < 2 ^ (7 * i) → i ≤ 9 → scan i acc l = some (u, k) → u < 18446744073709551616 ∧ i < k ∧ k ≤ i + l.length
  | [], i, acc, u, k, _, _, h => by simp [scan] at h
  | x :: r, i, acc, u, k, ha, hi, h => by
    rw [scan] at h
    split at h
    · cases h
    · rename_i hc
      have h1 := acc_le ha hi (fun hh => hc (.inl hh))
      split at h
      · injection h with h
        injection h with e1 e2
        subst e1
        subst e2
        exact ⟨by omega, by omega, by simp⟩
      · rename_i hx
        have hi8 : i + 1 ≤ 9 := by omega
        obtain ⟨a, b, c⟩ := scan_bound r (i + 1) _ u k (acc_step ha) hi8 h
        exact ⟨a, by omega, by simp; omega⟩
theorem numP_bound (bs : List Nat) (p : Nat) : ∀ x q, numP bs p = some (x, q) → (-9223372036854775808 ≤ x ∧ x ≤ 9223372036854775807) ∧ p < q := by
  intro x q h
  unfold numP at h
  cases hs : scan 0 0 (bs.drop p) with
  | none => rw [hs] at h; cases h
  | some y =>
    rw [hs] at h
    obtain ⟨u, k⟩ := y
    simp at h
    obtain ⟨rfl, rfl⟩ := h
    obtain ⟨a, b, _⟩ := scan_bound _ 0 0 u k (by simp) (by omega) hs
    unfold unzig
    split <;> omega
theorem numP_le {bs : List Nat} {p q : Nat} {x : Int} (hp : p ≤ bs.length) (h : numP bs p = some (x, q)) : q ≤ bs.length := by
  unfold numP at h
  cases hs : scan 0 0 (bs.drop p) with
  | none => rw [hs] at h; cases h
  | some y =>
    rw [hs] at h
    obtain ⟨u, k⟩ := y
    simp at h
    obtain ⟨rfl, rfl⟩ := h
    obtain ⟨_, _, c⟩ := scan_bound _ 0 0 u k (by simp) (by omega) hs
    rw [List.length_drop] at c
    omega
theorem drop_cons {bs : List Nat} {p x : Nat} (h : bs[p]? = some x) : bs.drop p = x :: bs.drop (p + 1) := by
  have hp : p < bs.length := (List.getElem?_eq_some_iff.1 h).1
  rw [List.drop_eq_getElem_cons hp]
  congr 1
  rw [List.getElem?_eq_getElem hp] at h
  injection h

end Go.Proofs.YtdabmjcpiblofaaDoor
