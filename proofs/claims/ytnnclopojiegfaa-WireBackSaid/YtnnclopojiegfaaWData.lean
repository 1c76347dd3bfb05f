/-
  Commits as data, and their bytes: plain lists, no program. No condition.
-/
import Derived.Test.YtnnclopojiegfaaWMath
namespace Go.Proofs.Ytnnclopojiegfaa
open Go.RowKit
set_option linter.unusedVariables false

/-- the bytes of a text -/
def txt (s : ByteArray) : List Nat := s.data.toList.map UInt8.toNat
theorem txt_len (s : ByteArray) : (txt s).length = s.size := by unfold txt; rw [List.length_map, Array.length_toList]; rfl
theorem txt_byte (s : ByteArray) : ∀ x ∈ txt s, x < 256 := fun x hx => by
  obtain ⟨b, _, rfl⟩ := List.mem_map.1 hx
  exact UInt8.toNat_lt b
theorem txt_cells (s : ByteArray) : byteCells s = (txt s).map byt := by unfold byteCells txt; rw [List.map_map]; rfl

/-- a write of a commit -/
structure WCell where
  id : Int
  field : Int
  n : Int
  flag : Bool
  text : ByteArray
  ref : Int

structure WCommit where
  stamp : Int
  parents : List Int
  picks : List Int
  note : ByteArray
  writes : List WCell

def i64v (n : Int) : Value := .int .i64 n
def WCell.vals (c : WCell) : List Value := [.int .i64 c.id, .int .i64 c.field, .int .i64 c.n, .bool c.flag, .string c.text, .int .i64 c.ref]

def inI64 (n : Int) : Prop := -9223372036854775808 ≤ n ∧ n ≤ 9223372036854775807
def WCell.ok (c : WCell) : Prop := inI64 c.id ∧ inI64 c.field ∧ inI64 c.n ∧ inI64 c.ref
def WCommit.ok (c : WCommit) : Prop := inI64 c.stamp ∧ (∀ x ∈ c.parents, inI64 x) ∧ (∀ x ∈ c.picks, inI64 x) ∧ ∀ x ∈ c.writes, x.ok

def encT (s : ByteArray) : List Nat := encI s.size ++ txt s
def encL (l : List Int) : List Nat := encI l.length ++ l.flatMap encI
def encF (b : Bool) : List Nat := if b then [1] else [0]
def encC (c : WCell) : List Nat := encI c.id ++ encI c.field ++ encI c.n ++ encF c.flag ++ encT c.text ++ encI c.ref
def encCommit (c : WCommit) : List Nat := encI c.stamp ++ encL c.parents ++ encL c.picks ++ encT c.note ++ encI c.writes.length ++ c.writes.flatMap encC
def encCommits (l : List WCommit) : List Nat := encI l.length ++ l.flatMap encCommit

/-- a measure: an upper bound of the bytes -/
def WCell.size (c : WCell) : Nat := c.text.size
def sumSizes (l : List WCell) : Nat := (l.map WCell.size).sum
def WCommit.size (c : WCommit) : Nat := c.parents.length + c.picks.length + c.note.size + c.writes.length + sumSizes c.writes

theorem encI_len' {n : Int} (h : inI64 n) : (encI n).length ≤ 10 := encI_len h.1 h.2
theorem encI_nat {n : Nat} (h : n ≤ 1000000000) : (encI (n : Int)).length ≤ 10 := encI_len (by omega) (by omega)
theorem encT_len {s : ByteArray} (h : s.size ≤ 1000000000) : (encT s).length ≤ 10 + s.size := by
  unfold encT; rw [List.length_append, txt_len]; have := encI_nat h; omega
theorem flatI_len {l : List Int} (h : ∀ x ∈ l, inI64 x) : (l.flatMap encI).length ≤ 10 * l.length := by
  induction l with
  | nil => simp
  | cons x l ih =>
    simp only [List.flatMap_cons, List.length_append, List.length_cons]
    have h1 := encI_len' (h x (by simp))
    have h2 := ih (fun y hy => h y (by simp [hy]))
    omega
theorem encL_len {l : List Int} (h : ∀ x ∈ l, inI64 x) (hl : l.length ≤ 1000000000) : (encL l).length ≤ 10 + 10 * l.length := by
  unfold encL; rw [List.length_append]; have := encI_nat hl; have := flatI_len h; omega
theorem encC_len {c : WCell} (h : c.ok) (hs : c.text.size ≤ 1000000000) : (encC c).length ≤ 60 + c.size := by
  obtain ⟨h1, h2, h3, h4⟩ := h
  have a1 := encI_len' h1
  have a2 := encI_len' h2
  have a3 := encI_len' h3
  have a4 := encI_len' h4
  have a5 := encT_len hs
  have a6 : (encF c.flag).length = 1 := by unfold encF; split <;> rfl
  unfold encC WCell.size
  simp only [List.length_append]
  omega
theorem sum_mem {l : List WCell} {c : WCell} (h : c ∈ l) : c.text.size ≤ sumSizes l := by
  induction l with
  | nil => cases h
  | cons x l ih =>
    unfold sumSizes at *
    simp only [List.map_cons, List.sum_cons]
    rcases List.mem_cons.1 h with rfl | h
    · unfold WCell.size; omega
    · have := ih h; omega
theorem flatC_len {l : List WCell} (h : ∀ x ∈ l, x.ok) (hs : sumSizes l ≤ 1000000000) : (l.flatMap encC).length ≤ 60 * l.length + sumSizes l := by
  induction l with
  | nil => simp
  | cons x l ih =>
    have e : sumSizes (x :: l) = x.size + sumSizes l := by unfold sumSizes; simp
    rw [e] at hs ⊢
    simp only [List.flatMap_cons, List.length_append, List.length_cons]
    have h1 := encC_len (h x (by simp)) (by unfold WCell.size at hs; omega)
    have h2 := ih (fun y hy => h y (by simp [hy])) (by omega)
    omega

end Go.Proofs.Ytnnclopojiegfaa
