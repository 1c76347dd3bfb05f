/-
  Arguments as data: rows of numbers. No condition.
-/
import Derived.Test.YtgmhinmakomabaaAsW
import Derived.Deep.Matrix
import Derived.Lib.SmallJoins
namespace Go.Proofs.Ytgmhinmakomabaa
open Go.ChangeShapes Go.WideShapes Go.ChangeAt Go.RowKit Go.Deep
set_option linter.unusedVariables false

section
variable {H : Type} {enc : TypeId × Value → H} {W : World} {held : Bool}
/-- rows of numbers that came in -/
theorem open_mat {fuel : Nat} {v : Value} {x : DataW H × List MemPlace} (h : DataW.trod enc Try.prog W 0 (fun _ => true) held fuel 22 [v] = some x) : ∃ A n c rows, v = .slice A n c ∧ n ≤ maxLen ∧ Mat W W.heap.size A n rows := by
  rcases open_int_rows Try.underlying22 Try.underlying25 Try.underlying3 (by kernel_rfl) (by kernel_rfl) h with ⟨h0, -⟩ | ⟨a, len, cap, A, L, C, Z, hcs, -, hl, hm, -, hr⟩
  · simp at h0
    exact ⟨none, 0, 0, [], h0, by unfold maxLen; omega, ⟨[], Reads.none_, rfl, fun i h r h1 => by simp at h1⟩⟩
  · simp at hcs
    refine ⟨some a, len, cap, (List.range len).map fun r => (Z r).take (L r), hcs, by omega, ⟨(List.range len).map fun r => (A r, L r, C r), ⟨by simp, fun hn => ⟨a, rfl, ?_, fun j u hu => ?_⟩⟩, by simp, fun i hd r h1 h2 => ?_⟩⟩
    · have := World.block_lt_of_cell? W _ (hr 0 (by omega)).1
      rwa [block_of_add] at this
    · rw [List.map_map, List.getElem?_map] at hu
      rcases Nat.lt_or_ge j len with hj | hj
      · rw [List.getElem?_range hj] at hu
        simp at hu
        rw [(hr j (by omega)).1, ← hu]
        rfl
      · rw [List.getElem?_eq_none (by simpa using hj)] at hu; cases hu
    · rw [List.getElem?_map] at h1 h2
      rcases Nat.lt_or_ge i len with hi | hi
      · rw [List.getElem?_range hi] at h1 h2
        simp at h1 h2
        subst h1 h2
        obtain ⟨-, q1, q2, q3, q4, q5, q6⟩ := hr i (by omega)
        cases hA : A i with
        | none =>
          have := q5 hA
          have hL : L i = 0 := by omega
          simp only [hL]
          exact ⟨by simp, fun h => absurd h (by omega)⟩
        | some a' =>
          have := reads_of_ints (W := W) (k := .i64) (x := a') q1 q3 (fun c hc => (q6 a' hA).2 c (by omega))
          exact this
      · rw [List.getElem?_eq_none (by simpa using hi)] at h1; cases h1
theorem open_mat' {a : Option Addr} {len cap : Nat} {d : DataW H} {p : List MemPlace} (h : DataW.Trod enc Try.prog W 0 (fun _ => true) held 22 (.slice a len cap) d p) : len ≤ maxLen ∧ ∃ rows, Mat W W.heap.size a len rows := by
  obtain ⟨fuel, hf⟩ := h
  obtain ⟨A, n, c, rows, he, hm, hr⟩ := open_mat (v := .slice a len cap) hf
  injection he with e1 e2 e3
  subst e1 e2
  exact ⟨hm, rows, hr⟩
end
end Go.Proofs.Ytgmhinmakomabaa
