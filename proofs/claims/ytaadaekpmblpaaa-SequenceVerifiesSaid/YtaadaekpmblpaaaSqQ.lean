/-
  Arguments as data: rows of numbers, pairs, alignments. No condition.
-/
import Derived.Test.YtaadaekpmblpaaaSqO
import Derived.Deep.Matrix
import Derived.Lib.SmallJoins
namespace Go.Proofs.Ytaadaekpmblpaaa
open Go.ChangeShapes Go.WideShapes Go.ChangeAt Go.RowKit Go.Deep
set_option linter.unusedVariables false

section
variable {H : Type} {enc : TypeId × Value → H} {W : World} {held : Bool}
/-- rows of numbers that came in -/
theorem open_mat {fuel : Nat} {v : Value} {x : DataW H × List MemPlace} (h : DataW.trod enc Try.prog W 0 (fun _ => true) held fuel 23 [v] = some x) : ∃ A n c rows, v = .slice A n c ∧ n ≤ maxLen ∧ Mat W W.heap.size A n rows := by
  rcases open_int_rows Try.underlying23 Try.underlying22 Try.underlying3 (by kernel_rfl) (by kernel_rfl) h with ⟨h0, -⟩ | ⟨a, len, cap, A, L, C, Z, hcs, -, hl, hm, -, hr⟩
  · simp at h0
    exact ⟨none, 0, 0, [], h0, by unfold maxLen; omega, ⟨[], Reads.none_, rfl, fun i h r h1 => by simp at h1⟩⟩
  · simp at hcs
    refine ⟨some a, len, cap, (List.range len).map fun r => (Z r).take (L r), hcs, by omega, ⟨(List.range len).map fun r => (A r, L r, C r), ⟨by simp, fun hn => ⟨a, rfl, ?_, fun j u hu => ?_⟩⟩, by simp, fun i hd r h1 h2 => ?_⟩⟩
    · have := World.block_lt_of_cell? W _ (hr 0 (by omega)).1
      rwa [block_of_add] at this
    · rw [List.map_map, List.getElem?_map] at hu
      rcases Nat.lt_or_ge j len with hj | hj
      · rw [List.getElem?_range hj] at hu
        simp at hu
        rw [(hr j (by omega)).1, ← hu]
        rfl
      · rw [List.getElem?_eq_none (by simpa using hj)] at hu; cases hu
    · rw [List.getElem?_map] at h1 h2
      rcases Nat.lt_or_ge i len with hi | hi
      · rw [List.getElem?_range hi] at h1 h2
        simp at h1 h2
        subst h1 h2
        obtain ⟨-, q1, q2, q3, q4, q5, q6⟩ := hr i (by omega)
        cases hA : A i with
        | none =>
          have := q5 hA
          have hL : L i = 0 := by omega
          simp only [hL]
          exact ⟨by simp, fun h => absurd h (by omega)⟩
        | some a' =>
          have := reads_of_ints (W := W) (k := .i64) (x := a') q1 q3 (fun c hc => (q6 a' hA).2 c (by omega))
          exact this
      · rw [List.getElem?_eq_none (by simpa using hi)] at h1; cases h1
/-- pairs that came in -/
theorem open_prs {fuel : Nat} {v : Value} {x : DataW H × List MemPlace} (h : DataW.trod enc Try.prog W 0 (fun _ => true) held fuel 26 [v] = some x) : ∃ A n c ps, v = .slice A n c ∧ n ≤ maxLen ∧ Prs W W.heap.size A n ps := by
  have hce : Try.prog.cellsOf 45 = 2 := by kernel_rfl
  have hc3 : Try.prog.cellsOf 3 = 1 := by kernel_rfl
  rcases open_slice Try.underlying26 h with ⟨h0, -⟩ | ⟨a, len, cap, m, n, D, Pl, hcs, -, hl, hm, hmm, -, hr⟩
  · simp at h0
    exact ⟨none, 0, 0, [], h0, by unfold maxLen; omega, Reads.none_⟩
  · simp at hcs hmm
    subst hmm
    have each : ∀ i, i < m → ∃ p : Int × Int, W.cell? (a.add (i * 2)) = some (.int .i64 p.1) ∧ W.cell? (a.add (i * 2 + 1)) = some (.int .i64 p.2) := by
      intro i hi
      obtain ⟨cs', h1, h2⟩ := hr i hi
      rw [hce] at h1
      obtain ⟨xs, m', -, -, hlen, hxl, hel⟩ := DataW.trod_array (by kernel_rfl : Try.prog.underlying 45 = some (.array 2 3)) h2
      rw [hce] at hlen
      obtain ⟨c0, c1, rfl⟩ : ∃ c0 c1, cs' = [c0, c1] := by
        match cs', hlen with
        | [c0, c1], _ => exact ⟨c0, c1, rfl⟩
      have e0 := hel 0 (by omega)
      have e1 := hel 1 (by omega)
      rw [hc3] at e0 e1
      simp at e0 e1
      obtain ⟨y0, hy0⟩ : ∃ y, xs[0]? = some y := ⟨_, List.getElem?_eq_getElem (by omega)⟩
      obtain ⟨y1, hy1⟩ : ∃ y, xs[1]? = some y := ⟨_, List.getElem?_eq_getElem (by omega)⟩
      rw [hy0] at e0
      rw [hy1] at e1
      obtain ⟨n0, q0, -, -⟩ := DataW.trod_int Try.underlying3 e0
      obtain ⟨n1, q1, -, -⟩ := DataW.trod_int Try.underlying3 e1
      simp at q0 q1
      subst q0 q1
      unfold World.cells? at h1
      simp [List.range_succ, List.mapM_cons, add_of_add] at h1
      refine ⟨(n0, n1), ?_, ?_⟩
      · cases hc : W.cell? (a.add (i * 2)) <;> simp [hc] at h1 ⊢
        · cases hc' : W.cell? (a.add (i * 2 + 1)) <;> simp [hc'] at h1
          exact h1.1
      · cases hc : W.cell? (a.add (i * 2)) <;> simp [hc] at h1 ⊢
        · cases hc' : W.cell? (a.add (i * 2 + 1)) <;> simp [hc'] at h1 ⊢
          exact h1.2
    obtain ⟨f, hf⟩ := choose_lt each
    refine ⟨some a, len, m, (List.range len).map f, hcs, by omega, ⟨by rw [pcells_len]; simp, fun hn => ⟨a, rfl, ?_, fun j u hu => ?_⟩⟩⟩
    · have := World.block_lt_of_cell? W _ (hf 0 (by omega)).1
      rwa [block_of_add] at this
    · have hj := (List.getElem?_eq_some_iff.1 hu).1
      rw [pcells_len] at hj
      simp at hj
      obtain ⟨k, hk⟩ : ∃ k, j / 2 = k := ⟨_, rfl⟩
      have hp := pcells_at ((List.range len).map f) k (f k) (by rw [List.getElem?_map, List.getElem?_range (by omega)]; rfl)
      obtain ⟨g1, g2⟩ := hf k (by omega)
      rcases Nat.mod_two_eq_zero_or_one j with h2 | h2
      · obtain rfl : j = k * 2 := by omega
        rw [hp.1] at hu
        injection hu with hu
        rw [g1, hu]
      · obtain rfl : j = k * 2 + 1 := by omega
        rw [hp.2] at hu
        injection hu with hu
        rw [g2, hu]
theorem open_mat' {a : Option Addr} {len cap : Nat} {d : DataW H} {p : List MemPlace} (h : DataW.Trod enc Try.prog W 0 (fun _ => true) held 23 (.slice a len cap) d p) : len ≤ maxLen ∧ ∃ rows, Mat W W.heap.size a len rows := by
  obtain ⟨fuel, hf⟩ := h
  obtain ⟨A, n, c, rows, he, hm, hr⟩ := open_mat (v := .slice a len cap) hf
  injection he with e1 e2 e3
  subst e1 e2
  exact ⟨hm, rows, hr⟩
theorem open_prs' {a : Option Addr} {len cap : Nat} {d : DataW H} {p : List MemPlace} (h : DataW.Trod enc Try.prog W 0 (fun _ => true) held 26 (.slice a len cap) d p) : len ≤ maxLen ∧ ∃ ps, Prs W W.heap.size a len ps := by
  obtain ⟨fuel, hf⟩ := h
  obtain ⟨A, n, c, ps, he, hm, hr⟩ := open_prs (v := .slice a len cap) hf
  injection he with e1 e2 e3
  subst e1 e2
  exact ⟨hm, ps, hr⟩
theorem open_al {r : Reach} {b0 : Nat} {v : Value} {d : DataW H} {p : List MemPlace} (hv : Value.okWide Try.prog W r b0 28 v) (h : DataW.Trod enc Try.prog W 0 (fun _ => true) held 28 v d p) :
    ∃ A n c x A1 n1 c1 ps pot, v = .agg #[.slice A n c, .int .i64 x, .slice A1 n1 c1] ∧ n ≤ maxLen ∧ n1 ≤ maxLen ∧ Prs W W.heap.size A n ps ∧ Mat W W.heap.size A1 n1 pot ∧ (Lit.int .i64 x).wf = true := by
  obtain ⟨v0, v1, v2, y0, y1, y2, n, rfl, -, -, h0, h1, h2⟩ := Go.Joins.open_agg3 Try.underlying28 (by kernel_rfl) (by kernel_rfl) hv h
  obtain ⟨A, n', c, ps, rfl, hm, hr⟩ := open_prs h0
  obtain ⟨x, hx, -, hw⟩ := DataW.trod_int Try.underlying3 h1
  simp at hx
  subst hx
  obtain ⟨A1, n1, c1, pot, rfl, hm1, hr1⟩ := open_mat h2
  exact ⟨A, n', c, x, A1, n1, c1, ps, pot, rfl, hm, hm1, hr, hr1, hw⟩
end
end Go.Proofs.Ytaadaekpmblpaaa
