/-
  An assignment that came in, as data. No condition.
-/
import Derived.Test.YtgmhinmakomabaaAsR
import Derived.Lib.SmallJoins
namespace Go.Proofs.Ytgmhinmakomabaa
open Go.ChangeShapes Go.WideShapes Go.ChangeAt Go.RowKit Go.Deep
set_option linter.unusedVariables false

section
variable {H : Type} {enc : TypeId × Value → H} {W : World} {held : Bool}
theorem open_i64v {fuel : Nat} {v : Value} {x : DataW H × List MemPlace} (h : DataW.trod enc Try.prog W 0 (fun _ => true) held fuel 25 [v] = some x) : ∃ A n c f, v = .slice A n c ∧ n ≤ c ∧ c ≤ maxLen ∧ Fn W W.heap.size A n f := by
  rcases open_ints Try.underlying25 Try.underlying3 (by kernel_rfl) h with ⟨hcs, _⟩ | ⟨a, l, c, zs, hcs, _, hl, hm, hz, hx, hcell, hwz⟩
  · simp at hcs
    exact ⟨none, 0, 0, fun _ => 0, hcs, Nat.le_refl _, Nat.zero_le _, fun i hi => absurd hi (by omega)⟩
  · simp at hcs
    have hr : Ints W W.heap.size (some a) l (zs.take l) := reads_of_ints hl (by simpa using hz) hcell
    exact ⟨some a, l, c, _, hcs, hl, hm, hr.fn⟩
theorem open_asg {r : Reach} {b0 : Nat} {v : Value} {d : DataW H} {p : List MemPlace} (hv : Value.okWide Try.prog W r b0 27 v) (h : DataW.Trod enc Try.prog W 0 (fun _ => true) held 27 v d p) :
    ∃ At nt ct x Au nu cu Av nv cv, ∃ (t u v' : Nat → Int), v = .agg #[.slice At nt ct, .int .i64 x, .slice Au nu cu, .slice Av nv cv] ∧ nt ≤ ct ∧ ct ≤ maxLen ∧ nu ≤ cu ∧ cu ≤ maxLen ∧ nv ≤ cv ∧ cv ≤ maxLen ∧ Fn W W.heap.size At nt t ∧ Fn W W.heap.size Au nu u ∧ Fn W W.heap.size Av nv v' := by
  obtain ⟨v0, v1, v2, v3, y0, y1, y2, y3, n, rfl, -, -, h0, h1, h2, h3⟩ := Go.Joins.open_agg4 Try.underlying27 (by kernel_rfl) (by kernel_rfl) hv h
  obtain ⟨A, n0, c0, f0, rfl, g0, k0, e0⟩ := open_i64v h0
  obtain ⟨x, hx, -, hw⟩ := DataW.trod_int Try.underlying3 h1
  simp at hx
  subst hx
  obtain ⟨A2, n2, c2, f2, rfl, g2, k2, e2⟩ := open_i64v h2
  obtain ⟨A3, n3, c3, f3, rfl, g3, k3, e3⟩ := open_i64v h3
  exact ⟨A, n0, c0, x, A2, n2, c2, A3, n3, c3, f0, f2, f3, rfl, g0, k0, g2, k2, g3, k3, e0, e2, e3⟩
end
end Go.Proofs.Ytgmhinmakomabaa
