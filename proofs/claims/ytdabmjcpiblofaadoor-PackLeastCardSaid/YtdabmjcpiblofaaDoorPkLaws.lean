/-
  What the laws of packs share: the listed tables, the law's nodes as arguments. No condition.
-/
import Derived.Test.YtdabmjcpiblofaaDoorPkRc
import Derived.Test.YtdabmjcpiblofaaDoorPkOwn
import Derived.Test.YtdabmjcpiblofaaDoorShape
import Derived.Test.YtdabmjcpiblofaaDoorCards
import Derived.Test.YtdabmjcpiblofaaDoorTie
namespace Go.Proofs.YtdabmjcpiblofaaDoor
open Go.ChangeShapes Go.WideShapes Go.ChangeAt Go.RowKit Go.Deep
set_option linter.unusedVariables false

theorem tab_of_laid {W : World} (h : laidMetH Tryd.prog Rows.packMakesRow.laid W) : Tab W := by
  have h1 := h.filter (fun x => x.1 == "internal/strconv.uint64pow10")
  have h2 : laidMetH Tryd.prog [("internal/strconv.uint64pow10", Rows.laid_internal_strconv_uint64pow10)] W := h1
  have h3 : Lib.TabIs Tryd.prog W "internal/strconv.uint64pow10" .u64 Lib.pow10Tab :=
    Lib.tabIs_of_head (rest := []) gTab (t := 135) (e := 105) (n := 20) (by kernel_rfl) Tryd.underlying135 Tryd.underlying105 (by kernel_rfl) (by kernel_rfl) h2
  exact ⟨h3, World.block_lt_of_cell? W ⟨0, 0, none⟩ (h3.cell gTab 0 (by decide))⟩
/-- the cells that a listed table holds -/
def tabCells : DataW Unit → Array Value
  | .agg l => (l.map fun d => match d with | .lit (.int k n) => Value.int k n | _ => undef).toArray
  | _ => #[]
def putTab (d : DataW Unit) : Obj → Obj
  | .cells _ t frozen => .cells (tabCells d) t frozen
  | o => o
noncomputable def laidWorld (os : Os) : World :=
  { World.holding Tryd.prog os ⟨#[], #[], []⟩ with heap := (((World.holding Tryd.prog os ⟨#[], #[], []⟩).heap.modify 1 (putTab Rows.laid_math_bits_deBruijn32tab)).modify 2 (putTab Rows.laid_math_bits_deBruijn64tab)).modify 0 (putTab Rows.laid_internal_strconv_uint64pow10) }
theorem laid_met (os : Os) (args : Array Value) : laidMet Tryd.prog Rows.packMakesRow.laid ((laidWorld os).forCall (fun _ _ => 0) ⟨#[], args, []⟩).memory :=
  laidMet_of_run' 8 (by kernel_rfl) (by kernel_rfl)
section
variable {H : Type} {enc : TypeId × Value → H} {W : World} {held : Bool}
set_option maxRecDepth 100000 in
/-- the nodes that came in -/
theorem open_nodes {len cap : Nat} {A : Option Addr} {d : DataW H} {p : List MemPlace} (h : DataW.Trod enc Tryd.prog W 0 (fun _ => true) held 22 (.slice A len cap) d p) (hsm : Sm Tryd.prog 22 d) :
    len ≤ cap ∧ len ≤ 140737488351232 ∧ ∃ l : List ND, l.length = len ∧ Reads W W.heap.size 3 A len (l.flatMap ndCells) ∧ ∀ x ∈ l, i64 x.1 ∧ i64 x.2.1 ∧ i64 x.2.2 := by
  obtain ⟨fuel, h⟩ := h
  have hc3 : Tryd.prog.cellsOf 3 = 1 := by kernel_rfl
  obtain ⟨h1, -, h3, xs, h4, h5, h6⟩ := open_list (α := ND) Tryd.underlying22 (by kernel_rfl : Tryd.prog.cellsOf 96 = 3) (by omega) ndCells (fun x => i64 x.1 ∧ i64 x.2.1 ∧ i64 x.2.2) ndCells_len (fun cs' d' pl n htr hs hlen => by
    obtain ⟨ys, m, hfu, hx, -, hyl, hfd⟩ := DataW.trod_struct Tryd.underlying96 htr
    obtain ⟨c0, c1, c2, rfl⟩ : ∃ c0 c1 c2, cs' = [c0, c1, c2] := by
      match cs', hlen with
      | [c0, c1, c2], _ => exact ⟨c0, c1, c2, rfl⟩
    obtain ⟨y0, y1, y2, rfl⟩ : ∃ y0 y1 y2, ys = [y0, y1, y2] := by
      match ys, hyl with
      | [y0, y1, y2], _ => exact ⟨y0, y1, y2, rfl⟩
    have e0 := hfd 0 _ rfl
    have e1 := hfd 1 _ rfl
    have e2 := hfd 2 _ rfl
    simp [hc3] at e0 e1 e2
    obtain ⟨z0, q0, -, g0⟩ := DataW.trod_int Tryd.underlying3 e0
    obtain ⟨z1, q1, -, g1⟩ := DataW.trod_int Tryd.underlying3 e1
    obtain ⟨z2, q2, -, g2⟩ := DataW.trod_int Tryd.underlying3 e2
    simp at q0 q1 q2
    subst q0 q1 q2
    exact ⟨(z0, z1, z2), rfl, wf_i64 g0, wf_i64 g1, wf_i64 g2⟩) h hsm
  exact ⟨h1, h3 (of_decide_eq_true (by kernel_rfl)), xs, h4, h5, h6⟩
end
end Go.Proofs.YtdabmjcpiblofaaDoor
