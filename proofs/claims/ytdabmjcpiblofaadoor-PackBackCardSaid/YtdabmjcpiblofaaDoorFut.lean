/-
  A region that draws its order and holds calls that make memory: every later world reads as this one. No condition.
-/
import Derived.Test.YtdabmjcpiblofaaDoorRow
import Derived.BigQuiet
namespace Go.Proofs.YtdabmjcpiblofaaDoor
open Go.RowKit
set_option linter.unusedVariables false
variable {P : Program}
/-- a world that is w with new blocks -/
structure Fut (w : World) where
  to : World
  bel : Below w.heap.size w to
instance (w : World) : Nonempty (Fut w) := ⟨⟨w, Below.refl _ _⟩⟩
theorem region_fut {id : Nat} {Q : Exit → Act → World → Prop} {a : Act} {w : World} {l : List Oper} (hm : P.follows .mixedOrders = true) (hB : Region.lexB .any l.toArray = true)
    (h : wpQuiet P l.toArray (fun w' => ∃ x : Fut w, w' = x.to) (fun a' => ∀ w', (∃ x : Fut w, w' = x.to) → Q .normal a' w') l a) : (Code.region id l.toArray true).wp P Q a w :=
  wp_region_quiet (C := fun w' => ∃ x : Fut w, w' = x.to) hm hB ⟨⟨w.drew, below_drewN (Below.refl _ _) 1⟩, rfl⟩ (by simpa using h)
theorem fut_call {w : World} {x : Fut w} {f : FuncId} {args : Array Value} {v : Value} (h : Calls P f args x.to (fun e w' => e = .returned v ∧ Below x.to.heap.size x.to w')) : Calls P f args x.to (fun e w'' => e = .returned v ∧ ∃ y : Fut w, w'' = y.to) :=
  h.mono fun e w'' ⟨he, hb⟩ => ⟨he, ⟨w'', x.bel.trans (hb.mono x.bel.size)⟩, rfl⟩
theorem fut_cell {w : World} {g i : Nat} {u : Value} (h : w.cell? ⟨g, i, none⟩ = some u) (x : Fut w) : x.to.cell? ⟨g, i, none⟩ = some u :=
  (x.bel.cell (p := ⟨g, i, none⟩) (World.block_lt_of_cell? w _ h)).trans h
end Go.Proofs.YtdabmjcpiblofaaDoor
