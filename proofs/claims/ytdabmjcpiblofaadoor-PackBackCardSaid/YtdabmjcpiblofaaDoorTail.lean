/-
  A region that draws its order: reads first, then a tail in one order. No condition.
-/
import Derived.Test.YtdabmjcpiblofaaDoorRow
import Derived.StillTail
import Derived.BigQuiet
namespace Go.Proofs.YtdabmjcpiblofaaDoor
open Go.RowKit
set_option linter.unusedVariables false
variable {P : Program}
theorem wpStill_of_quiet {ops : Array Oper} {w : World} {Q : Act → Prop} : ∀ (l : List Oper) (a : Act), wpQuiet P ops (fun w' => w' = w) Q l a → wpStill P ops w Q l a
  | [], a, h => h
  | o :: l, a, h => by
    unfold wpQuiet at h
    unfold wpStill
    split
    · rename_i hw
      rw [if_pos hw] at h
      obtain ⟨v, h1, h2⟩ := h
      have h3 := h1 w rfl
      have h4 := wpStill_of_quiet l _ h2
      unfold Oper.still
      unfold Oper.quietAt at h3
      generalize (execOp a.eval o).run P w = r at h3
      cases r with
      | halt x w' => exact h3.elim
      | ok n w' =>
        cases n <;> simp only [Oper.quietUpon] at h3 <;> simp only [Oper.stillUpon]
        case value u => exact ⟨h3.1, by rw [h3.2]; exact h4⟩
        case skip => exact ⟨h3.1, by rw [← h3.2]; exact h4⟩
        case enter f args => exact ⟨h3.1, v, h3.2, h4⟩
    · rename_i hw
      rw [if_neg hw] at h
      exact wpStill_of_quiet l _ h
theorem region_tail {id : Nat} {Q : Exit → Act → World → Prop} {a : Act} {w : World} {l : List Oper} (n : Nat) (hm : P.follows .mixedOrders = true) (hB : Region.lexTailB .any l.toArray n = true) (w2 : World) (hw : w.drew = w2)
    (h : wpQuiet P l.toArray (fun w' => w' = w2) (fun a' => wpList P l.toArray Q (l.drop n) a' w2) (l.take n) a) : (Code.region id l.toArray true).wp P Q a w := by
  subst hw
  exact wp_region_still_tail n hm hB (wpStill_of_quiet _ _ h)
/-- a call of a Go function, as one step of a region -/
theorem step_call {ops : Array Oper} {o : Oper} {a : Act} {w : World} {K : Act → World → Prop} {Q : Exit → Act → World → Prop} {E : Prop} (hgd : o.guard = none) (f : FuncId) (xs : Array Operand) (tys : Array TypeId)
    (ho : o.op = .call { callee := .value (.func f), args := xs, argTypes := tys }) {fn : Func} (hf : P.funcs[f]? = some fn) (hb : fn.body.isNone = false) (hn : (fn.name == "runtime.NumGoroutine") = false) (vals : Array Value) (hv : xs.map a.eval = vals) {R : Ending → World → Prop} (hc : Calls P f vals w R)
    (h : ∀ e w', R e w' → ∃ v, e = .returned v ∧ K (a.put o.dst v) w') : if Region.wanted o (yielded ops a.tmps) = true then Oper.wp P o a w K Q else E := by
  have hw : Region.wanted o (yielded ops a.tmps) = true := by simp [Region.wanted, hgd]
  rw [if_pos hw]
  unfold Oper.wp
  have hr : (execOp a.eval o).run P w = .ok (.enter f vals) w := by
    have hp : (program).run P w = .ok P w := rfl
    have hb' : ¬ fn.body = none := fun e => by rw [e] at hb; cases hb
    have hn' : ¬ fn.name = "runtime.NumGoroutine" := by simpa using hn
    unfold execOp
    simp [ho, resolve, invoke, Act.eval, Deferred.ofValue, callFunc, hp, hf, hb', hn']
    exact hv
  rw [hr]
  simp only [Oper.upon]
  refine hc.mono fun e w' hR => ?_
  obtain ⟨v, rfl, hk⟩ := h e w' hR
  exact hk
end Go.Proofs.YtdabmjcpiblofaaDoor
