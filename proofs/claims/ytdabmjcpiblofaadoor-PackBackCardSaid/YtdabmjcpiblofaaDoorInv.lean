/-
  A region that draws its order, by what is known whatever has run so far. No condition.
-/
import Derived.Test.YtdabmjcpiblofaaDoorRow
import Derived.Orders
namespace Go.Proofs.YtdabmjcpiblofaaDoor
open Go.RowKit
set_option linter.unusedVariables false

section
variable {P : Program} {ops : Array Oper} {Q : Exit → Act → World → Prop} {md : Region.Mode}
/-- how many operations have not run -/
def unrun (ops : Array Oper) (listed : Array Bool) : Nat := ((List.range ops.size).filter fun i => !listed.getD i true).length
theorem ready_unrun {listed : Array Bool} {i : Nat} (h : i ∈ Region.ready md ops listed) : i < ops.size ∧ listed.getD i true = false := by
  unfold Region.ready at h
  rw [List.mem_filter, List.mem_range] at h
  simp only [Bool.and_eq_true, Bool.not_eq_true'] at h
  exact ⟨h.1, h.2.1⟩
theorem getD_false_lt {l : Array Bool} {i : Nat} (h : l.getD i true = false) : i < l.size := by
  rcases Nat.lt_or_ge i l.size with h1 | h1
  · exact h1
  · simp [Array.getD, Nat.not_lt.2 h1] at h
theorem getD_set (l : Array Bool) (i j : Nat) (d : Bool) (hi : i < l.size) : (l.setIfInBounds i true).getD j d = if j = i then true else l.getD j d := by
  by_cases e : j = i
  · subst e; simp [Array.getD, hi]
  · rw [if_neg e]
    simp only [Array.getD_eq_getD_getElem?, Array.getElem?_setIfInBounds]
    rw [if_neg (fun e' => e e'.symm)]
theorem filter_len_lt {p q : Nat → Bool} {i : Nat} : ∀ {l : List Nat}, i ∈ l → (∀ x, q x = true → p x = true) → p i = true → q i = false → (l.filter q).length < (l.filter p).length
  | [], hi, _, _, _ => by cases hi
  | x :: l, hi, h, hp, hq => by
    have hle : ∀ l : List Nat, (l.filter q).length ≤ (l.filter p).length := fun l => by
      induction l with
      | nil => simp
      | cons y l ih =>
        cases hy : q y with
        | true => simp [hy, h y hy]; exact ih
        | false =>
          cases hy' : p y <;> simp [hy, hy'] <;> omega
    by_cases e : x = i
    · subst e
      simp [hp, hq]
      have := hle l
      omega
    · have hi' : i ∈ l := (List.mem_cons.1 hi).resolve_left (fun e' => e e'.symm)
      have ih := filter_len_lt hi' h hp hq
      cases hx : q x with
      | true => simp [hx, h x hx]; exact ih
      | false => cases hx' : p x <;> simp [hx, hx'] <;> omega
theorem unrun_set {listed : Array Bool} {i : Nat} (h : i ∈ Region.ready md ops listed) : unrun ops (listed.setIfInBounds i true) < unrun ops listed := by
  obtain ⟨h1, h2⟩ := ready_unrun h
  have hl := getD_false_lt h2
  refine filter_len_lt (i := i) (List.mem_range.2 h1) (fun x hx => ?_) (by simp [h2]) (by rw [getD_set _ _ _ _ hl]; simp)
  rw [getD_set _ _ _ _ hl] at hx
  split at hx
  · simp at hx
  · exact hx
theorem wpAny_inv (I : Array Bool → Act → World → Prop)
    (hstep : ∀ (listed : Array Bool) (a : Act) (w : World) (i : Nat), i ∈ Region.ready md ops listed → I listed a w → wpOp P ops Q i (I (listed.setIfInBounds i true)) a w)
    (hend : ∀ (listed : Array Bool) (a : Act) (w : World), Region.ready md ops listed = [] → I listed a w → Q .normal a w) :
    ∀ (fuel : Nat) (listed : Array Bool) (a : Act) (w : World), unrun ops listed ≤ fuel → I listed a w → wpAny P md ops Q fuel listed a w
  | 0, listed, a, w, hf, h => by
    have hr : Region.ready md ops listed = [] := by
      rcases hc : Region.ready md ops listed with _ | ⟨i, l⟩
      · rfl
      · have hi : i ∈ Region.ready md ops listed := by rw [hc]; exact List.mem_cons_self
        have := unrun_set hi
        omega
    exact ⟨hr, hend _ _ _ hr h⟩
  | fuel + 1, listed, a, w, hf, h => by
    refine ⟨fun hr => hend _ _ _ hr h, fun i hi => ?_⟩
    have hu := unrun_set hi
    exact wpOp_mono (fun a' w' h' => wpAny_inv I hstep hend fuel _ a' w' (by omega) h') (hstep _ _ _ i hi h)
theorem wp_region_inv {id : Nat} {a : Act} {w : World} (hm : P.follows .mixedOrders = true) (I : Array Bool → Act → World → Prop) (h0 : I (Array.replicate ops.size false) a w.drew)
    (hstep : ∀ (listed : Array Bool) (a : Act) (w : World) (i : Nat), i ∈ Region.ready .any ops listed → I listed a w → wpOp P ops Q i (I (listed.setIfInBounds i true)) a w)
    (hend : ∀ (listed : Array Bool) (a : Act) (w : World), Region.ready .any ops listed = [] → I listed a w → Q .normal a w) : (Code.region id ops true).wp P Q a w := by
  refine wp_region_any hm (wpAny_inv I hstep hend ops.size _ _ _ ?_ h0)
  unfold unrun
  have := List.length_filter_le (fun i => !(Array.replicate ops.size false).getD i true) (List.range ops.size)
  simpa using this
/-- an operation that is wanted, and yields a value -/
theorem wpOp_do {i : Nat} {o : Oper} {K : Act → World → Prop} {a : Act} {w : World} (ho : ops[i]? = some o) (hg : o.guard = none) (h : o.wp P a w K Q) : wpOp P ops Q i K a w := by
  unfold wpOp
  rw [ho]
  simp only
  rw [if_pos (by simp [Region.wanted, hg])]
  exact .inl h
/-- what has to have run before -/
theorem ready_on {listed : Array Bool} {i : Nat} {o : Oper} (h : i ∈ Region.ready .any ops listed) (ho : ops[i]? = some o) : o.after.all (fun e => !Region.binds .any e || listed.getD e.on false) = true := by
  unfold Region.ready at h
  rw [List.mem_filter] at h
  simpa [ho] using (Bool.and_eq_true_iff.1 h.2).2
/-- nothing more can run: what waits for nothing has run -/
theorem ready_nil {listed : Array Bool} {i : Nat} {o : Oper} (h : Region.ready md ops listed = []) (ho : ops[i]? = some o) (hs : i < listed.size) (ha : o.after.all (fun e => !Region.binds md e || listed.getD e.on false) = true) : listed.getD i false = true := by
  cases hl : listed.getD i false with
  | true => rfl
  | false =>
    have hm : i ∈ Region.ready md ops listed := by
      unfold Region.ready
      rw [List.mem_filter, List.mem_range]
      have hi := (Array.getElem?_eq_some_iff.1 ho).1
      refine ⟨hi, ?_⟩
      have e : listed.getD i true = false := by
        rw [← hl]; simp [Array.getD, hs]
      simp [e, ho]
      simpa using ha
    rw [h] at hm
    cases hm
/-- a call of a Go function -/
theorem wp_call_go {o : Oper} {a : Act} {w : World} {K : Act → World → Prop} (f : FuncId) (xs : Array Operand) (tys : Array TypeId)
    (ho : o.op = .call { callee := .value (.func f), args := xs, argTypes := tys }) {fn : Func} (hf : P.funcs[f]? = some fn) (hb : fn.body.isNone = false) (hn : (fn.name == "runtime.NumGoroutine") = false) (vals : Array Value) (hv : xs.map a.eval = vals) {R : Ending → World → Prop} (hc : Calls P f vals w R)
    (h : ∀ e w', R e w' → ∃ v, e = .returned v ∧ K (a.put o.dst v) w') : Oper.wp P o a w K Q := by
  unfold Oper.wp
  have hr : (execOp a.eval o).run P w = .ok (.enter f vals) w := by
    have hp : (program).run P w = .ok P w := rfl
    have hb' : ¬ fn.body = none := fun e => by rw [e] at hb; cases hb
    have hn' : ¬ fn.name = "runtime.NumGoroutine" := by simpa using hn
    unfold execOp
    simp [ho, resolve, invoke, Act.eval, Deferred.ofValue, callFunc, hp, hf, hb', hn']
    exact hv
  rw [hr]
  simp only [Oper.upon]
  refine hc.mono fun e w' hR => ?_
  obtain ⟨v, rfl, hk⟩ := h e w' hR
  exact hk
/-- an operation that yields a value at once -/
theorem wp_yield {o : Oper} {a : Act} {w w' : World} {v : Value} {K : Act → World → Prop} (hr : (execOp a.eval o).run P w = .ok (.value v) w') (h : K (a.put o.dst v) w') : Oper.wp P o a w K Q := by
  unfold Oper.wp
  rw [hr]
  exact h
end
end Go.Proofs.YtdabmjcpiblofaaDoor
