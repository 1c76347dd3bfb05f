/-
  A region that draws its order, whose last operation stores into a cell that the region loads: a fact S of the world holds behind every operation but that one. No condition.
-/
import Derived.Test.YtnjafhlpnoikcaaLrF
import Derived.OrdersHeld
import Derived.StillTail
namespace Go.Proofs.Ytnjafhlpnoikcaa
open Go.RowKit
set_option linter.unusedVariables false
section
variable {P : Program} {md : Region.Mode} {ops : Array Oper} {Q : Exit → Act → World → Prop} {S S' : World → Prop} {z : Nat}
/-- whatever order is picked; S holds behind every operation but number z -/
def wpAnyW (P : Program) (md : Region.Mode) (ops : Array Oper) (Q : Exit → Act → World → Prop) (S : World → Prop) (z : Nat) : Nat → Array Bool → Act → World → Prop
  | 0, listed, a, w => Region.ready md ops listed = [] ∧ Q .normal a w
  | fuel + 1, listed, a, w =>
    (Region.ready md ops listed = [] → Q .normal a w) ∧
    ∀ i ∈ Region.ready md ops listed, wpOp P ops Q i (fun a' w' => ((listed.setIfInBounds i true).getD z true = false → S w') ∧ wpAnyW P md ops Q S z fuel (listed.setIfInBounds i true) a' w') a w
theorem wpAny_of_w : ∀ (fuel : Nat) (listed : Array Bool) (a : Act) (w : World), wpAnyW P md ops Q S z fuel listed a w → wpAny P md ops Q fuel listed a w
  | 0, _, _, _, h => h
  | fuel + 1, _, _, _, h => ⟨h.1, fun i hi => wpOp_mono (fun a' w' h' => wpAny_of_w fuel _ a' w' h'.2) (h.2 i hi)⟩
theorem wpAnyW_first {i : Nat} {oi : Oper} {v : Value} (hi : ops[i]? = some oi) (hsel : ∀ (j : Nat) (o : Oper) cs b, ops[j]? = some o → o.op ≠ .select cs b)
    (hQ : ∀ c a w, Q (.panic c) (a.put oi.dst v) w → Q (.panic c) a w) (hSS : ∀ w, S w → S' w) (hiz : i ≠ z) (hz : (∀ w, S' w) ∨ Region.waitsFor md ops z i = true) :
    ∀ (fuel : Nat) (listed : Array Bool) (a : Act) (w : World),
      (∀ j oj, ops[j]? = some oj → j ≠ i → listed.getD j true = false → (∀ e ∈ oj.after, Region.binds md e = true → e.on ≠ i) → oi.apart ops oj = true) →
      i ∈ Region.ready md ops listed → YieldsIf P ops S' oi v a → ((∀ w, S' w) ∨ listed.getD z true = false) → (listed.getD z true = false → S w) →
      wpAnyW P md ops Q S z fuel (listed.setIfInBounds i true) (a.put oi.dst v) w → wpAnyW P md ops Q S z (fuel + 1) listed a w := by
  intro fuel
  have here : ∀ (fuel : Nat) (listed : Array Bool) (a : Act) (w : World), i ∈ Region.ready md ops listed → YieldsIf P ops S' oi v a → ((∀ w, S' w) ∨ listed.getD z true = false) → (listed.getD z true = false → S w) → wpAnyW P md ops Q S z fuel (listed.setIfInBounds i true) (a.put oi.dst v) w →
      wpOp P ops Q i (fun a' w' => ((listed.setIfInBounds i true).getD z true = false → S w') ∧ wpAnyW P md ops Q S z fuel (listed.setIfInBounds i true) a' w') a w := fun fuel listed a w hr hy hl hS H => by
    refine hy.wpOp hi ?_ ⟨fun h => ?_, H⟩
    · rcases hl with hl | hl
      · exact hl w
      · exact hSS _ (hS hl)
    · rw [getD_set_ne true hiz] at h
      exact hS h
  induction fuel with
  | zero =>
    intro listed a w _ hr hy hl hS H
    refine ⟨fun h => (by rw [h] at hr; cases hr), fun j hj => ?_⟩
    by_cases hji : j = i
    · subst hji; exact here 0 listed a w hr hy hl hS H
    · have := ready_mono hj hji
      rw [H.1] at this
      cases this
  | succ fuel ih =>
    intro listed a w hfree hr hy hl hS H
    refine ⟨fun h => (by rw [h] at hr; cases hr), fun j hj => ?_⟩
    by_cases hji : j = i
    · subst hji; exact here _ listed a w hr hy hl hS H
    · have h1 := H.2 j (ready_mono hj hji)
      obtain ⟨hjun, oj, hoj, hall⟩ := mem_ready.1 hj
      have hnot : ∀ e ∈ oj.after, Region.binds md e = true → e.on ≠ i := fun e he hb heq => by
        have h1 := hall e he hb
        have h0 := (mem_ready.1 hr).1
        rw [heq] at h1
        rcases Nat.lt_or_ge i listed.size with h' | h'
        · simp [h'] at h0 h1; rw [h0] at h1; cases h1
        · simp [Array.getElem?_eq_none h'] at h1
      have hl2 : (∀ w, S' w) ∨ (listed.setIfInBounds j true).getD z true = false := by
        rcases hz with hz | hz
        · exact .inl hz
        · rcases hl with hl | hl
          · exact .inl hl
          · by_cases hjz : j = z
            · subst hjz
              obtain ⟨oz, hoz, e, he, hb, hon⟩ := Region.waitsFor_spec hz
              rw [hoj] at hoz
              injection hoz with hoz
              subst hoz
              exact absurd hon (hnot e he hb)
            · exact .inr (by rw [getD_set_ne true hjz]; exact hl)
      have h2 := wpOp_putIf hoj (hfree j oj hoj hji hjun hnot) (fun cs b => hsel i oi cs b hi) (fun cs b => hsel j oj cs b hoj) hQ hy h1
      have hfree' : ∀ k ok, ops[k]? = some ok → k ≠ i → (listed.setIfInBounds j true).getD k true = false →
          (∀ e ∈ ok.after, Region.binds md e = true → e.on ≠ i) → oi.apart ops ok = true := fun k ok hk hki hun hno => by
        refine hfree k ok hk hki ?_ hno
        by_cases hjk : j = k
        · subst hjk; exact hjun
        · rw [getD_set_ne true hjk] at hun; exact hun
      have hcomm : (listed.setIfInBounds j true).setIfInBounds i true = (listed.setIfInBounds i true).setIfInBounds j true := Array.setIfInBounds_comm _ _ hji
      refine wpOp_mono (fun a' w' h3 => ?_) h2
      have hS3 : (listed.setIfInBounds j true).getD z true = false → S w' := fun h => h3.2.1 (by rw [← hcomm, getD_set_ne true hiz]; exact h)
      refine ⟨hS3, ih (listed.setIfInBounds j true) a' w' hfree' (ready_mono hr (Ne.symm hji)) h3.1 hl2 hS3 ?_⟩
      rw [hcomm]
      exact h3.2.2
/-- an operation that looks at no world is taken first -/
theorem wpAnyW_takeY {i : Nat} {oi : Oper} {v : Value} {fuel : Nat} {listed : Array Bool} {a : Act} {w : World} (hi : ops[i]? = some oi)
    (hs : Region.noSelect ops = true) (hf : Region.free md ops listed i = true) (hr : (Region.ready md ops listed).contains i = true) (hiz : (i == z) = false)
    (hQ : ∀ c a w, Q (.panic c) (a.put oi.dst v) w → Q (.panic c) a w) (hw : Region.wanted oi (yielded ops a.tmps) = true) (hy : ∀ w, (execOp a.eval oi).run P w = .ok (.value v) w) (hS : S w)
    (h : wpAnyW P md ops Q S z fuel (listed.setIfInBounds i true) (a.put oi.dst v) w) : wpAnyW P md ops Q S z (fuel + 1) listed a w :=
  wpAnyW_first (S' := fun _ => True) hi (Region.noSelect_spec hs) hQ (fun _ _ => trivial) (by simpa using hiz) (.inl fun _ => trivial) fuel listed a w (Region.free_spec hi hf) (by simpa using hr) (.inl ⟨hw, fun w _ => hy w⟩) (.inl fun _ => trivial) (fun _ => hS) h
/-- a load is taken first -/
theorem wpAnyW_takeS {i : Nat} {oi : Oper} {v : Value} {fuel : Nat} {listed : Array Bool} {a : Act} {w : World} (hi : ops[i]? = some oi)
    (hs : Region.noSelect ops = true) (hf : Region.free md ops listed i = true) (hr : (Region.ready md ops listed).contains i = true) (hiz : (i == z) = false) (hz : Region.waitsFor md ops z i = true) (hl : listed.getD z true = false)
    (hQ : ∀ c a w, Q (.panic c) (a.put oi.dst v) w → Q (.panic c) a w) (hw : Region.wanted oi (yielded ops a.tmps) = true) (hy : ∀ w, S w → (execOp a.eval oi).run P w = .ok (.value v) w) (hS : S w)
    (h : wpAnyW P md ops Q S z fuel (listed.setIfInBounds i true) (a.put oi.dst v) w) : wpAnyW P md ops Q S z (fuel + 1) listed a w :=
  wpAnyW_first (S' := S) hi (Region.noSelect_spec hs) hQ (fun _ h => h) (by simpa using hiz) (.inr hz) fuel listed a w (Region.free_spec hi hf) (by simpa using hr) (.inl ⟨hw, hy⟩) (.inr hl) (fun _ => hS) h
/-- one alone may come up; it is not the last -/
theorem wpAnyW_one {i : Nat} {o : Oper} {fuel : Nat} {listed : Array Bool} {a : Act} {w : World} (hr : Region.ready md ops listed = [i]) (ho : ops[i]? = some o)
    (h : ∀ K' : Act → World → Prop, Hid (∀ a w, S w → wpAnyW P md ops Q S z fuel (listed.setIfInBounds i true) a w → K' a w) → if Region.wanted o (yielded ops a.tmps) = true then Oper.wp P o a w K' Q else K' (a.put o.dst undef) w) : wpAnyW P md ops Q S z (fuel + 1) listed a w := by
  refine ⟨fun h0 => (by rw [hr] at h0; cases h0), fun j hj => ?_⟩
  rw [hr] at hj
  obtain rfl : j = i := by simpa using hj
  exact wpOp_step ho (fun K' hK => h K' (fun a w hS hW => hK a w ⟨fun _ => hS, hW⟩))
/-- the last one -/
theorem wpAnyW_last {i : Nat} {o : Oper} {fuel : Nat} {listed : Array Bool} {a : Act} {w : World} (hr : Region.ready md ops listed = [i]) (ho : ops[i]? = some o) (hl : (listed.setIfInBounds i true).getD z true = true) (hn : Region.ready md ops (listed.setIfInBounds i true) = [])
    (h : ∀ K' : Act → World → Prop, Hid (∀ a w, Q .normal a w → K' a w) → if Region.wanted o (yielded ops a.tmps) = true then Oper.wp P o a w K' Q else K' (a.put o.dst undef) w) : wpAnyW P md ops Q S z (fuel + 1) listed a w := by
  refine ⟨fun h0 => (by rw [hr] at h0; cases h0), fun j hj => ?_⟩
  rw [hr] at hj
  obtain rfl : j = i := by simpa using hj
  refine wpOp_step ho (fun K' hK => h K' (fun a w hQ => hK a w ⟨(fun h2 => (by rw [hl] at h2; cases h2)), ?_⟩))
  cases fuel with
  | zero => exact ⟨hn, hQ⟩
  | succ f => exact ⟨fun _ => hQ, by rw [hn]; simp⟩
theorem wp_region_w {id : Nat} {a : Act} {w : World} (S : World → Prop) (z : Nat) (hm : P.follows .mixedOrders = true)
    (h : wpAnyW P .any ops Q S z ops.size (Array.replicate ops.size false) a w.drew) : (Code.region id ops true).wp P Q a w :=
  wp_region_any hm (wpAny_of_w _ _ _ _ h)
end
end Go.Proofs.Ytnjafhlpnoikcaa
