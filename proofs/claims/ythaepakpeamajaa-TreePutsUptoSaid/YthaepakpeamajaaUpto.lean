/-
  The row of a law where what comes in is of bounded bulk. No condition.
-/
import Derived.Test.YthaepakpeamajaaRows
import Derived.Test.YthaepakpeamajaaRow
import Derived.Deep.CondSized
import Derived.JoinedCond
namespace Go.Proofs.Ythaepakpeamajaa
open Go.ChangeShapes Go.WideShapes Go.ChangeAt Go.RowKit
set_option linter.unusedVariables false

section
variable {H : Type} {enc : TypeId × Value → H}
/-- a law's row out of its walk: it returns true, and nothing that was there is written -/
theorem law_of_walk_upto {C : Checked} {os : Os} {f : FuncId} {fn : Func} {s : ChangeSpec} {tb : TypeId} {F : Stop.Interp} (own : ownKnob C.prog.godebug = none) (started : os.Started) (noInit : C.prog.inits.idxOf? f = none) (hfn : C.prog.funcs[f]? = some fn)
    (hvars : s.vars = []) (hres : fn.resultTypes = #[tb]) (htb : C.prog.underlying tb = some .bool) (hlaid : laidOutB C.prog = true) (hread : fn.params.toList.all (fun t => C.prog.readableRec t && decide (t < C.prog.types.size)) = true)
    (hspec : ∀ ds : List (DataW H), ds.length = fn.params.toList.length → s.fn H (ds ++ []) = { results := [.lit (.bool true)], args := ds })
    (witness : ∃ (w : World) (tape : Tape) (i : Input), w.os = os ∧ (w.forCall tape i).Shaped C.prog ∧ i.vars = [] ∧ Input.okWide C.prog (w.forCall tape i) .any w.heap.size f i ∧
      (Rows.OpenSpec.upto s).pre6 enc C.prog fn [] false (w.forCall tape i).memory i.args ∧ Assume.holds {} C.prog (lone (Frame.enter C.prog f i.args .normal) [] (w.forCall tape i)))
    (contract : ∀ (W : World) (base : Nat) (args : Array Value) (ds : List (DataW H)) (p : List MemPlace),
      (∀ (j : Nat) t v, fn.params[j]? = some t → args[j]? = some v → Value.okWide C.prog W .any base t v) →
      DataW.TrodAll enc C.prog W 0 (fun _ => true) true fn.params.toList args.toList ds p →
      (DataW.weightsEach C.prog fn.params.toList ds).all (· ≤ reachBytes) = true → Rows.uptoBulkAll ds ≤ 1048576 →
      Calls C.prog f args W fun e W' => e = .returned (.bool true) ∧ Below W.heap.size W W') :
    ReturnsInHanded {} C os f .any ((Rows.OpenSpec.upto s).pre6 enc C.prog fn [] false) (((Rows.OpenSpec.upto s).at F).post enc C.prog fn false true false false) := by
  refine returnsInHanded_of_cond_sized (s := Rows.OpenSpec.upto s) (k := Rows.uptoSmall) rfl own started noInit hfn witness ?_
  intro W base args ds gs before hval hW _ hk hsz _
  have hW' := hW
  obtain ⟨p, q, hA, hV, rfl, _, _⟩ := hW
  have hvars' : (Rows.OpenSpec.upto s).vars = [] := hvars
  rw [hvars'] at hV
  obtain ⟨rfl, rfl⟩ := trodVars_none hV
  have hlen := trodAll_length _ _ _ _ hA
  have hsz' : (DataW.weightsEach C.prog fn.params.toList ds).all (· ≤ reachBytes) = true := by
    have e : (Rows.OpenSpec.upto s).bare.plain.varTypes C.prog = [] := by
      have : (Rows.OpenSpec.upto s).bare.plain.varTypes C.prog = s.plain.varTypes C.prog := rfl
      rw [this]; unfold DataSpec.varTypes ChangeSpec.plain; rw [hvars]; rfl
    rw [e, List.append_nil, List.append_nil] at hsz
    exact hsz
  have hk' : Rows.uptoBulkAll ds ≤ 1048576 := by
    rw [List.append_nil] at hk
    exact of_decide_eq_true hk
  refine (contract W base args ds p hval hA hsz' hk').mono fun e W' ⟨he, bel⟩ => ?_
  subst he
  have hlt : ∀ x ∈ p, x.block < W.heap.size := fun x hx => by simpa using hW'.lt x (by simpa using hx)
  refine ⟨_, rfl, ds, [], p ++ [], [], p, [], hW', ?_, ?_, ?_, bel.frame _, fun h => by cases h⟩
  · show DataW.TrodAll _ _ _ _ _ _ _ _ (s.fn H (ds ++ [])).results _
    rw [hspec ds hlen, hres]
    exact trodAll_mk1 (shut_bool htb _)
  · show DataW.TrodAll _ _ _ _ _ _ _ _ (s.fn H (ds ++ [])).args _
    rw [hspec ds hlen]
    exact trodAll_stays hlaid bel _ _ _ _ hread hA hlt
  · rw [show ((Rows.OpenSpec.upto s).at F).fn H (ds ++ []) = s.fn H (ds ++ []) from rfl, hspec ds hlen, show ((Rows.OpenSpec.upto s).at F).vars = [] from hvars]
    rfl
end
/-- what the bulk tells -/
theorem bulk_le {H : Type} : ∀ {l : List (DataW H)} {d : DataW H}, d ∈ l → Rows.uptoBulk d ≤ Rows.uptoBulkAll l
  | x :: l, d, h => by
    simp only [Rows.uptoBulkAll]
    rcases List.mem_cons.1 h with rfl | h
    · omega
    · have := bulk_le h; omega
end Go.Proofs.Ythaepakpeamajaa
