/-
  What the four readers of commits return, the two of the program and the two of the reference alike. No condition.
-/
import Derived.Test.YtnnclopojiegfaaWtR
namespace Go.Proofs.Ytnnclopojiegfaa
open Go.RowKit
set_option linter.unusedVariables false

def evI {α : Type} : Option α → Int
  | some _ => 0
  | none => 13
def GotU (w : World) (o : Option (List WCommit)) (e : Ending) (w' : World) : Prop :=
  ∃ B cc xs, e = .returned (.tuple #[.slice B (o.getD []).length cc, .int .i64 (evI o)]) ∧ xs.map CX.c = o.getD [] ∧ Coms w' B (o.getD []).length xs ∧ Below w.heap.size w w'
theorem got_uni {w w' : World} {o : Option (List WCommit)} {e : Ending} (h : GotPost w o e w') : GotU w o e w' := by
  obtain ⟨h1, h2⟩ := h
  cases o with
  | none => exact ⟨none, 0, [], h1, rfl, ⟨rfl, Reads.none_, fun x hx => by cases hx⟩, h2⟩
  | some l =>
    obtain ⟨B, cc, xs, k1, k2, k3⟩ := h1
    have hl : xs.length = l.length := by rw [← k2, List.length_map]
    refine ⟨B, cc, xs, ?_, k2, ?_, h2⟩
    · rw [k1, hl]; rfl
    · have := k3.1
      rw [hl] at this
      exact this
def GotM (w : World) (o : Option (WCommit × Nat)) (e : Ending) (w' : World) : Prop :=
  ∃ x : CX, e = .returned (.tuple #[.agg #[.int .i64 x.c.stamp, .slice x.A1 x.c.parents.length x.c1, .slice x.A2 x.c.picks.length x.c2, .string x.c.note, .slice x.A3 x.c.writes.length x.c3], .int .i64 (((o.map (·.2)).getD 0 : Nat) : Int), .int .i64 (evI o)]) ∧ x.c = (o.map (·.1)).getD zeroCommit ∧ GoodC w' x ∧ Below w.heap.size w w'
theorem gotM_uni {w w' : World} {o : Option (WCommit × Nat)} {e : Ending} (h : MPost w o e w') : GotM w o e w' := by
  obtain ⟨h1, h2⟩ := h
  cases o with
  | none => exact ⟨⟨zeroCommit, none, 0, none, 0, none, 0⟩, h1, rfl, ⟨zero_ok, Reads.none_, Reads.none_, Reads.none_, by decide, by decide, by decide, by decide, fun y hy => by cases hy⟩, h2⟩
  | some y =>
    obtain ⟨x, k1, k2, k3⟩ := h1
    exact ⟨x, k1, k2, k3.good, h2⟩
theorem commitsP_len {bs : List Nat} : ((commitsP bs).getD []).length ≤ bs.length := by
  cases h : commitsP bs with
  | none => exact Nat.zero_le _
  | some l =>
    unfold commitsP at h
    obtain ⟨⟨l2, q⟩, hl, h⟩ := Option.bind_eq_some_iff.1 h
    split at h
    · injection h with h
      subst h
      exact (listP_fit hl).1
    · cases h
end Go.Proofs.Ytnnclopojiegfaa
