/-
  Arguments as data, and what the laws of finding share. No condition.
-/
import Derived.Test.YthaepakpeamajaaTrO
import Derived.Lib.SmallJoins
namespace Go.Proofs.Ythaepakpeamajaa
open Go.ChangeShapes Go.WideShapes Go.ChangeAt Go.RowKit Go.Deep Go.Joins
set_option linter.unusedVariables false

section
variable {H : Type} {enc : TypeId × Value → H} {W : World} {held : Bool}
theorem val_of_cells {cs : Array Value} {t : TX} (h : cs.toList = TX.cells t) : Value.agg cs = t.val := by
  have : cs = (TX.cells t).toArray := by rw [← h]
  rw [this]; rfl
theorem arg_tree {r : Reach} {b0 : Nat} {v : Value} {d : DataW H} {p : List MemPlace} (hv : Value.okWide Try.prog W r b0 25 v) (h : DataW.Trod enc Try.prog W 0 (fun _ => true) held 25 v d p) (hs : Sm Try.prog 25 d) : ∃ t, v = t.val ∧ Tr W W.heap.size t := by
  obtain ⟨cs, rfl, hsz⟩ := okWide_struct Try.underlying25 hv
  have hc : Try.prog.cellsOf 25 = 4 := by kernel_rfl
  obtain ⟨fuel, hf⟩ := h
  obtain ⟨t, ht, htr⟩ := open_tree ⟨fuel, hf⟩ hs (by simpa [Value.cells] using hsz.trans hc)
  exact ⟨t, val_of_cells (by simpa [Value.cells] using ht), htr⟩
end
theorem TX.zero_val : TX.zero.val = .agg zeroArr := rfl
theorem TX.zero_tr (w : World) (B : Nat) : Tr w B TX.zero := .mk _ Reads.none_ Reads.none_ (by simp [TX.zero, TX.kids]) (by simp [TX.zero, TX.kids]) (by simp [TX.zero, TX.leads]) (by simp [TX.zero, TX.kind]) (fun k hk => by simp [TX.zero, TX.kids] at hk)
/-- the node, or an empty one -/
def foundP : Option TX → T
  | none => TX.zero.plain
  | some s => s.plain
def FoundPost (w : World) (o : Option TX) (e : Ending) (w' : World) : Prop := ∃ x : TX, e = .returned (.tuple #[x.val, .bool o.isSome]) ∧ x.plain = foundP o ∧ Tr w' w'.heap.size x ∧ Below w.heap.size w w'
theorem AtPost.found {w w' : World} {o : Option TX} {e : Ending} (h : AtPost w o e w') : FoundPost w o e w' := by
  cases o with
  | none => exact ⟨TX.zero, h.2, rfl, TX.zero_tr _ _, h.1⟩
  | some s =>
    obtain ⟨hb, y, he, hp, hf⟩ := h
    exact ⟨y, he, hp, hf.tr, hb⟩
theorem FindPost.found {w w' : World} {t : TX} {p : List Int} {e : Ending} (ht : Tr w w.heap.size t) (h : FindPost w (t.find p) e w') : FoundPost w (t.find p) e w' := by
  cases hf : t.find p with
  | none => unfold FindPost at h; rw [hf] at h; exact ⟨TX.zero, h.2, rfl, TX.zero_tr _ _, h.1⟩
  | some s =>
    unfold FindPost at h; rw [hf] at h
    exact ⟨s, h.2, rfl, (find_tr p t s ht hf).up (Nat.le_refl _) h.1, h.1⟩
end Go.Proofs.Ythaepakpeamajaa
