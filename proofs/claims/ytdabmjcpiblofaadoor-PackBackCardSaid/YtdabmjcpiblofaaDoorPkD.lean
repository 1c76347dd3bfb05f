/-
  The map by which a pack knows its nodes. No condition.
-/
import Derived.Test.YtdabmjcpiblofaaDoorPkC
namespace Go.Proofs.YtdabmjcpiblofaaDoor
open Go.RowKit Go.Maps
set_option linter.unusedVariables false

theorem laidOut : laidOutB Tryd.prog = true := by kernel_rfl
theorem shapeLaw : Keyed Tryd.prog 100 := Keyed.of_law (deep_law_laid laidOut (m := 9) (by decide) (of_decide_eq_true (by kernel_rfl)) (by kernel_rfl) (by kernel_rfl))
/-- a node whose key is a key -/
structure GoodN (x : PN) : Prop where
  kind : -9223372036854775808 ≤ x.1 ∧ x.1 ≤ 9223372036854775807
  text : x.2.1.size ≤ 9223372036854775807
  leads : (leadsK x.2.2.1).length ≤ 140737488355328
  kids : (kidsK x.2.2.2).length ≤ 140737488355328
theorem key_shp {x : PN} (h : GoodN x) : ∃ l, keyOf Tryd.prog 100 (shp x) = some l := by
  have h1 : Tryd.prog.keyType 100 = true := by kernel_rfl
  have hc : Tryd.prog.cellsOf 100 = 4 := by kernel_rfl
  have hci : Tryd.prog.cellsOf 3 = 1 := by kernel_rfl
  have hcs : Tryd.prog.cellsOf 9 = 1 := by kernel_rfl
  have hts : ∃ m, Tryd.prog.types.size + 1 = m + 2 := ⟨_, rfl⟩
  obtain ⟨m, hm⟩ := hts
  have hw : (Lit.int .i64 x.1).wf = true := by
    have := h.kind
    simp [Lit.wf, IntKind.min, IntKind.max, IntKind.signed, IntKind.bits]
    omega
  have g1 : x.2.1.size ≤ maxLen := by unfold maxLen; exact h.text
  have g2 : (⟨(leadsK x.2.2.1).toArray⟩ : ByteArray).size ≤ maxLen := by
    show (leadsK x.2.2.1).toArray.size ≤ _
    have := h.leads
    unfold maxLen; simp; omega
  have g3 : (⟨(kidsK x.2.2.2).toArray⟩ : ByteArray).size ≤ maxLen := by
    show (kidsK x.2.2.2).toArray.size ≤ _
    have := h.kids
    unfold maxLen; simp; omega
  unfold keyOf shp
  rw [Tryd.underlying100, hm]
  simp [h1, Value.formed, Tryd.underlying100, hc, Program.keyLits, Value.cells, hci, hcs, Tryd.underlying3, Tryd.underlying9, hw, g1, g2, g3]
/-- the map knows just these nodes, each by its place -/
def Knows (D : DataW Unit) (xs : List PN) : Prop :=
  IsMap D ∧ ∀ x l, keyOf Tryd.prog 100 (shp x) = some l → Maps.has D l = (findN xs x).isSome ∧ ∀ i, findN xs x = some i → D.atKey l (.lit (.int .i64 0)) = .lit (.int .i64 (i : Int))
theorem Knows.start : Knows (.map []) [] := ⟨isMap_empty, fun x l _ => ⟨by simp [Maps.has, findN], fun i hi => by simp [findN] at hi⟩⟩
set_option maxRecDepth 100000 in
theorem Knows.step {D : DataW Unit} {xs : List PN} {x : PN} {l : Lit} (h : Knows D xs) (hx : x ∉ xs) (hl : keyOf Tryd.prog 100 (shp x) = some l) : Knows (D.put l (.lit (.int .i64 (xs.length : Int)))) (xs ++ [x]) := by
  obtain ⟨hm, hk⟩ := h
  refine ⟨hm.put l _, fun y l' hl' => ?_⟩
  by_cases e : y = x
  · subst e
    obtain rfl : l' = l := Option.some.inj (hl'.symm.trans hl)
    refine ⟨?_, fun i hi => ?_⟩
    · rw [has_put_same hm (shapeLaw.key hl), findN_new hx]; rfl
    · rw [findN_new hx] at hi
      injection hi with hi
      subst hi
      exact atKey_put_same hm (shapeLaw.key hl) _ _
  · have hne : l' ≠ l := fun e' => e (shp_inj (shapeLaw.inj hl' (e' ▸ hl)))
    obtain ⟨h1, h2⟩ := hk y l' hl'
    refine ⟨?_, fun i hi => ?_⟩
    · rw [has_put_other hne, h1, findN_snoc e]
    · rw [findN_snoc e] at hi
      rw [atKey_put_other hne]
      exact h2 i hi
end Go.Proofs.YtdabmjcpiblofaaDoor
