/-
  Lists of bytes that came in, and what the laws cut out of them. No condition.
-/
import Derived.Test.YtnjafhlpnoikcaaLgT
import Derived.Test.YtnjafhlpnoikcaaShape
namespace Go.Proofs.Ytnjafhlpnoikcaa
open Go.ChangeShapes Go.WideShapes Go.ChangeAt Go.RowKit Go.Deep
set_option linter.unusedVariables false

instance : Inhabited Rc := ⟨⟨none, 0, []⟩⟩
structure GoodR (w : World) (r : Rc) : Prop where
  cap : r.b.length ≤ r.c
  small : r.b.length ≤ 140737488351232
  read : Reads w w.heap.size 1 r.A r.b.length (r.b.map byt)
  byte : ∀ x ∈ r.b, x < 256
section
variable {H : Type} {enc : TypeId × Value → H} {W : World} {held : Bool}
theorem open_recs {a : Option Addr} {len cap : Nat} {d : DataW H} {p : List MemPlace} (h : DataW.Trod enc Try.prog W 0 (fun _ => true) held 35 (.slice a len cap) d p) (hsm : Sm Try.prog 35 d) : len ≤ 140737488351232 ∧ ∃ xs : List Rc, xs.length = len ∧ Reads W W.heap.size 1 a len (xs.flatMap rcell) ∧ ∀ x ∈ xs, GoodR W x := by
  obtain ⟨fuel, hf⟩ := h
  have hb : 0 < Try.prog.bytesOf 32 := of_decide_eq_true (by kernel_rfl)
  have hb5 : 0 < Try.prog.bytesOf 5 := of_decide_eq_true (by kernel_rfl)
  have hc5 : Try.prog.cellsOf 5 = 1 := by kernel_rfl
  obtain ⟨h1, -, h3, xs, h4, h5, h6⟩ := open_list (α := Rc) Try.underlying35 (by kernel_rfl : Try.prog.cellsOf 32 = 1) (by omega) rcell (GoodR W) (fun _ => rfl) (fun cs' d' pl n htr hs hlen => by
    obtain ⟨c0, rfl⟩ : ∃ c0, cs' = [c0] := by
      match cs', hlen with
      | [c0], _ => exact ⟨c0, rfl⟩
    obtain ⟨A1, l1, k1, rfl⟩ := slice_form Try.underlying32 htr
    obtain ⟨u0, u1, bs, rfl, u2, u3⟩ := open_bytesS Try.underlying32 Try.underlying5 hc5 hb5 htr hs
    exact ⟨⟨A1, k1, bs⟩, rfl, ⟨u0, u1, u2, u3⟩⟩) hf hsm
  exact ⟨h3 hb, xs, h4, h5, h6⟩
end
section
variable {w w' : World} {r : Rc}
theorem GoodR.up (h : GoodR w r) (hb : Below w.heap.size w w') : GoodR w' r := ⟨h.cap, h.small, (h.read.below hb).more hb.size, h.byte⟩
/-- the first m bytes -/
def Rc.cut (r : Rc) (m : Nat) : Rc := ⟨r.A, r.c, r.b.take m⟩
theorem GoodR.cut (h : GoodR w r) (m : Nat) : GoodR w (r.cut m) := by
  refine ⟨Nat.le_trans (by show (r.b.take m).length ≤ _; rw [List.length_take]; omega) h.cap, Nat.le_trans (by show (r.b.take m).length ≤ _; rw [List.length_take]; omega) h.small, ⟨by show ((r.b.take m).map byt).length = _; simp [Rc.cut], fun hn => ?_⟩, fun x hx => h.byte x (List.mem_of_mem_take hx)⟩
  have hn' : 0 < (r.b.take m).length := hn
  rw [List.length_take] at hn'
  obtain ⟨ad, e, hl, hc⟩ := h.read.2 (by omega)
  refine ⟨ad, e, hl, fun j u hu => hc j u ?_⟩
  have hu' : ((r.b.take m).map byt)[j]? = some u := hu
  rw [List.getElem?_map, List.getElem?_take] at hu'
  rw [List.getElem?_map]
  split at hu'
  · exact hu'
  · cases hu'
end
end Go.Proofs.Ytnjafhlpnoikcaa
