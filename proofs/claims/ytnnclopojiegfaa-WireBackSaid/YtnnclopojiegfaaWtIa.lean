/-
  Commits of one's own stay while a list of them grows. No condition.
-/
import Derived.Test.YtnnclopojiegfaaWtH
namespace Go.Proofs.Ytnnclopojiegfaa
open Go.RowKit
set_option linter.unusedVariables false

/-- a block in which a list of the commit lies -/
def Bl (x : CX) (i : Nat) : Prop := (∃ ad, x.A1 = some ad ∧ ad.block = i) ∨ (∃ ad, x.A2 = some ad ∧ ad.block = i) ∨ (∃ ad, x.A3 = some ad ∧ ad.block = i)
section
variable {w w' : World} {lo k m g : Nat} {B : Option Addr} {xs : List Value} {x : CX}
theorem Reads.same (h : Reads w w.heap.size k B m xs) (hs : w.heap.size ≤ w'.heap.size) (hk : ∀ ad, B = some ad → w'.heap[ad.block]? = w.heap[ad.block]?) : Reads w' w'.heap.size k B m xs := by
  refine ⟨h.1, fun hn => ?_⟩
  obtain ⟨ad, e, hb, hc⟩ := h.2 hn
  exact ⟨ad, e, by omega, fun j u hu => (World.cell?_of_block (by rw [block_of_add]; exact hk ad e)).trans (hc j u hu)⟩
theorem GoodN.same (h : GoodN w lo x) (hs : w.heap.size ≤ w'.heap.size) (hk : ∀ i, Bl x i → w'.heap[i]? = w.heap[i]?) : GoodN w' lo x :=
  ⟨⟨h.good.ok, h.good.r1.same hs (fun ad e => hk _ (.inl ⟨ad, e, rfl⟩)), h.good.r2.same hs (fun ad e => hk _ (.inr (.inl ⟨ad, e, rfl⟩))), h.good.r3.same hs (fun ad e => hk _ (.inr (.inr ⟨ad, e, rfl⟩))), h.good.l1, h.good.l2, h.good.l3, h.good.l4, h.good.l5⟩,
    fun ad e => ⟨(h.b1 ad e).1, by have := (h.b1 ad e).2; omega⟩, fun ad e => ⟨(h.b2 ad e).1, by have := (h.b2 ad e).2; omega⟩, fun ad e => ⟨(h.b3 ad e).1, by have := (h.b3 ad e).2; omega⟩⟩
theorem GoodN.bl (h : GoodN w lo x) {i : Nat} (hi : Bl x i) : lo ≤ i ∧ i < w.heap.size := by
  rcases hi with ⟨ad, e, rfl⟩ | ⟨ad, e, rfl⟩ | ⟨ad, e, rfl⟩
  · exact h.b1 ad e
  · exact h.b2 ad e
  · exact h.b3 ad e
theorem GoodN.low {lo' : Nat} (h : GoodN w lo x) (hl : lo' ≤ lo) : GoodN w lo' x :=
  ⟨h.good, fun ad e => ⟨by have := (h.b1 ad e).1; omega, (h.b1 ad e).2⟩, fun ad e => ⟨by have := (h.b2 ad e).1; omega, (h.b2 ad e).2⟩, fun ad e => ⟨by have := (h.b3 ad e).1; omega, (h.b3 ad e).2⟩⟩
end
/-- a commit of one's own that is an element of the list v -/
def GV (lo : Nat) (w : World) (v : Value) (x : CX) : Prop := GoodN w lo x ∧ ∀ g, v.ownBlock = some g → ¬ Bl x g
theorem gv_grow {wA w3 : World} {lo : Nat} {u v : Value} {x : CX} (h : GV lo wA u x) (hg : Grows wA w3 u v) : GV lo w3 v x := by
  refine ⟨h.1.same hg.size (fun i hi => hg.grown.block i (h.1.bl hi).2 (fun e => h.2 i e.symm hi)), fun g hv hb => ?_⟩
  rcases hg.own g hv with h1 | h1
  · exact h.2 g h1 hb
  · have := (h.1.bl hb).2
    omega
theorem gv_step {wr w2 w3 : World} {o : Obj} {r lo : Nat} {u v : Value} {xs : List CX} {a : CX} (hg : wr.grownBy w2 (some r)) (hr : r < lo) (hlo : lo ≤ wr.heap.size) (hu : ∀ g, u.ownBlock = some g → g < wr.heap.size) (hg3 : Grows (w2.alloc o) w3 u v)
    (hold : ∀ x ∈ xs, GV lo wr u x) (ha : GoodN w2 wr.heap.size a) : ∀ x ∈ xs ++ [a], GV lo w3 v x := fun x hx => by
  refine gv_grow ?_ hg3
  rcases List.mem_append.1 hx with hx | hx
  · obtain ⟨h1, h2⟩ := hold x hx
    refine ⟨h1.same (Nat.le_trans hg.size (by simp)) (fun i hi => ?_), h2⟩
    obtain ⟨b1, b2⟩ := h1.bl hi
    exact (Below.heap_alloc w2 o i (by have := hg.size; omega)).trans (hg.block i b2 (fun e => by injection e; omega))
  · obtain rfl : x = a := by simpa using hx
    refine ⟨(ha.low hlo).same (by simp) (fun i hi => Below.heap_alloc w2 o i (ha.bl hi).2), fun g hg' hb => ?_⟩
    have := hu g hg'
    have := (ha.bl hb).1
    omega
end Go.Proofs.Ytnnclopojiegfaa
