/-
  A list that is read, of any elements. No condition.
-/
import Derived.Test.YtnnclopojiegfaaWtF
namespace Go.Proofs.Ytnnclopojiegfaa
open Go.RowKit
set_option linter.unusedVariables false

def LPost {α β : Type} (vals : α → List Value) (pr : α → β) (G : World → Value → α → Prop) (k : Nat) (w : World) (r : Nat) (A : Option Addr) (n c : Nat) (o : Option (List β × Nat)) (e : Ending) (w' : World) : Prop :=
  ∃ B cc, ∃ xs : List α, e = .returned (.slice B xs.length cc) ∧ (∀ z, o = some z → z.1 = xs.map pr ∧ ∀ x ∈ xs, G w' (.slice B xs.length cc) x) ∧ Reads w' w'.heap.size k B xs.length (xs.flatMap vals) ∧ (∀ ad, B = some ad → w.heap.size ≤ ad.block ∧ ad.block < w'.heap.size) ∧ Rd w' r A n c (o.map (·.2)) ∧ w.grownBy w' (some r)
structure LRel {α β : Type} (vals : α → List Value) (pr : α → β) (G : World → Value → α → Prop) (T : TypeId) (k : Nat) (f : Nat → Option (β × Nat)) (w wr : World) (r : Nat) (A : Option Addr) (n c : Nat) (bs : List Nat) (q m i : Nat) (s : Option Nat) (xs : List α) (v : Value) : Prop where
  le : i ≤ m
  len : xs.length = i
  st : (manyP f i q).map (·.2) = s
  xs_ : ∀ z, manyP f i q = some z → z.1 = xs.map pr ∧ ∀ x ∈ xs, G wr v x
  own : wr.ownsRow w.heap.size T k v i (xs.flatMap vals)
  mid : LMid w wr r A n c bs s
section
variable {α β : Type} {vals : α → List Value} {pr : α → β} {G : World → Value → α → Prop} {T : TypeId} {k : Nat} {f : Nat → Option (β × Nat)} {w wr w2 : World} {r n c q m i : Nat} {A : Option Addr} {bs : List Nat} {s : Option Nat} {xs : List α} {v v2 : Value} {a : α}
theorem LRel.step (h : LRel vals pr G T k f w wr r A n c bs q m i s xs v) (him : i < m) (ka : ∀ y, s.bind f = some y → y.1 = pr a)
    (hown : w2.ownsRow w.heap.size T k v2 (i + 1) (xs.flatMap vals ++ vals a)) (hm : LMid w w2 r A n c bs ((s.bind f).map (·.2))) (hG : (∀ x ∈ xs, G wr v x) → (∃ y, s.bind f = some y) → ∀ x, x ∈ xs ++ [a] → G w2 v2 x) : LRel vals pr G T k f w w2 r A n c bs q m (i + 1) ((s.bind f).map (·.2)) (xs ++ [a]) v2 := by
  refine ⟨him, by rw [List.length_append, h.len]; rfl, ?_, fun z hz => ?_, by rw [List.flatMap_append, List.flatMap_cons, List.flatMap_nil, List.append_nil]; exact hown, hm⟩
  · rw [manyP_snoc, ← h.st]
    cases manyP f i q with
    | none => rfl
    | some y =>
      show ((f y.2).map _).map _ = (f y.2).map _
      cases f y.2 <;> rfl
  · rw [manyP_snoc] at hz
    obtain ⟨y, hy, hz⟩ := Option.bind_eq_some_iff.1 hz
    obtain ⟨x, hx, rfl⟩ := Option.map_eq_some_iff.1 hz
    obtain ⟨e1, eG⟩ := h.xs_ y hy
    have e2 := h.st
    rw [hy] at e2
    have e4 : s.bind f = some x := by rw [← e2]; exact hx
    have e3 := ka x e4
    refine ⟨?_, hG eG ⟨x, e4⟩⟩
    rw [List.map_append, ← e1, List.map_cons, List.map_nil, ← e3]
theorem LRel.done {o : Option (List β × Nat)} (h : LRel vals pr G T k f w wr r A n c bs q m i s xs v) (he : i = m ∨ s = none) (ho : o = manyP f m q) : LPost vals pr G k w r A n c o (.returned v) wr := by
  obtain ⟨B, cc, rfl, hr, hB⟩ := own_reads h.own
  have hlen := h.len
  subst hlen
  have key : (∀ z, o = some z → z.1 = xs.map pr ∧ ∀ x ∈ xs, G wr (.slice B xs.length cc) x) ∧ o.map (·.2) = s := by
    rcases he with rfl | he
    · rw [ho]; exact ⟨h.xs_, h.st⟩
    · have h1 : manyP f xs.length q = none := by
        have := h.st
        rw [he] at this
        simpa using this
      rw [ho, manyP_none m xs.length q h.le h1, he]
      exact ⟨(fun z hz => by cases hz), rfl⟩
  refine ⟨B, cc, xs, rfl, key.1, hr, hB, ?_, h.mid.gr⟩
  rw [key.2]
  exact h.mid.rd
end
theorem cell_info : (Try.prog.info? 61).map (fun i => (i.zero, i.size, i.bytes)) = some (some (.agg #[.int .i64 0, .int .i64 0, .int .i64 0, .bool false, .string ByteArray.empty, .int .i64 0]), 6, 56) := by kernel_rfl
theorem commit_info : (Try.prog.info? 36).map (fun i => (i.zero, i.size, i.bytes)) = some (some (.agg #[.int .i64 0, .slice none 0 0, .slice none 0 0, .string ByteArray.empty, .slice none 0 0]), 5, 96) := by kernel_rfl
end Go.Proofs.Ytnnclopojiegfaa
