/-
  Trees that lie apart from what is being written; rows of trees of one's own. No condition.
-/
import Derived.Test.YtdabmjcpiblofaaDoorPkF
import Derived.Test.YtdabmjcpiblofaaDoorPkV
namespace Go.Proofs.YtdabmjcpiblofaaDoor
open Go.RowKit
set_option linter.unusedVariables false

/-- the blocks in which a tree lies are of S -/
inductive InS (S : Nat → Prop) : TX → Prop where
  | mk (t : TX) (hk : ∀ ad, t.kA = some ad → 0 < t.kids.length → S ad.block) (hl : ∀ ad, t.lA = some ad → 0 < t.leads.length → S ad.block) (sub : ∀ k ∈ t.kids, InS S k) : InS S t
section
variable {w w' : World} {B : Nat} {S S' : Nat → Prop} {t : TX}
theorem InS.and {S S' R : Nat → Prop} (h : InS S t) (h' : InS S' t) (hr : ∀ b, S b → S' b → R b) : InS R t := by
  induction h with
  | mk t hk hl sub ih =>
    cases h' with
    | mk _ hk' hl' sub' => exact .mk t (fun ad e hn => hr _ (hk ad e hn) (hk' ad e hn)) (fun ad e hn => hr _ (hl ad e hn) (hl' ad e hn)) (fun k hk => ih k hk (sub' k hk))
theorem InS.mono (h : InS S t) (hr : ∀ b, S b → S' b) : InS S' t := h.and h (fun b h _ => hr b h)
theorem Tr.ins (h : Tr w B t) : InS (· < B) t := by
  induction h with
  | mk t hk hl kb kc lb kr sub ih =>
    exact .mk t (fun ad e hn => by obtain ⟨ad', e', hb, -⟩ := hk.2 hn; rw [e] at e'; injection e' with e'; subst e'; exact hb) (fun ad e hn => by obtain ⟨ad', e', hb, -⟩ := hl.2 hn; rw [e] at e'; injection e' with e'; subst e'; exact hb) (fun k hk => ih k hk)
theorem Reads.keepS {size n : Nat} {A : Option Addr} {xs : List Value} (h : Reads w B size A n xs) (hs : ∀ ad, A = some ad → 0 < n → S ad.block) (hk : ∀ p : Addr, S p.block → p.block < B → w'.cell? p = w.cell? p) : Reads w' B size A n xs :=
  ⟨h.1, fun hn => by
    obtain ⟨ad, e, hb, hc⟩ := h.2 hn
    exact ⟨ad, e, hb, fun j u hu => (hk _ (by rw [block_of_add]; exact hs ad e hn) (by rw [block_of_add]; exact hb)).trans (hc j u hu)⟩⟩
theorem Tr.keepS (h : Tr w B t) (hs : InS S t) (hk : ∀ p : Addr, S p.block → p.block < B → w'.cell? p = w.cell? p) : Tr w' B t := by
  induction h with
  | mk t h1 h2 kb kc lb kr sub ih =>
    cases hs with
    | mk _ s1 s2 s3 => exact .mk t (h1.keepS s1 hk) (h2.keepS s2 hk) kb kc lb kr (fun k hk' => ih k hk' (s3 k hk'))
end
theorem tree_info : (Tryd.prog.info? 42).map (fun i => (i.zero, i.size, i.bytes)) = some (some (.agg #[.int .i64 0, .string ⟨#[]⟩, .slice none 0 0, .slice none 0 0]), 4, 72) := by kernel_rfl
theorem put4_blk {w : World} {g : Nat} {t : TypeId} {a0 a1 a2 a3 : Value} (h : Blk w g t #[a0, a1, a2, a3]) (b0 b1 b2 b3 : Value) : Blk ((((w.setCell ⟨g, 0, none⟩ b0).setCell ⟨g, 1, none⟩ b1).setCell ⟨g, 2, none⟩ b2).setCell ⟨g, 3, none⟩ b3) g t #[b0, b1, b2, b3] :=
  (((h.set_ 0 b0).set_ 1 b1).set_ 2 b2).set_ 3 b3
theorem put4_chg (w : World) (g : Nat) (b0 b1 b2 b3 : Value) : Chg w ((((w.setCell ⟨g, 0, none⟩ b0).setCell ⟨g, 1, none⟩ b1).setCell ⟨g, 2, none⟩ b2).setCell ⟨g, 3, none⟩ b3) (fun i => i = g) :=
  ((((Chg.refl w (fun i => i = g)).setCell (p := ⟨g, 0, none⟩) (.inl rfl) b0).setCell (p := ⟨g, 1, none⟩) (.inl rfl) b1).setCell (p := ⟨g, 2, none⟩) (.inl rfl) b2).setCell (p := ⟨g, 3, none⟩) (.inl rfl) b3
theorem Tr.chgS {w w' : World} {B : Nat} {M S : Nat → Prop} {t : TX} (h : Tr w B t) (hs : InS S t) (hc : Chg w w' M) (hB : B ≤ w.heap.size) (hm : ∀ i, S i → ¬ M i) : Tr w' B t :=
  h.keepS hs (fun p hp hp2 => World.cell?_of_block (hc.block p.block (by omega) (hm _ hp)))

/-- a row of trees of one's own; their blocks are lo or more, and not the row's -/
structure TL (w : World) (lo base : Nat) (v : Value) (rs : List TX) : Prop where
  row : w.ownsRow base 42 4 v rs.length (rs.flatMap TX.cells)
  kid : ∀ k ∈ rs, Tr w w.heap.size k ∧ InS (fun b => lo ≤ b ∧ v.ownBlock ≠ some b) k ∧ Fine k
section
variable {w w' w1 w3 : World} {lo base : Nat} {v v3 : Value} {rs : List TX} {r : TX}
theorem TL.nil (w : World) (lo base : Nat) : TL w lo base (.slice none 0 0) [] := ⟨⟨rfl, .inl ⟨rfl, rfl⟩⟩, fun k hk => by cases hk⟩
theorem TL.below (h : TL w lo base v rs) (hb : Below w.heap.size w w') : TL w' lo base v rs :=
  ⟨owns_below h.row hb (own_lt h.row), fun k hk => ⟨(h.kid k hk).1.up (Nat.le_refl _) hb, (h.kid k hk).2⟩⟩
theorem TL.chg {M : Nat → Prop} (h : TL w lo base v rs) (hc : Chg w w' M) (hv : ∀ g, v.ownBlock = some g → ¬ M g) (hm : ∀ i, M i → i < lo ∨ w.heap.size ≤ i) : TL w' lo base v rs := by
  refine ⟨?_, fun k hk => ⟨((h.kid k hk).1.chgS ((h.kid k hk).1.ins.and (h.kid k hk).2.1 (R := fun b => b < w.heap.size ∧ lo ≤ b) (fun b h1 h2 => ⟨h1, h2.1⟩)) hc (Nat.le_refl _) (fun i hi hx => ?_)).more hc.size, (h.kid k hk).2⟩⟩
  · have hlt := own_lt h.row
    refine ⟨h.row.1, ?_⟩
    rcases h.row.2 with h0 | ⟨g, cap, cur, rfl, hb, hh, rest⟩
    · exact .inl h0
    · exact .inr ⟨g, cap, cur, rfl, hb, (hc.block g (hlt g (by simp [Value.ownBlock])) (hv g (by simp [Value.ownBlock]))).trans hh, rest⟩
  · have := hm i hx; omega
theorem TL.step (h : TL w1 lo base v rs) (hr : Tr w1 w1.heap.size r) (hi : InS (fun b => lo ≤ b ∧ v.ownBlock ≠ some b) r) (hf : Fine r) (o : Obj) (ho : w3.ownsRow base 42 4 v3 (rs.length + 1) (rs.flatMap TX.cells ++ r.cells)) (hg : Grows (w1.alloc o) w3 v v3) :
    TL w3 lo base v3 (rs ++ [r]) := by
  have hsz : (w1.alloc o).heap.size = w1.heap.size + 1 := by simp
  have hgs := hg.size
  refine ⟨?_, fun x hx => ?_⟩
  · rw [List.length_append, List.flatMap_append, List.flatMap_cons, List.flatMap_nil, List.append_nil]
    exact ho
  · have key : Tr w1 w1.heap.size x ∧ InS (fun b => lo ≤ b ∧ v.ownBlock ≠ some b) x ∧ Fine x := by
      rcases List.mem_append.1 hx with hx | hx
      · exact h.kid x hx
      · simp at hx
        subst hx
        exact ⟨hr, hi, hf⟩
    have hins : InS (fun b => b < w1.heap.size ∧ lo ≤ b ∧ v.ownBlock ≠ some b) x := key.1.ins.and key.2.1 (fun b h1 h2 => ⟨h1, h2.1, h2.2⟩)
    refine ⟨(key.1.keepS hins (fun p hp _ => ?_)).more (by omega), hins.mono (fun b hb => ⟨hb.2.1, fun e => ?_⟩), key.2.2⟩
    · rw [World.cell?_of_block (hg.grown.block p.block (by omega) (fun e => hp.2.2 e.symm)), World.cell?_alloc_lt w1 o p hp.1]
    · rcases hg.own b e with h1 | h1
      · exact hb.2.2 h1
      · omega
theorem tree_one (r : TX) : ∀ u ∈ r.cells, u.oneCell' = true := by
  intro u hu
  simp only [TX.cells, List.mem_cons, List.not_mem_nil, or_false] at hu
  rcases hu with rfl | rfl | rfl | rfl <;> rfl
end
/-- a tree in new memory -/
def NewT (w : World) (t : T) (e : Ending) (w' : World) : Prop := ∃ r : TX, e = .returned r.val ∧ r.plain = t ∧ Tr w' w'.heap.size r ∧ InS (w.heap.size ≤ ·) r ∧ Fine r ∧ Below w.heap.size w w'
end Go.Proofs.YtdabmjcpiblofaaDoor
