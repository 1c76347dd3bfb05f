/-
  What the reference's GetCommit knows between its calls. No condition.
-/
import Derived.Test.YtnnclopojiegfaaWtN
namespace Go.Proofs.Ytnnclopojiegfaa
open Go.RowKit
set_option linter.unusedVariables false

structure FillR (w0 w : World) (g : Nat) (T : TypeId) (zs cs : Array Value) : Prop where
  box : Blk w (g + 1) T cs
  out : Blk w g T zs
  bel : Below w0.heap.size w0 w
  new : w0.heap.size ≤ g
section
variable {w0 w w' : World} {g : Nat} {T : TypeId} {zs cs : Array Value}
theorem FillR.size (h : FillR w0 w g T zs cs) : g + 2 ≤ w.heap.size := h.box.lt
theorem FillR.next (h : FillR w0 w g T zs cs) (hb : Below w.heap.size w w') : FillR w0 w' g T zs cs :=
  ⟨h.box.below hb h.box.lt, h.out.below hb h.out.lt, h.bel.trans (hb.mono h.bel.size), h.new⟩
theorem FillR.put (h : FillR w0 w g T zs cs) (k : Nat) (u : Value) : FillR w0 (w.setCell ⟨g + 1, k, none⟩ u) g T zs (cs.setIfInBounds k u) :=
  ⟨h.box.set_ k u, h.out.far (by show g ≠ g + 1; omega) u, h.bel.setCell (by have := h.new; show w0.heap.size ≤ g + 1; omega) u, h.new⟩
theorem FillR.give (h : FillR w0 w g T zs cs) (k : Nat) (u : Value) : FillR w0 (w.setCell ⟨g, k, none⟩ u) g T (zs.setIfInBounds k u) cs :=
  ⟨h.box.far (by show g + 1 ≠ g; omega) u, h.out.set_ k u, h.bel.setCell h.new u, h.new⟩
theorem FillR.alloc (h : FillR w0 w g T zs cs) (o : Obj) : FillR w0 (w.alloc o) g T zs cs :=
  ⟨h.box.alloc o, h.out.alloc o, h.bel.alloc h.bel.size o, h.new⟩
theorem FillR.start (w : World) (T : TypeId) (zs : Array Value) : FillR w ((w.alloc (.cells zs T)).alloc (.cells zs T)) w.heap.size T zs zs := by
  refine ⟨?_, (Blk.new w T zs).alloc _, ((Below.refl _ w).alloc (Nat.le_refl _) _).alloc (by simp) _, Nat.le_refl _⟩
  have := Blk.new (w.alloc (.cells zs T)) T zs
  have e : (w.alloc (.cells zs T)).heap.size = w.heap.size + 1 := by simp
  rwa [e] at this
theorem FillR.grown {v v' : Value} (h : FillR w0 w g T zs cs) (hg : Grows w w' v v') (h1 : v.ownBlock ≠ some g) (h2 : v.ownBlock ≠ some (g + 1)) (h3 : ∀ b, v.ownBlock = some b → w0.heap.size ≤ b) : FillR w0 w' g T zs cs :=
  ⟨hg.blk h.box h2, hg.blk h.out h1, h.bel.trans (hg.below h.bel.size h3), h.new⟩
end
theorem FillR.other {w0 w : World} {g : Nat} {T : TypeId} {zs cs : Array Value} (h : FillR w0 w g T zs cs) {p : Addr} (hp : g + 1 < p.block) (u : Value) : FillR w0 (w.setCell p u) g T zs cs :=
  ⟨h.box.far (by omega) u, h.out.far (by omega) u, h.bel.setCell (by have := h.new; omega) u, h.new⟩
theorem FillR.six {w0 w : World} {g b : Nat} {T : TypeId} {zs cs : Array Value} (h : FillR w0 w g T zs cs) (hb : g + 1 < b) (u0 u1 u2 u3 u4 u5 : Value) :
    FillR w0 ((((((w.setCell ⟨b, 0, none⟩ u0).setCell ⟨b, 1, none⟩ u1).setCell ⟨b, 2, none⟩ u2).setCell ⟨b, 3, none⟩ u3).setCell ⟨b, 4, none⟩ u4).setCell ⟨b, 5, none⟩ u5) g T zs cs :=
  (((((h.other (p := ⟨b, 0, none⟩) hb u0).other (p := ⟨b, 1, none⟩) hb u1).other (p := ⟨b, 2, none⟩) hb u2).other (p := ⟨b, 3, none⟩) hb u3).other (p := ⟨b, 4, none⟩) hb u4).other (p := ⟨b, 5, none⟩) hb u5
theorem below_six {B b : Nat} {w0 w : World} (h : Below B w0 w) (hb : B ≤ b) (u0 u1 u2 u3 u4 u5 : Value) :
    Below B w0 ((((((w.setCell ⟨b, 0, none⟩ u0).setCell ⟨b, 1, none⟩ u1).setCell ⟨b, 2, none⟩ u2).setCell ⟨b, 3, none⟩ u3).setCell ⟨b, 4, none⟩ u4).setCell ⟨b, 5, none⟩ u5) :=
  (((((h.setCell hb u0).setCell hb u1).setCell hb u2).setCell hb u3).setCell hb u4).setCell hb u5
theorem src_newB {P : Program} (w : World) {tx e' : TypeId} (hk : P.underlying tx = some (.slice e')) (vals : List Value) (size m c g : Nat) (te : TypeId) (hg : g = w.heap.size) (hl : vals.length = m * size) (h1 : ∀ u ∈ vals, u.oneCell' = true) :
    Src P size tx (.slice (some ⟨g, 0, none⟩) m c) m vals (w.alloc (.cells vals.toArray te)) := by
  subst hg
  exact src_new w hk vals size m c te hl h1
theorem six_size (w : World) (b : Nat) (u0 u1 u2 u3 u4 u5 : Value) : ((((((w.setCell ⟨b, 0, none⟩ u0).setCell ⟨b, 1, none⟩ u1).setCell ⟨b, 2, none⟩ u2).setCell ⟨b, 3, none⟩ u3).setCell ⟨b, 4, none⟩ u4).setCell ⟨b, 5, none⟩ u5).heap.size = w.heap.size := by simp [World.setCell]
theorem below_eq {B : Nat} {w w' : World} (h : w = w') : Below B w w' := by subst h; exact Below.refl B w
theorem grown_below {w0 w w' : World} {row : Option Nat} (h : w0.grownBy w row) (hb : Below w.heap.size w w') : w0.grownBy w' row :=
  ⟨hb.os.trans h.os, hb.tape.trans h.tape, hb.output.trans h.output, Nat.le_trans h.size hb.size, fun i hi hne => (hb.block i (Nat.lt_of_lt_of_le hi h.size)).trans (h.block i hi hne)⟩
theorem grown_grows {w0 w w' : World} {row : Option Nat} {v v' : Value} (h : w0.grownBy w row) (hg : Grows w w' v v') (hv : ∀ g, v.ownBlock = some g → w0.heap.size ≤ g) : w0.grownBy w' row := by
  refine ⟨hg.grown.os.trans h.os, hg.grown.tape.trans h.tape, hg.grown.output.trans h.output, Nat.le_trans h.size hg.grown.size, fun i hi hne2 => (hg.grown.block i (Nat.lt_of_lt_of_le hi h.size) (fun e => ?_)).trans (h.block i hi hne2)⟩
  have := hv i e.symm
  omega

/-- the loop over a commit's writes: wL is where it begins, g + 1 the commit's box -/
structure WRel (w0 wL wr : World) (g : Nat) (f : Nat → Option (WCell × Nat)) (zs : Array Value) (cs : Value → Array Value) (q m i : Nat) (p : Nat) (xs : List WCell) (v : Value) : Prop where
  le : i ≤ m
  len : xs.length = i
  st : manyP f i q = some (xs, p)
  own : wr.ownsRow wL.heap.size 61 6 v i (xs.flatMap WCell.vals)
  fill : FillR w0 wr g 36 zs (cs v)
  gr : wL.grownBy wr (some (g + 1))
  low : w0.heap.size ≤ wL.heap.size
theorem WRel.step {w0 wL wr W3 w4 : World} {g q m i p p2 : Nat} {f : Nat → Option (WCell × Nat)} {zs : Array Value} {cs : Value → Array Value} {xs : List WCell} {v v2 : Value} {a : WCell} {o : Obj} (h : WRel w0 wL wr g f zs cs q m i p xs v) (him : i < m) (hf : f p = some (a, p2))
    (hcs : (cs v).setIfInBounds 4 v2 = cs v2) (hb : Below wr.heap.size wr W3) (hg : Grows (W3.alloc o) w4 v v2) (hown : w4.ownsRow wL.heap.size 61 6 v2 (i + 1) (xs.flatMap WCell.vals ++ a.vals)) :
    WRel w0 wL (w4.setCell ⟨g + 1, 4, none⟩ v2) g f zs cs q m (i + 1) p2 (xs ++ [a]) v2 := by
  have hgr1 : wL.grownBy (W3.alloc o) (some (g + 1)) := only_alloc (grown_below h.gr hb) o
  have hg1 : v.ownBlock ≠ some g := own_blk_ne h.own h.fill.out (by decide)
  have hg2 : v.ownBlock ≠ some (g + 1) := own_blk_ne h.own h.fill.box (by decide)
  have hge : ∀ b, v.ownBlock = some b → wL.heap.size ≤ b := fun b hv => own_ge h.own hv
  have hF : FillR w0 w4 g 36 zs (cs v) := ((h.fill.next hb).alloc o).grown hg hg1 hg2 (fun b hv => Nat.le_trans h.low (hge b hv))
  have hg3 : v2.ownBlock ≠ some (g + 1) := own_blk_ne hown hF.box (by decide)
  refine ⟨him, by rw [List.length_append, h.len]; rfl, ?_, ?_, ?_, only_setCell (grown_grows hgr1 hg hge) (.inl rfl) v2, h.low⟩
  · rw [manyP_snoc, h.st]
    show (f p).map _ = _
    rw [hf]
    rfl
  · rw [List.flatMap_append, List.flatMap_cons, List.flatMap_nil, List.append_nil]
    exact hown.kept (only_setCell (World.grownBy.refl w4 (some (g + 1))) (.inl rfl) v2) (.inr hg3)
  · rw [← hcs]
    exact hF.put 4 v2
theorem WRel.fails {w0 wL wr : World} {g q m i p : Nat} {f : Nat → Option (WCell × Nat)} {zs : Array Value} {cs : Value → Array Value} {xs : List WCell} {v : Value} (h : WRel w0 wL wr g f zs cs q m i p xs v) (him : i < m) (hf : f p = none) : manyP f m q = none := by
  refine manyP_none m (i + 1) q him ?_
  rw [manyP_snoc, h.st]
  show (f p).map _ = _
  rw [hf]
  rfl
end Go.Proofs.Ytnnclopojiegfaa
