/-
  Several rows of one's own, in blocks of their own. A region that draws its order: reads first, then a tail in one order. A region that draws its order and holds calls that make memory: every later world reads as this one. Worlds that differ in some blocks alone. A region that draws its order, by what is known whatever has run so far. The frame of a law whose row lists package-level variables. No condition.
-/
import Derived.Test.YtdabmjcpiblofaaDoorRow
import Derived.StillTail
import Derived.BigQuiet
import Derived.Laws.CopyOwn
import Derived.WalkKit
import Derived.WalkSpells
import Derived.WalkLawsBesides
import Derived.Outline
import Derived.KernelRfl
import Derived.Deep.RegionLaw
import Derived.Orders
import Derived.Deep.DeepHandedRow
import Derived.Lib.LaidTab
import Derived.LaidSub
namespace Go.Proofs.YtdabmjcpiblofaaDoor
open Go.RowKit
set_option linter.unusedVariables false
/-- rows of elements of one cell, each in a block of its own -/
structure Own (w : World) (base : Nat) (e : TypeId) (vs : List (Value × List Value)) : Prop where
  own : ∀ (k : Nat) p, vs[k]? = some p → w.ownsRow base e 1 p.1 p.2.length p.2
  sep : ∀ (i j : Nat) p q (g : Nat), i ≠ j → vs[i]? = some p → vs[j]? = some q → p.1.ownBlock = some g → q.1.ownBlock ≠ some g
section
variable {w w' : World} {base : Nat} {e : TypeId} {vs : List (Value × List Value)}
theorem owns_nil (w : World) (base : Nat) (e : TypeId) : w.ownsRow base e 1 (.slice none 0 0) 0 [] := ⟨rfl, .inl ⟨rfl, rfl⟩⟩
theorem own_lt {size n : Nat} {v : Value} {xs : List Value} (h : w.ownsRow base e size v n xs) : ∀ g, v.ownBlock = some g → g < w.heap.size := fun g hg => by
  rcases h.2 with ⟨rfl, _⟩ | ⟨g', cap, cur, rfl, hb, hh, _⟩
  · simp [Value.ownBlock] at hg
  · have : g' = g := by simpa [Value.ownBlock] using hg
    subst this
    rcases Nat.lt_or_ge g' w.heap.size with h1 | h1
    · exact h1
    · rw [Array.getElem?_eq_none h1] at hh; cases hh
theorem own_from {size n : Nat} {v : Value} {xs : List Value} (h : w.ownsRow base e size v n xs) : ∀ g, v.ownBlock = some g → base ≤ g := fun g hg => by
  rcases h.2 with ⟨rfl, _⟩ | ⟨g', cap, cur, rfl, hb, _⟩
  · simp [Value.ownBlock] at hg
  · have : g' = g := by simpa [Value.ownBlock] using hg
    omega
theorem Own.start (w : World) (base : Nat) (e : TypeId) (n : Nat) : Own w base e (List.replicate n (.slice none 0 0, [])) :=
  ⟨fun k p h => by
    obtain ⟨hk, rfl⟩ := List.getElem?_eq_some_iff.1 h
    simp only [List.getElem_replicate]
    exact owns_nil w base e, fun i j p q g _ h _ hg => by
    obtain ⟨hk, rfl⟩ := List.getElem?_eq_some_iff.1 h
    simp [Value.ownBlock] at hg⟩
/-- other blocks are written, or made -/
theorem Own.grown (h : Own w base e vs) {row : Option Nat} (hg : w.grownBy w' row) (hr : ∀ (k : Nat) (p : Value × List Value) (g : Nat), vs[k]? = some p → p.1.ownBlock = some g → row ≠ some g) : Own w' base e vs :=
  ⟨fun k p hk => (h.own k p hk).kept hg (by
    cases hb : p.1.ownBlock with
    | none => exact .inl rfl
    | some g => exact .inr (fun e => hr k p g hk hb e.symm)), h.sep⟩
theorem Own.alloc (h : Own w base e vs) (o : Obj) : Own (w.alloc o) base e vs := ⟨fun k p hk => (h.own k p hk).alloc o, h.sep⟩
theorem Own.drewN (h : Own w base e vs) (n : Nat) : Own (w.drewN n) base e vs := ⟨fun k p hk => h.own k p hk, h.sep⟩
theorem Own.drew (h : Own w base e vs) : Own w.drew base e vs := ⟨fun k p hk => h.own k p hk, h.sep⟩
/-- a block of another element type is written -/
theorem Own.blk (h : Own w base e vs) {g : Nat} {t : TypeId} {cs : Array Value} (hb : Blk w g t cs) (hne : e ≠ t) (hg : w.grownBy w' (some g)) : Own w' base e vs :=
  h.grown hg fun k p g' hk hp e' => by
    injection e' with e'
    subst e'
    exact own_blk_ne (h.own k p hk) hb hne hp
/-- one of them has grown -/
theorem Own.push (h : Own w base e vs) {k : Nat} {v v' : Value} {xs xs' : List Value} (hk : vs[k]? = some (v, xs)) (hg : Grows w w' v v') (ho : w'.ownsRow base e 1 v' xs'.length xs') : Own w' base e (vs.set k (v', xs')) := by
  have hk' := (List.getElem?_eq_some_iff.1 hk).1
  have old : ∀ (j : Nat) p, j ≠ k → vs[j]? = some p → ∀ g, p.1.ownBlock = some g → v'.ownBlock ≠ some g := fun j p hj hp g hpg hv => by
    rcases hg.own g hv with h1 | h1
    · exact h.sep j k p (v, xs) g hj hp hk hpg h1
    · have := own_lt (h.own j p hp) g hpg
      omega
  refine ⟨fun j p hj => ?_, fun i j p q g hij hi hj hpg hqg => ?_⟩
  · rw [List.getElem?_set] at hj
    by_cases e1 : k = j
    · rw [if_pos e1, if_pos (by omega)] at hj
      injection hj with hj
      subst hj
      exact ho
    · rw [if_neg e1] at hj
      refine owns_grows (h.own j p hj) hg ?_
      cases hb : p.1.ownBlock with
      | none => exact .inl rfl
      | some g => exact .inr (fun e2 => h.sep j k p (v, xs) g (fun e3 => e1 e3.symm) hj hk hb e2.symm)
  · rw [List.getElem?_set] at hi hj
    by_cases e1 : k = i
    · subst e1
      rw [if_pos rfl, if_pos (by omega)] at hi
      injection hi with hi
      subst hi
      rw [if_neg hij] at hj
      exact old j q (fun e => hij e.symm) hj g hqg hpg
    · rw [if_neg e1] at hi
      by_cases e2 : k = j
      · subst e2
        rw [if_pos rfl, if_pos (by omega)] at hj
        injection hj with hj
        subst hj
        exact old i p (fun e => hij e) hi g hpg hqg
      · rw [if_neg e2] at hj
        exact h.sep i j p q g hij hi hj hpg hqg
end
end Go.Proofs.YtdabmjcpiblofaaDoor

namespace Go.Proofs.YtdabmjcpiblofaaDoor
open Go.RowKit
set_option linter.unusedVariables false
variable {P : Program}
theorem wpStill_of_quiet {ops : Array Oper} {w : World} {Q : Act → Prop} : ∀ (l : List Oper) (a : Act), wpQuiet P ops (fun w' => w' = w) Q l a → wpStill P ops w Q l a
  | [], a, h => h
  | o :: l, a, h => by
    unfold wpQuiet at h
    unfold wpStill
    split
    · rename_i hw
      rw [if_pos hw] at h
      obtain ⟨v, h1, h2⟩ := h
      have h3 := h1 w rfl
      have h4 := wpStill_of_quiet l _ h2
      unfold Oper.still
      unfold Oper.quietAt at h3
      generalize (execOp a.eval o).run P w = r at h3
      cases r with
      | halt x w' => exact h3.elim
      | ok n w' =>
        cases n <;> simp only [Oper.quietUpon] at h3 <;> simp only [Oper.stillUpon]
        case value u => exact ⟨h3.1, by rw [h3.2]; exact h4⟩
        case skip => exact ⟨h3.1, by rw [← h3.2]; exact h4⟩
        case enter f args => exact ⟨h3.1, v, h3.2, h4⟩
    · rename_i hw
      rw [if_neg hw] at h
      exact wpStill_of_quiet l _ h
theorem region_tail {id : Nat} {Q : Exit → Act → World → Prop} {a : Act} {w : World} {l : List Oper} (n : Nat) (hm : P.follows .mixedOrders = true) (hB : Region.lexTailB .any l.toArray n = true) (w2 : World) (hw : w.drew = w2)
    (h : wpQuiet P l.toArray (fun w' => w' = w2) (fun a' => wpList P l.toArray Q (l.drop n) a' w2) (l.take n) a) : (Code.region id l.toArray true).wp P Q a w := by
  subst hw
  exact wp_region_still_tail n hm hB (wpStill_of_quiet _ _ h)
/-- a call of a Go function, as one step of a region -/
theorem step_call {ops : Array Oper} {o : Oper} {a : Act} {w : World} {K : Act → World → Prop} {Q : Exit → Act → World → Prop} {E : Prop} (hgd : o.guard = none) (f : FuncId) (xs : Array Operand) (tys : Array TypeId)
    (ho : o.op = .call { callee := .value (.func f), args := xs, argTypes := tys }) {fn : Func} (hf : P.funcs[f]? = some fn) (hb : fn.body.isNone = false) (hn : (fn.name == "runtime.NumGoroutine") = false) (vals : Array Value) (hv : xs.map a.eval = vals) {R : Ending → World → Prop} (hc : Calls P f vals w R)
    (h : ∀ e w', R e w' → ∃ v, e = .returned v ∧ K (a.put o.dst v) w') : if Region.wanted o (yielded ops a.tmps) = true then Oper.wp P o a w K Q else E := by
  have hw : Region.wanted o (yielded ops a.tmps) = true := by simp [Region.wanted, hgd]
  rw [if_pos hw]
  unfold Oper.wp
  have hr : (execOp a.eval o).run P w = .ok (.enter f vals) w := by
    have hp : (program).run P w = .ok P w := rfl
    have hb' : ¬ fn.body = none := fun e => by rw [e] at hb; cases hb
    have hn' : ¬ fn.name = "runtime.NumGoroutine" := by simpa using hn
    unfold execOp
    simp [ho, resolve, invoke, Act.eval, Deferred.ofValue, callFunc, hp, hf, hb', hn']
    exact hv
  rw [hr]
  simp only [Oper.upon]
  refine hc.mono fun e w' hR => ?_
  obtain ⟨v, rfl, hk⟩ := h e w' hR
  exact hk
end Go.Proofs.YtdabmjcpiblofaaDoor

namespace Go.Proofs.YtdabmjcpiblofaaDoor
open Go.RowKit
set_option linter.unusedVariables false
variable {P : Program}
/-- a world that is w with new blocks -/
structure Fut (w : World) where
  to : World
  bel : Below w.heap.size w to
instance (w : World) : Nonempty (Fut w) := ⟨⟨w, Below.refl _ _⟩⟩
theorem region_fut {id : Nat} {Q : Exit → Act → World → Prop} {a : Act} {w : World} {l : List Oper} (hm : P.follows .mixedOrders = true) (hB : Region.lexB .any l.toArray = true)
    (h : wpQuiet P l.toArray (fun w' => ∃ x : Fut w, w' = x.to) (fun a' => ∀ w', (∃ x : Fut w, w' = x.to) → Q .normal a' w') l a) : (Code.region id l.toArray true).wp P Q a w :=
  wp_region_quiet (C := fun w' => ∃ x : Fut w, w' = x.to) hm hB ⟨⟨w.drew, below_drewN (Below.refl _ _) 1⟩, rfl⟩ (by simpa using h)
theorem fut_call {w : World} {x : Fut w} {f : FuncId} {args : Array Value} {v : Value} (h : Calls P f args x.to (fun e w' => e = .returned v ∧ Below x.to.heap.size x.to w')) : Calls P f args x.to (fun e w'' => e = .returned v ∧ ∃ y : Fut w, w'' = y.to) :=
  h.mono fun e w'' ⟨he, hb⟩ => ⟨he, ⟨w'', x.bel.trans (hb.mono x.bel.size)⟩, rfl⟩
theorem fut_cell {w : World} {g i : Nat} {u : Value} (h : w.cell? ⟨g, i, none⟩ = some u) (x : Fut w) : x.to.cell? ⟨g, i, none⟩ = some u :=
  (x.bel.cell (p := ⟨g, i, none⟩) (World.block_lt_of_cell? w _ h)).trans h
end Go.Proofs.YtdabmjcpiblofaaDoor

namespace Go.Proofs.YtdabmjcpiblofaaDoor
open Go.RowKit
set_option linter.unusedVariables false

/-- w' is w but for the blocks of M, and new ones -/
structure Chg (w w' : World) (M : Nat → Prop) : Prop where
  os : w'.os = w.os
  tape : w'.tape = w.tape
  output : w'.output = w.output
  size : w.heap.size ≤ w'.heap.size
  block : ∀ b, b < w.heap.size → ¬ M b → w'.heap[b]? = w.heap[b]?
section
variable {a b c w w' : World} {M M' : Nat → Prop}
theorem Chg.refl (w : World) (M : Nat → Prop) : Chg w w M := ⟨rfl, rfl, rfl, Nat.le_refl _, fun _ _ _ => rfl⟩
theorem Chg.trans (h : Chg a b M) (k : Chg b c M') (hm : ∀ i, i < a.heap.size → M' i → M i) : Chg a c M :=
  ⟨k.os.trans h.os, k.tape.trans h.tape, k.output.trans h.output, Nat.le_trans h.size k.size, fun i hi hn => (k.block i (Nat.lt_of_lt_of_le hi h.size) (fun x => hn (hm i hi x))).trans (h.block i hi hn)⟩
theorem Chg.drewN (h : Chg a b M) (n : Nat) : Chg a (b.drewN n) M := ⟨h.os, h.tape, h.output, h.size, h.block⟩
theorem Chg.drew (h : Chg a b M) : Chg a b.drew M := ⟨h.os, h.tape, h.output, h.size, h.block⟩
theorem Chg.alloc (h : Chg a b M) (o : Obj) : Chg a (b.alloc o) M :=
  ⟨h.os, h.tape, h.output, Nat.le_trans h.size (by simp), fun i hi hn => (Below.heap_alloc b o i (Nat.lt_of_lt_of_le hi h.size)).trans (h.block i hi hn)⟩
theorem Chg.setCell (h : Chg a b M) {p : Addr} (hp : M p.block ∨ a.heap.size ≤ p.block) (u : Value) : Chg a (b.setCell p u) M :=
  ⟨h.os, h.tape, h.output, by simpa [World.setCell] using h.size, fun i hi hn => (Below.heap_setCell b p u i (by
    rintro rfl
    rcases hp with hp | hp
    · exact hn hp
    · omega)).trans (h.block i hi hn)⟩
theorem Chg.setRow (h : Chg a b M) {g : Nat} (hg : M g ∨ a.heap.size ≤ g) (cs : Array Value) : Chg a (b.setRow g cs) M :=
  ⟨h.os, h.tape, h.output, by simpa [World.setRow] using h.size, fun i hi hn => (setRow_other b g i cs (by
    rintro rfl
    rcases hg with hp | hp
    · exact hn hp
    · omega)).trans (h.block i hi hn)⟩
theorem Chg.of_grown {row : Option Nat} (h : w.grownBy w' row) (hr : ∀ g, row = some g → M g) : Chg w w' M :=
  ⟨h.os, h.tape, h.output, h.size, fun i hi hn => h.block i hi (fun e => hn (hr i e.symm))⟩
theorem Chg.of_below {B : Nat} (h : Below B w w') (hM : ∀ i, B ≤ i → M i) : Chg w w' M :=
  ⟨h.os, h.tape, h.output, h.size, fun i hi hn => h.block i (by
    rcases Nat.lt_or_ge i B with h1 | h1
    · exact h1
    · exact absurd (hM i h1) hn)⟩
theorem Chg.below (h : Chg w w' M) {B : Nat} (hB : B ≤ w.heap.size) (hM : ∀ i, M i → B ≤ i) : Below B w w' :=
  ⟨h.os, h.tape, h.output, h.size, fun i hi => h.block i (by omega) (fun x => by have := hM i x; omega)⟩
theorem Chg.mono (h : Chg w w' M) (hm : ∀ i, M i → M' i) : Chg w w' M' := ⟨h.os, h.tape, h.output, h.size, fun i hi hn => h.block i hi (fun x => hn (hm i x))⟩
theorem Blk.chg {g : Nat} {t : TypeId} {cs : Array Value} (h : Blk w g t cs) (hc : Chg w w' M) (hg : ¬ M g) : Blk w' g t cs := (hc.block g h.lt hg).trans h
theorem Reads.chg {B size n : Nat} {A : Option Addr} {xs : List Value} (h : Reads w B size A n xs) (hc : Chg w w' M) (hB : B ≤ w.heap.size) (hA : ∀ ad, A = some ad → ¬ M ad.block) : Reads w' B size A n xs :=
  ⟨h.1, fun hn => by
    obtain ⟨ad, e, hb, hcell⟩ := h.2 hn
    refine ⟨ad, e, hb, fun j u hu => ?_⟩
    have h1 := hcell j u hu
    rw [← h1]
    exact World.cell?_of_block (by rw [block_of_add]; exact hc.block _ (by omega) (hA ad e))⟩
theorem Reads.chg0 {B size n : Nat} {A : Option Addr} {xs : List Value} (h : Reads w B size A n xs) (hc : Chg w w' M) (hB : B ≤ w.heap.size) (hA : 0 < n → ∀ ad, A = some ad → ¬ M ad.block) : Reads w' B size A n xs := by
  rcases Nat.eq_zero_or_pos n with h0 | h0
  · exact ⟨h.1, fun hn => by omega⟩
  · exact h.chg hc hB (hA h0)
theorem Reads.up {B size n : Nat} {A : Option Addr} {xs : List Value} (h : Reads w B size A n xs) (hB : B ≤ w.heap.size) (hb : Below w.heap.size w w') : Reads w' w'.heap.size size A n xs :=
  (h.below (hb.mono hB)).more (Nat.le_trans hB hb.size)
theorem Reads.at_block {B size n : Nat} {A : Option Addr} {xs : List Value} (h : Reads w B size A n xs) : 0 < n → ∀ ad, A = some ad → ad.block < B := fun hn ad e => by
  obtain ⟨ad', e', hb, _⟩ := h.2 hn
  rw [e] at e'
  injection e' with e'
  rw [e']
  exact hb
end
end Go.Proofs.YtdabmjcpiblofaaDoor

namespace Go.Proofs.YtdabmjcpiblofaaDoor
open Go.RowKit
set_option linter.unusedVariables false

section
variable {P : Program} {ops : Array Oper} {Q : Exit → Act → World → Prop} {md : Region.Mode}
/-- how many operations have not run -/
def unrun (ops : Array Oper) (listed : Array Bool) : Nat := ((List.range ops.size).filter fun i => !listed.getD i true).length
theorem ready_unrun {listed : Array Bool} {i : Nat} (h : i ∈ Region.ready md ops listed) : i < ops.size ∧ listed.getD i true = false := by
  unfold Region.ready at h
  rw [List.mem_filter, List.mem_range] at h
  simp only [Bool.and_eq_true, Bool.not_eq_true'] at h
  exact ⟨h.1, h.2.1⟩
theorem getD_false_lt {l : Array Bool} {i : Nat} (h : l.getD i true = false) : i < l.size := by
  rcases Nat.lt_or_ge i l.size with h1 | h1
  · exact h1
  · simp [Array.getD, Nat.not_lt.2 h1] at h
theorem getD_set (l : Array Bool) (i j : Nat) (d : Bool) (hi : i < l.size) : (l.setIfInBounds i true).getD j d = if j = i then true else l.getD j d := by
  by_cases e : j = i
  · subst e; simp [Array.getD, hi]
  · rw [if_neg e]
    simp only [Array.getD_eq_getD_getElem?, Array.getElem?_setIfInBounds]
    rw [if_neg (fun e' => e e'.symm)]
theorem filter_len_lt {p q : Nat → Bool} {i : Nat} : ∀ {l : List Nat}, i ∈ l → (∀ x, q x = true → p x = true) → p i = true → q i = false → (l.filter q).length < (l.filter p).length
  | [], hi, _, _, _ => by cases hi
  | x :: l, hi, h, hp, hq => by
    have hle : ∀ l : List Nat, (l.filter q).length ≤ (l.filter p).length := fun l => by
      induction l with
      | nil => simp
      | cons y l ih =>
        cases hy : q y with
        | true => simp [hy, h y hy]; exact ih
        | false =>
          cases hy' : p y <;> simp [hy, hy'] <;> omega
    by_cases e : x = i
    · subst e
      simp [hp, hq]
      have := hle l
      omega
    · have hi' : i ∈ l := (List.mem_cons.1 hi).resolve_left (fun e' => e e'.symm)
      have ih := filter_len_lt hi' h hp hq
      cases hx : q x with
      | true => simp [hx, h x hx]; exact ih
      | false => cases hx' : p x <;> simp [hx, hx'] <;> omega
theorem unrun_set {listed : Array Bool} {i : Nat} (h : i ∈ Region.ready md ops listed) : unrun ops (listed.setIfInBounds i true) < unrun ops listed := by
  obtain ⟨h1, h2⟩ := ready_unrun h
  have hl := getD_false_lt h2
  refine filter_len_lt (i := i) (List.mem_range.2 h1) (fun x hx => ?_) (by simp [h2]) (by rw [getD_set _ _ _ _ hl]; simp)
  rw [getD_set _ _ _ _ hl] at hx
  split at hx
  · simp at hx
  · exact hx
theorem wpAny_inv (I : Array Bool → Act → World → Prop)
    (hstep : ∀ (listed : Array Bool) (a : Act) (w : World) (i : Nat), i ∈ Region.ready md ops listed → I listed a w → wpOp P ops Q i (I (listed.setIfInBounds i true)) a w)
    (hend : ∀ (listed : Array Bool) (a : Act) (w : World), Region.ready md ops listed = [] → I listed a w → Q .normal a w) :
    ∀ (fuel : Nat) (listed : Array Bool) (a : Act) (w : World), unrun ops listed ≤ fuel → I listed a w → wpAny P md ops Q fuel listed a w
  | 0, listed, a, w, hf, h => by
    have hr : Region.ready md ops listed = [] := by
      rcases hc : Region.ready md ops listed with _ | ⟨i, l⟩
      · rfl
      · have hi : i ∈ Region.ready md ops listed := by rw [hc]; exact List.mem_cons_self
        have := unrun_set hi
        omega
    exact ⟨hr, hend _ _ _ hr h⟩
  | fuel + 1, listed, a, w, hf, h => by
    refine ⟨fun hr => hend _ _ _ hr h, fun i hi => ?_⟩
    have hu := unrun_set hi
    exact wpOp_mono (fun a' w' h' => wpAny_inv I hstep hend fuel _ a' w' (by omega) h') (hstep _ _ _ i hi h)
theorem wp_region_inv {id : Nat} {a : Act} {w : World} (hm : P.follows .mixedOrders = true) (I : Array Bool → Act → World → Prop) (h0 : I (Array.replicate ops.size false) a w.drew)
    (hstep : ∀ (listed : Array Bool) (a : Act) (w : World) (i : Nat), i ∈ Region.ready .any ops listed → I listed a w → wpOp P ops Q i (I (listed.setIfInBounds i true)) a w)
    (hend : ∀ (listed : Array Bool) (a : Act) (w : World), Region.ready .any ops listed = [] → I listed a w → Q .normal a w) : (Code.region id ops true).wp P Q a w := by
  refine wp_region_any hm (wpAny_inv I hstep hend ops.size _ _ _ ?_ h0)
  unfold unrun
  have := List.length_filter_le (fun i => !(Array.replicate ops.size false).getD i true) (List.range ops.size)
  simpa using this
/-- an operation that is wanted, and yields a value -/
theorem wpOp_do {i : Nat} {o : Oper} {K : Act → World → Prop} {a : Act} {w : World} (ho : ops[i]? = some o) (hg : o.guard = none) (h : o.wp P a w K Q) : wpOp P ops Q i K a w := by
  unfold wpOp
  rw [ho]
  simp only
  rw [if_pos (by simp [Region.wanted, hg])]
  exact .inl h
/-- what has to have run before -/
theorem ready_on {listed : Array Bool} {i : Nat} {o : Oper} (h : i ∈ Region.ready .any ops listed) (ho : ops[i]? = some o) : o.after.all (fun e => !Region.binds .any e || listed.getD e.on false) = true := by
  unfold Region.ready at h
  rw [List.mem_filter] at h
  simpa [ho] using (Bool.and_eq_true_iff.1 h.2).2
/-- nothing more can run: what waits for nothing has run -/
theorem ready_nil {listed : Array Bool} {i : Nat} {o : Oper} (h : Region.ready md ops listed = []) (ho : ops[i]? = some o) (hs : i < listed.size) (ha : o.after.all (fun e => !Region.binds md e || listed.getD e.on false) = true) : listed.getD i false = true := by
  cases hl : listed.getD i false with
  | true => rfl
  | false =>
    have hm : i ∈ Region.ready md ops listed := by
      unfold Region.ready
      rw [List.mem_filter, List.mem_range]
      have hi := (Array.getElem?_eq_some_iff.1 ho).1
      refine ⟨hi, ?_⟩
      have e : listed.getD i true = false := by
        rw [← hl]; simp [Array.getD, hs]
      simp [e, ho]
      simpa using ha
    rw [h] at hm
    cases hm
/-- a call of a Go function -/
theorem wp_call_go {o : Oper} {a : Act} {w : World} {K : Act → World → Prop} (f : FuncId) (xs : Array Operand) (tys : Array TypeId)
    (ho : o.op = .call { callee := .value (.func f), args := xs, argTypes := tys }) {fn : Func} (hf : P.funcs[f]? = some fn) (hb : fn.body.isNone = false) (hn : (fn.name == "runtime.NumGoroutine") = false) (vals : Array Value) (hv : xs.map a.eval = vals) {R : Ending → World → Prop} (hc : Calls P f vals w R)
    (h : ∀ e w', R e w' → ∃ v, e = .returned v ∧ K (a.put o.dst v) w') : Oper.wp P o a w K Q := by
  unfold Oper.wp
  have hr : (execOp a.eval o).run P w = .ok (.enter f vals) w := by
    have hp : (program).run P w = .ok P w := rfl
    have hb' : ¬ fn.body = none := fun e => by rw [e] at hb; cases hb
    have hn' : ¬ fn.name = "runtime.NumGoroutine" := by simpa using hn
    unfold execOp
    simp [ho, resolve, invoke, Act.eval, Deferred.ofValue, callFunc, hp, hf, hb', hn']
    exact hv
  rw [hr]
  simp only [Oper.upon]
  refine hc.mono fun e w' hR => ?_
  obtain ⟨v, rfl, hk⟩ := h e w' hR
  exact hk
/-- an operation that yields a value at once -/
theorem wp_yield {o : Oper} {a : Act} {w w' : World} {v : Value} {K : Act → World → Prop} (hr : (execOp a.eval o).run P w = .ok (.value v) w') (h : K (a.put o.dst v) w') : Oper.wp P o a w K Q := by
  unfold Oper.wp
  rw [hr]
  exact h
end
end Go.Proofs.YtdabmjcpiblofaaDoor

namespace Go.Proofs.YtdabmjcpiblofaaDoor
open Go.ChangeShapes Go.WideShapes Go.ChangeAt Go.RowKit
set_option linter.unusedVariables false
section
variable {H : Type} {enc : TypeId × Value → H}
/-- a law's row out of its walk, where variables are listed -/
theorem law_of_walk_laid {C : Checked} {os : Os} {f : FuncId} {fn : Func} {s : ChangeSpec} {F : Stop.Interp} {tb : TypeId} {laid : List (String × DataW Unit)} (own : ownKnob C.prog.godebug = none) (started : os.Started) (noInit : C.prog.inits.idxOf? f = none) (hfn : C.prog.funcs[f]? = some fn)
    (hvars : s.vars = []) (hres : fn.resultTypes = #[tb]) (htb : C.prog.underlying tb = some .bool) (hlaid : laidOutB C.prog = true) (hread : fn.params.toList.all (fun t => C.prog.readableRec t && decide (t < C.prog.types.size)) = true)
    (hspec : ∀ ds : List (DataW H), ds.length = fn.params.toList.length → s.fn H (ds ++ []) = { results := [.lit (.bool true)], args := ds })
    (witness : ∃ (w : World) (tape : Tape) (i : Input), w.os = os ∧ (w.forCall tape i).Shaped C.prog ∧ i.vars = [] ∧ Input.okWide C.prog (w.forCall tape i) .any w.heap.size f i ∧
      (OpenSpec.ofChange s).preRow enc C.prog fn [] false laid (w.forCall tape i).memory i.args ∧ Assume.holds {} C.prog (lone (Frame.enter C.prog f i.args .normal) [] (w.forCall tape i)))
    (contract : ∀ (W : World) (base : Nat) (args : Array Value) (ds : List (DataW H)) (p : List MemPlace),
      (∀ (j : Nat) t v, fn.params[j]? = some t → args[j]? = some v → Value.okWide C.prog W .any base t v) →
      DataW.TrodAll enc C.prog W 0 (fun _ => true) true fn.params.toList args.toList ds p →
      (DataW.weightsEach C.prog fn.params.toList ds).all (· ≤ reachBytes) = true →
      laidMetH C.prog laid W →
      Calls C.prog f args W fun e W' => e = .returned (.bool true) ∧ Below W.heap.size W W') :
    ReturnsInHanded {} C os f .any ((OpenSpec.ofChange s).preRow enc C.prog fn [] false laid) (((OpenSpec.ofChange s).at F).post enc C.prog fn false true false false) := by
  refine returnsInHanded_of_row own started noInit hfn witness ?_
  intro W base args ds gs before hval hW0 _ _ hsz hL _ _
  have hW : DataW.Whole enc C.prog fn.params.toList s.vars false W args.toList ds gs before := hW0
  have hW' := hW
  obtain ⟨p, q, hA, hV, rfl, _, _⟩ := hW
  rw [hvars] at hV
  obtain ⟨rfl, rfl⟩ := trodVars_none hV
  have hlen := trodAll_length _ _ _ _ hA
  have hsz' : (DataW.weightsEach C.prog fn.params.toList ds).all (· ≤ reachBytes) = true := by
    have e : (OpenSpec.ofChange s).bare.plain.varTypes C.prog = [] := by
      show DataSpec.varTypes C.prog s.plain = []
      unfold DataSpec.varTypes ChangeSpec.plain; rw [hvars]; rfl
    rw [e, List.append_nil, List.append_nil] at hsz
    exact hsz
  refine (contract W base args ds p hval hA hsz' hL).mono fun e W' ⟨he, bel⟩ => ?_
  subst he
  have hlt : ∀ x ∈ p, x.block < W.heap.size := fun x hx => by simpa using hW'.lt x (by simpa using hx)
  refine ⟨_, rfl, ?_⟩
  show s.post enc C.prog fn false true false false W args _ W'
  refine ⟨ds, [], p ++ [], [], p, [], hW', ?_, ?_, ?_, bel.frame _, fun h => by cases h⟩
  · rw [hspec ds hlen, hres]
    exact trodAll_mk1 (shut_bool htb _)
  · rw [hspec ds hlen]
    exact trodAll_stays hlaid bel _ _ _ _ hread hA hlt
  · rw [hspec ds hlen, hvars]
    rfl
end
end Go.Proofs.YtdabmjcpiblofaaDoor
