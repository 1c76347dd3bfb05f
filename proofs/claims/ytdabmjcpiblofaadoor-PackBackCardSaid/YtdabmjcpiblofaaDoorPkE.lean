/-
  A pack that is being made: its nodes in memory, and the map that knows them. No condition.
-/
import Derived.Test.YtdabmjcpiblofaaDoorPkD
import Derived.Test.YtdabmjcpiblofaaDoorPkTr
import Derived.Test.YtdabmjcpiblofaaDoorChg
namespace Go.Proofs.YtdabmjcpiblofaaDoor
open Go.RowKit Go.Maps
set_option linter.unusedVariables false

mutual
def T.put : T → List PN → List PN × Nat
  | .node k s ld ks, l => let r := T.puts ks l; putN r.1 (k, s, ld, r.2)
def T.puts : List T → List PN → List PN × List Int
  | [], l => (l, [])
  | t :: ts, l => let a := T.put t l; let b := T.puts ts a.1; (b.1, (a.2 : Int) :: b.2)
end
theorem puts_snoc : ∀ (ts : List T) (t : T) (l : List PN), T.puts (ts ++ [t]) l = ((T.put t (T.puts ts l).1).1, (T.puts ts l).2 ++ [((T.put t (T.puts ts l).1).2 : Int)])
  | [], t, l => by rw [List.nil_append, T.puts, T.puts, T.puts]; rfl
  | x :: xs, t, l => by
    rw [List.cons_append, T.puts, puts_snoc xs t]
    conv => rhs; rw [T.puts]
    rfl
theorem puts_len : ∀ (ts : List T) (l : List PN), (T.puts ts l).2.length = ts.length
  | [], l => by rw [T.puts]; rfl
  | t :: ts, l => by
    rw [T.puts]
    simp only [List.length_cons]
    rw [puts_len ts]
theorem putN_len (l : List PN) (x : PN) : l.length ≤ (putN l x).1.length ∧ (putN l x).1.length ≤ l.length + 1 ∧ (putN l x).2 < (putN l x).1.length := by
  unfold putN
  split
  · rename_i i hi
    have := (List.getElem?_eq_some_iff.1 (findN_some hi).1).1
    exact ⟨Nat.le_refl _, Nat.le_succ _, this⟩
  · simp
mutual
theorem T.put_size : ∀ (t : T) (l : List PN), l.length ≤ (T.put t l).1.length ∧ (T.put t l).1.length ≤ l.length + t.size
  | .node k s ld ks, l => by
    rw [T.put, T.size]
    have h1 := T.puts_size ks l
    have h2 := putN_len (T.puts ks l).1 (k, s, ld, (T.puts ks l).2)
    omega
theorem T.puts_size : ∀ (ts : List T) (l : List PN), l.length ≤ (T.puts ts l).1.length ∧ (T.puts ts l).1.length ≤ l.length + T.sizes ts
  | [], l => by rw [T.puts, T.sizes]; simp
  | t :: ts, l => by
    rw [T.puts, T.sizes]
    have h1 := T.put_size t l
    have h2 := T.puts_size ts (T.put t l).1
    show l.length ≤ (T.puts ts (T.put t l).1).1.length ∧ (T.puts ts (T.put t l).1).1.length ≤ l.length + (t.size + T.sizes ts)
    omega
end

/-- elements in a block that holds to R -/
def RowIn (w : World) (R : Nat → Prop) (A : Option Addr) (n : Nat) (xs : List Value) : Prop :=
  xs.length = n ∧ (0 < n → ∃ g off, A = some ⟨g, off, none⟩ ∧ R g ∧ g < w.heap.size ∧ ∀ j u, xs[j]? = some u → w.cell? ⟨g, off + j, none⟩ = some u)
section
variable {w w' : World} {R R' M : Nat → Prop} {A : Option Addr} {n B : Nat} {xs : List Value}
theorem RowIn.reads (h : RowIn w R A n xs) : Reads w w.heap.size 1 A n xs :=
  ⟨by rw [h.1, Nat.mul_one], fun hn => by
    obtain ⟨g, off, e, _, hl, hc⟩ := h.2 hn
    exact ⟨_, e, hl, fun j u hu => by rw [Addr.add_lit]; exact hc j u hu⟩⟩
theorem RowIn.mono (h : RowIn w R A n xs) (hr : ∀ i, i < w.heap.size → R i → R' i) : RowIn w R' A n xs :=
  ⟨h.1, fun hn => by
    obtain ⟨g, off, e, h1, hl, hc⟩ := h.2 hn
    exact ⟨g, off, e, hr g hl h1, hl, hc⟩⟩
theorem RowIn.chg (h : RowIn w R A n xs) (hc : Chg w w' M) (hr : ∀ i, R i → ¬ M i) : RowIn w' R A n xs :=
  ⟨h.1, fun hn => by
    obtain ⟨g, off, e, h1, hl, hcell⟩ := h.2 hn
    exact ⟨g, off, e, h1, Nat.lt_of_lt_of_le hl hc.size, fun j u hu => (World.cell?_of_block (hc.block g hl (hr g h1))).trans (hcell j u hu)⟩⟩
theorem RowIn.of_own {e : TypeId} {v : Value} (h : w.ownsRow B e 1 v n xs) : ∃ A c, v = .slice A n c ∧ RowIn w (fun i => v.ownBlock = some i) A n xs := by
  obtain ⟨A, c, rfl, hr, -⟩ := reads_of_owns h
  refine ⟨A, c, rfl, by simpa using h.1, fun hn => ?_⟩
  obtain ⟨g, cap, hv, hb, hlt⟩ := h.form hn
  have hA : A = some ⟨g, 0, none⟩ := by injection hv
  subst hA
  exact ⟨g, 0, rfl, rfl, hlt, fun j u hu => by
    have := h.cells (g := g) rfl j u hu
    rwa [Addr.add_lit] at this⟩
end

/-- a node as it lies in memory -/
structure PX where
  kind : Int
  text : ByteArray
  lA : Option Addr
  leads : List ByteArray
  lc : Nat
  kA : Option Addr
  kids : List Int
  kc : Nat
def PX.plain (p : PX) : PN := (p.kind, p.text, p.leads, p.kids)
def PX.cells (p : PX) : List Value := [.int .i64 p.kind, .string p.text, .slice p.lA p.leads.length p.lc, .slice p.kA p.kids.length p.kc]
theorem PX.cells_len (p : PX) : p.cells.length = 4 := rfl
structure PX.held (p : PX) (w : World) (R : Nat → Prop) : Prop where
  leads : RowIn w R p.lA p.leads.length (p.leads.map Value.string)
  kids : RowIn w R p.kA p.kids.length (p.kids.map (Value.int .i64))
theorem PX.held.mono {p : PX} {w : World} {R R' : Nat → Prop} (h : p.held w R) (hr : ∀ i, i < w.heap.size → R i → R' i) : p.held w R' := ⟨h.leads.mono hr, h.kids.mono hr⟩
theorem PX.held.chg {p : PX} {w w' : World} {R M : Nat → Prop} (h : p.held w R) (hc : Chg w w' M) (hr : ∀ i, R i → ¬ M i) : p.held w' R := ⟨h.leads.chg hc hr, h.kids.chg hc hr⟩

/-- the blocks that a pack in the making writes -/
def PkM (pb bm : Nat) (nv : Value) (i : Nat) : Prop := i = pb ∨ i = bm ∨ nv.ownBlock = some i
/-- a pack in the making: the packer at pb, its map at bm; R: the blocks of its nodes' rows -/
structure Pk (w : World) (b0 pb bm : Nat) (nv rv : Value) (ps : List PX) (D : DataW Unit) (R : Nat → Prop) : Prop where
  box : Blk w pb 66 #[nv, rv, .map (some bm)]
  nodes : w.ownsRow b0 48 4 nv ps.length (ps.flatMap PX.cells)
  map : w.ownsMap Tryd.prog 100 (plainElem Tryd.prog 3) bm ps.length D
  know : Knows D (ps.map PX.plain)
  rows : ∀ p ∈ ps, p.held w R
  apart : ∀ i, R i → ¬ PkM pb bm nv i ∧ b0 ≤ i ∧ i < w.heap.size
  pb0 : b0 ≤ pb
  bm0 : b0 ≤ bm
section
variable {w w' : World} {b0 pb bm : Nat} {nv rv : Value} {ps : List PX} {D : DataW Unit} {R M : Nat → Prop}
theorem Pk.lt_pb (h : Pk w b0 pb bm nv rv ps D R) : pb < w.heap.size := h.box.lt
theorem Pk.lt_bm (h : Pk w b0 pb bm nv rv ps D R) : bm < w.heap.size := h.map.lt
/-- other blocks change -/
theorem Pk.chg (h : Pk w b0 pb bm nv rv ps D R) (hc : Chg w w' M) (hm : ∀ i, M i → ¬ PkM pb bm nv i ∧ ¬ R i) : Pk w' b0 pb bm nv rv ps D R := by
  have h1 : ¬ M pb := fun x => (hm _ x).1 (.inl rfl)
  have h2 : ¬ M bm := fun x => (hm _ x).1 (.inr (.inl rfl))
  refine ⟨h.box.chg hc h1, ?_, ?_, h.know, fun p hp => (h.rows p hp).chg hc (fun i hi hx => (hm i hx).2 hi), fun i hi => ?_, h.pb0, h.bm0⟩
  · obtain ⟨hl, ho⟩ := h.nodes
    refine ⟨hl, ?_⟩
    rcases ho with h0 | ⟨g, cap, cur, rfl, hb, hh, rest⟩
    · exact .inl h0
    · refine .inr ⟨g, cap, cur, rfl, hb, (hc.block g ?_ (fun x => (hm g x).1 (.inr (.inr rfl)))).trans hh, rest⟩
      rcases Nat.lt_or_ge g w.heap.size with h3 | h3
      · exact h3
      · rw [Array.getElem?_eq_none h3] at hh; cases hh
  · obtain ⟨es, clock, hb, F, hs, hD⟩ := h.map
    exact ⟨es, clock, (hc.block bm h.map.lt h2).trans hb, F, hs, hD⟩
  · obtain ⟨a, b, c⟩ := h.apart i hi
    exact ⟨a, b, Nat.lt_of_lt_of_le c hc.size⟩
theorem Pk.below (h : Pk w b0 pb bm nv rv ps D R) (hb : Below w.heap.size w w') : Pk w' b0 pb bm nv rv ps D R :=
  h.chg (M := fun i => w.heap.size ≤ i) (Chg.of_below hb (fun i hi => hi)) (fun i hi => ⟨fun x => by
    rcases x with rfl | rfl | x
    · have := h.lt_pb; omega
    · have := h.lt_bm; omega
    · have := own_lt h.nodes i x; omega, fun x => by have := (h.apart i x).2.2; omega⟩)
theorem Pk.alloc (h : Pk w b0 pb bm nv rv ps D R) (o : Obj) : Pk (w.alloc o) b0 pb bm nv rv ps D R := h.below ((Below.refl _ w).alloc (Nat.le_refl _) o)
theorem Pk.drewN (h : Pk w b0 pb bm nv rv ps D R) (k : Nat) : Pk (w.drewN k) b0 pb bm nv rv ps D R := h.below (below_drewN (Below.refl _ _) k)
theorem Pk.cell (h : Pk w b0 pb bm nv rv ps D R) : w.cell? ⟨pb, 0, none⟩ = some nv ∧ w.cell? ⟨pb, 1, none⟩ = some rv ∧ w.cell? ⟨pb, 2, none⟩ = some (.map (some bm)) := by
  refine ⟨?_, ?_, ?_⟩ <;> · rw [h.box.cell]; rfl
end
end Go.Proofs.YtdabmjcpiblofaaDoor
