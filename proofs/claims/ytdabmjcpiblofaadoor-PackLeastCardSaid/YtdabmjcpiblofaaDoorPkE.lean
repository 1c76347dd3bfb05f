/-
  A pack that is being made: its nodes in memory, and the map that knows them. Packs, plain: what their trees are, and what packing gives. No condition.
-/
import Derived.Test.YtdabmjcpiblofaaDoorPkA
import Derived.Test.YtdabmjcpiblofaaDoorPkTr
import Derived.Test.YtdabmjcpiblofaaDoorPkOwn
namespace Go.Proofs.YtdabmjcpiblofaaDoor
open Go.RowKit Go.Maps
set_option linter.unusedVariables false

mutual
def T.put : T → List PN → List PN × Nat
  | .node k s ld ks, l => let r := T.puts ks l; putN r.1 (k, s, ld, r.2)
def T.puts : List T → List PN → List PN × List Int
  | [], l => (l, [])
  | t :: ts, l => let a := T.put t l; let b := T.puts ts a.1; (b.1, (a.2 : Int) :: b.2)
end
theorem puts_snoc : ∀ (ts : List T) (t : T) (l : List PN), T.puts (ts ++ [t]) l = ((T.put t (T.puts ts l).1).1, (T.puts ts l).2 ++ [((T.put t (T.puts ts l).1).2 : Int)])
  | [], t, l => by rw [List.nil_append, T.puts, T.puts, T.puts]; rfl
  | x :: xs, t, l => by
    rw [List.cons_append, T.puts, puts_snoc xs t]
    conv => rhs; rw [T.puts]
    rfl
theorem puts_len : ∀ (ts : List T) (l : List PN), (T.puts ts l).2.length = ts.length
  | [], l => by rw [T.puts]; rfl
  | t :: ts, l => by
    rw [T.puts]
    simp only [List.length_cons]
    rw [puts_len ts]
theorem putN_len (l : List PN) (x : PN) : l.length ≤ (putN l x).1.length ∧ (putN l x).1.length ≤ l.length + 1 ∧ (putN l x).2 < (putN l x).1.length := by
  unfold putN
  split
  · rename_i i hi
    have := (List.getElem?_eq_some_iff.1 (findN_some hi).1).1
    exact ⟨Nat.le_refl _, Nat.le_succ _, this⟩
  · simp
mutual
theorem T.put_size : ∀ (t : T) (l : List PN), l.length ≤ (T.put t l).1.length ∧ (T.put t l).1.length ≤ l.length + t.size
  | .node k s ld ks, l => by
    rw [T.put, T.size]
    have h1 := T.puts_size ks l
    have h2 := putN_len (T.puts ks l).1 (k, s, ld, (T.puts ks l).2)
    omega
theorem T.puts_size : ∀ (ts : List T) (l : List PN), l.length ≤ (T.puts ts l).1.length ∧ (T.puts ts l).1.length ≤ l.length + T.sizes ts
  | [], l => by rw [T.puts, T.sizes]; simp
  | t :: ts, l => by
    rw [T.puts, T.sizes]
    have h1 := T.put_size t l
    have h2 := T.puts_size ts (T.put t l).1
    show l.length ≤ (T.puts ts (T.put t l).1).1.length ∧ (T.puts ts (T.put t l).1).1.length ≤ l.length + (t.size + T.sizes ts)
    omega
end

/-- elements in a block that holds to R -/
def RowIn (w : World) (R : Nat → Prop) (A : Option Addr) (n : Nat) (xs : List Value) : Prop :=
  xs.length = n ∧ (0 < n → ∃ g off, A = some ⟨g, off, none⟩ ∧ R g ∧ g < w.heap.size ∧ ∀ j u, xs[j]? = some u → w.cell? ⟨g, off + j, none⟩ = some u)
section
variable {w w' : World} {R R' M : Nat → Prop} {A : Option Addr} {n B : Nat} {xs : List Value}
theorem RowIn.reads (h : RowIn w R A n xs) : Reads w w.heap.size 1 A n xs :=
  ⟨by rw [h.1, Nat.mul_one], fun hn => by
    obtain ⟨g, off, e, _, hl, hc⟩ := h.2 hn
    exact ⟨_, e, hl, fun j u hu => by rw [Addr.add_lit]; exact hc j u hu⟩⟩
theorem RowIn.mono (h : RowIn w R A n xs) (hr : ∀ i, i < w.heap.size → R i → R' i) : RowIn w R' A n xs :=
  ⟨h.1, fun hn => by
    obtain ⟨g, off, e, h1, hl, hc⟩ := h.2 hn
    exact ⟨g, off, e, hr g hl h1, hl, hc⟩⟩
theorem RowIn.chg (h : RowIn w R A n xs) (hc : Chg w w' M) (hr : ∀ i, R i → ¬ M i) : RowIn w' R A n xs :=
  ⟨h.1, fun hn => by
    obtain ⟨g, off, e, h1, hl, hcell⟩ := h.2 hn
    exact ⟨g, off, e, h1, Nat.lt_of_lt_of_le hl hc.size, fun j u hu => (World.cell?_of_block (hc.block g hl (hr g h1))).trans (hcell j u hu)⟩⟩
theorem RowIn.of_own {e : TypeId} {v : Value} (h : w.ownsRow B e 1 v n xs) : ∃ A c, v = .slice A n c ∧ RowIn w (fun i => v.ownBlock = some i) A n xs := by
  obtain ⟨A, c, rfl, hr, -⟩ := reads_of_owns h
  refine ⟨A, c, rfl, by simpa using h.1, fun hn => ?_⟩
  obtain ⟨g, cap, hv, hb, hlt⟩ := h.form hn
  have hA : A = some ⟨g, 0, none⟩ := by injection hv
  subst hA
  exact ⟨g, 0, rfl, rfl, hlt, fun j u hu => by
    have := h.cells (g := g) rfl j u hu
    rwa [Addr.add_lit] at this⟩
end

/-- a node as it lies in memory -/
structure PX where
  kind : Int
  text : ByteArray
  lA : Option Addr
  leads : List ByteArray
  lc : Nat
  kA : Option Addr
  kids : List Int
  kc : Nat
def PX.plain (p : PX) : PN := (p.kind, p.text, p.leads, p.kids)
def PX.cells (p : PX) : List Value := [.int .i64 p.kind, .string p.text, .slice p.lA p.leads.length p.lc, .slice p.kA p.kids.length p.kc]
theorem PX.cells_len (p : PX) : p.cells.length = 4 := rfl
structure PX.held (p : PX) (w : World) (R : Nat → Prop) : Prop where
  leads : RowIn w R p.lA p.leads.length (p.leads.map Value.string)
  kids : RowIn w R p.kA p.kids.length (p.kids.map (Value.int .i64))
theorem PX.held.mono {p : PX} {w : World} {R R' : Nat → Prop} (h : p.held w R) (hr : ∀ i, i < w.heap.size → R i → R' i) : p.held w R' := ⟨h.leads.mono hr, h.kids.mono hr⟩
theorem PX.held.chg {p : PX} {w w' : World} {R M : Nat → Prop} (h : p.held w R) (hc : Chg w w' M) (hr : ∀ i, R i → ¬ M i) : p.held w' R := ⟨h.leads.chg hc hr, h.kids.chg hc hr⟩

/-- the blocks that a pack in the making writes -/
def PkM (pb bm : Nat) (nv : Value) (i : Nat) : Prop := i = pb ∨ i = bm ∨ nv.ownBlock = some i
/-- a pack in the making: the packer at pb, its map at bm; R: the blocks of its nodes' rows -/
structure Pk (w : World) (b0 pb bm : Nat) (nv rv : Value) (ps : List PX) (D : DataW Unit) (R : Nat → Prop) : Prop where
  box : Blk w pb 66 #[nv, rv, .map (some bm)]
  nodes : w.ownsRow b0 48 4 nv ps.length (ps.flatMap PX.cells)
  map : w.ownsMap Tryd.prog 100 (plainElem Tryd.prog 3) bm ps.length D
  know : Knows D (ps.map PX.plain)
  rows : ∀ p ∈ ps, p.held w R
  apart : ∀ i, R i → ¬ PkM pb bm nv i ∧ b0 ≤ i ∧ i < w.heap.size
  pb0 : b0 ≤ pb
  bm0 : b0 ≤ bm
section
variable {w w' : World} {b0 pb bm : Nat} {nv rv : Value} {ps : List PX} {D : DataW Unit} {R M : Nat → Prop}
theorem Pk.lt_pb (h : Pk w b0 pb bm nv rv ps D R) : pb < w.heap.size := h.box.lt
theorem Pk.lt_bm (h : Pk w b0 pb bm nv rv ps D R) : bm < w.heap.size := h.map.lt
/-- other blocks change -/
theorem Pk.chg (h : Pk w b0 pb bm nv rv ps D R) (hc : Chg w w' M) (hm : ∀ i, M i → ¬ PkM pb bm nv i ∧ ¬ R i) : Pk w' b0 pb bm nv rv ps D R := by
  have h1 : ¬ M pb := fun x => (hm _ x).1 (.inl rfl)
  have h2 : ¬ M bm := fun x => (hm _ x).1 (.inr (.inl rfl))
  refine ⟨h.box.chg hc h1, ?_, ?_, h.know, fun p hp => (h.rows p hp).chg hc (fun i hi hx => (hm i hx).2 hi), fun i hi => ?_, h.pb0, h.bm0⟩
  · obtain ⟨hl, ho⟩ := h.nodes
    refine ⟨hl, ?_⟩
    rcases ho with h0 | ⟨g, cap, cur, rfl, hb, hh, rest⟩
    · exact .inl h0
    · refine .inr ⟨g, cap, cur, rfl, hb, (hc.block g ?_ (fun x => (hm g x).1 (.inr (.inr rfl)))).trans hh, rest⟩
      rcases Nat.lt_or_ge g w.heap.size with h3 | h3
      · exact h3
      · rw [Array.getElem?_eq_none h3] at hh; cases hh
  · obtain ⟨es, clock, hb, F, hs, hD⟩ := h.map
    exact ⟨es, clock, (hc.block bm h.map.lt h2).trans hb, F, hs, hD⟩
  · obtain ⟨a, b, c⟩ := h.apart i hi
    exact ⟨a, b, Nat.lt_of_lt_of_le c hc.size⟩
theorem Pk.below (h : Pk w b0 pb bm nv rv ps D R) (hb : Below w.heap.size w w') : Pk w' b0 pb bm nv rv ps D R :=
  h.chg (M := fun i => w.heap.size ≤ i) (Chg.of_below hb (fun i hi => hi)) (fun i hi => ⟨fun x => by
    rcases x with rfl | rfl | x
    · have := h.lt_pb; omega
    · have := h.lt_bm; omega
    · have := own_lt h.nodes i x; omega, fun x => by have := (h.apart i x).2.2; omega⟩)
theorem Pk.alloc (h : Pk w b0 pb bm nv rv ps D R) (o : Obj) : Pk (w.alloc o) b0 pb bm nv rv ps D R := h.below ((Below.refl _ w).alloc (Nat.le_refl _) o)
theorem Pk.drewN (h : Pk w b0 pb bm nv rv ps D R) (k : Nat) : Pk (w.drewN k) b0 pb bm nv rv ps D R := h.below (below_drewN (Below.refl _ _) k)
theorem Pk.cell (h : Pk w b0 pb bm nv rv ps D R) : w.cell? ⟨pb, 0, none⟩ = some nv ∧ w.cell? ⟨pb, 1, none⟩ = some rv ∧ w.cell? ⟨pb, 2, none⟩ = some (.map (some bm)) := by
  refine ⟨?_, ?_, ?_⟩ <;> · rw [h.box.cell]; rfl
end
end Go.Proofs.YtdabmjcpiblofaaDoor

namespace Go.Proofs.YtdabmjcpiblofaaDoor
open Go.RowKit Go.Maps
set_option linter.unusedVariables false

theorem snoc_ind {α : Type} {P : List α → Prop} (h0 : P []) (h1 : ∀ l x, P l → P (l ++ [x])) (l : List α) : P l := by
  have key : ∀ (n : Nat) (l : List α), l.length = n → P l := by
    intro n
    induction n with
    | zero => intro l hl; rw [List.eq_nil_of_length_eq_zero hl]; exact h0
    | succ n ih =>
      intro l hl
      have hne : l ≠ [] := fun e => by rw [e] at hl; simp at hl
      rw [← List.dropLast_concat_getLast hne]
      exact h1 _ _ (ih _ (by simp [hl]))
  exact key _ l rfl

def T0 : T := .node 0 ByteArray.empty [] []
/-- a node's tree, the trees of the ones before it at hand -/
def nodeT (acc : List T) (x : PN) : T := .node x.1 x.2.1 x.2.2.1 (x.2.2.2.map fun k => acc.getD k.toNat T0)
def trsA (ns : List PN) : List T := ns.foldl (fun acc x => acc ++ [nodeT acc x]) []
def trA (ns : List PN) (i : Nat) : T := (trsA ns).getD i T0
theorem trsA_snoc (ns : List PN) (x : PN) : trsA (ns ++ [x]) = trsA ns ++ [nodeT (trsA ns) x] := by simp [trsA]
theorem trsA_len (ns : List PN) : (trsA ns).length = ns.length := by
  refine snoc_ind (P := fun ns => (trsA ns).length = ns.length) rfl (fun l x h => ?_) ns
  rw [trsA_snoc, List.length_append, List.length_append, h]; rfl
theorem trsA_pre {a b : List PN} (h : a <+: b) : trsA a <+: trsA b := by
  obtain ⟨c, rfl⟩ := h
  refine snoc_ind (P := fun c => trsA a <+: trsA (a ++ c)) (by simp) (fun c x h => ?_) c
  rw [← List.append_assoc, trsA_snoc]
  exact h.trans (List.prefix_append _ _)
theorem getD_pre {α : Type} {a b : List α} (h : a <+: b) {i : Nat} (hi : i < a.length) (d : α) : b.getD i d = a.getD i d := by
  obtain ⟨c, rfl⟩ := h
  simp [List.getD, List.getElem?_append_left hi]
theorem trA_pre {a b : List PN} (h : a <+: b) {i : Nat} (hi : i < a.length) : trA b i = trA a i := getD_pre (trsA_pre h) (by rw [trsA_len]; exact hi) _
/-- each node's kids come before it -/
def formN (ns : List PN) : Prop := ∀ (i : Nat) (x : PN), ns[i]? = some x → ∀ k ∈ x.2.2.2, 0 ≤ k ∧ k < (i : Int)
theorem formN_nil : formN [] := fun i x h => by simp at h
theorem formN_pre {a b : List PN} (h : a <+: b) (hb : formN b) : formN a := fun i x hx => by
  obtain ⟨c, rfl⟩ := h
  have hi := (List.getElem?_eq_some_iff.1 hx).1
  exact hb i x (by rw [List.getElem?_append_left hi]; exact hx)
theorem formN_snoc {ns : List PN} {x : PN} (h : formN ns) (hx : ∀ k ∈ x.2.2.2, 0 ≤ k ∧ k < (ns.length : Int)) : formN (ns ++ [x]) := fun i y hy k hk => by
  rcases Nat.lt_or_ge i ns.length with hi | hi
  · rw [List.getElem?_append_left hi] at hy
    exact h i y hy k hk
  · rw [List.getElem?_append_right hi] at hy
    have h0 : i - ns.length = 0 := by
      have := (List.getElem?_eq_some_iff.1 hy).1
      simp at this; omega
    rw [h0] at hy
    simp at hy
    subst hy
    have := hx k hk
    omega
theorem trA_new (ns : List PN) (x : PN) : trA (ns ++ [x]) ns.length = nodeT (trsA ns) x := by
  unfold trA
  rw [trsA_snoc]
  simp [List.getD, trsA_len]
theorem take_snoc' {α : Type} {l : List α} {i : Nat} {x : α} (h : l[i]? = some x) : l.take (i + 1) = l.take i ++ [x] := by
  rw [List.take_add_one, h]; rfl
/-- a node's tree -/
theorem trA_at {ns : List PN} (hf : formN ns) {i : Nat} {x : PN} (hx : ns[i]? = some x) : trA ns i = .node x.1 x.2.1 x.2.2.1 (x.2.2.2.map fun k => trA ns k.toNat) := by
  have hi := (List.getElem?_eq_some_iff.1 hx).1
  have hl : (ns.take i).length = i := by rw [List.length_take]; omega
  have h1 : trA ns i = trA (ns.take (i + 1)) i := trA_pre (List.take_prefix _ _) (by rw [List.length_take]; omega)
  have h2 : trA (ns.take i ++ [x]) (ns.take i).length = nodeT (trsA (ns.take i)) x := trA_new _ _
  rw [h1, take_snoc' hx]
  rw [hl] at h2
  rw [h2]
  unfold nodeT
  congr 1
  refine List.map_congr_left (fun k hk => ?_)
  have hk' := hf i x hx k hk
  exact (trA_pre (List.take_prefix i ns) (by rw [hl]; omega)).symm

theorem put_inv_new {l : List PN} {x : PN} (hf : formN l) (hx : ∀ k ∈ x.2.2.2, 0 ≤ k ∧ k < (l.length : Int)) (hn : l.Nodup) :
    l <+: (putN l x).1 ∧ formN (putN l x).1 ∧ (putN l x).1.Nodup ∧ (putN l x).1[(putN l x).2]? = some x := by
  unfold putN
  split
  · rename_i i hi
    exact ⟨List.prefix_rfl, hf, hn, (findN_some hi).1⟩
  · rename_i hi
    refine ⟨List.prefix_append _ _, formN_snoc hf hx, ?_, by simp⟩
    rw [List.nodup_append]
    refine ⟨hn, by simp, fun a ha b hb => ?_⟩
    simp at hb
    subst hb
    exact fun e => findN_none.1 hi (e ▸ ha)
mutual
theorem T.put_spec : ∀ (t : T) (l : List PN), formN l → l.Nodup → l <+: (T.put t l).1 ∧ formN (T.put t l).1 ∧ (T.put t l).1.Nodup ∧ (T.put t l).2 < (T.put t l).1.length ∧ trA (T.put t l).1 (T.put t l).2 = t
  | .node k s ld ks, l, hf, hn => by
    obtain ⟨h1, h2, h3, h4, h5⟩ := T.puts_spec ks l hf hn
    rw [T.put]
    obtain ⟨g1, g2, g3, g4⟩ := put_inv_new (x := (k, s, ld, (T.puts ks l).2)) h2 h4 h3
    have hlt := (List.getElem?_eq_some_iff.1 g4).1
    refine ⟨h1.trans g1, g2, g3, hlt, ?_⟩
    show trA (putN (T.puts ks l).1 (k, s, ld, (T.puts ks l).2)).1 (putN (T.puts ks l).1 (k, s, ld, (T.puts ks l).2)).2 = _
    rw [trA_at g2 g4]
    congr 1
    refine (List.map_congr_left (fun y hy => ?_)).trans h5
    have := h4 y hy
    exact trA_pre g1 (by omega)
theorem T.puts_spec : ∀ (ts : List T) (l : List PN), formN l → l.Nodup → l <+: (T.puts ts l).1 ∧ formN (T.puts ts l).1 ∧ (T.puts ts l).1.Nodup ∧ (∀ k ∈ (T.puts ts l).2, 0 ≤ k ∧ k < ((T.puts ts l).1.length : Int)) ∧ (T.puts ts l).2.map (fun k => trA (T.puts ts l).1 k.toNat) = ts
  | [], l, hf, hn => by rw [T.puts]; exact ⟨List.prefix_rfl, hf, hn, (fun k hk => by cases hk), rfl⟩
  | t :: ts, l, hf, hn => by
    obtain ⟨h1, h2, h3, h4, h5⟩ := T.put_spec t l hf hn
    obtain ⟨g1, g2, g3, g4, g5⟩ := T.puts_spec ts (T.put t l).1 h2 h3
    rw [T.puts]
    have hle := g1.length_le
    refine ⟨h1.trans g1, g2, g3, fun k hk => ?_, ?_⟩
    · rcases List.mem_cons.1 hk with rfl | hk
      · exact ⟨by omega, by show ((T.put t l).2 : Int) < ((T.puts ts (T.put t l).1).1.length : Int); omega⟩
      · exact g4 k hk
    · show trA (T.puts ts (T.put t l).1).1 ((T.put t l).2 : Int).toNat :: (T.puts ts (T.put t l).1).2.map (fun k => trA (T.puts ts (T.put t l).1).1 k.toNat) = _
      rw [g5, Int.toNat_natCast, trA_pre g1 h4, h5]
end

/-- how large the trees are, as far as that is counted -/
def szN (acc : List Nat) (x : PN) : Nat := x.2.2.2.foldl (fun n k => min (n + acc.getD k.toNat 0) 20001) 1
def szA (ns : List PN) : List Nat := ns.foldl (fun acc x => acc ++ [szN acc x]) []
theorem szA_snoc (ns : List PN) (x : PN) : szA (ns ++ [x]) = szA ns ++ [szN (szA ns) x] := by simp [szA]
theorem szA_len (ns : List PN) : (szA ns).length = ns.length := by
  refine snoc_ind (P := fun ns => (szA ns).length = ns.length) rfl (fun l x h => ?_) ns
  rw [szA_snoc, List.length_append, List.length_append, h]; rfl
theorem szA_pre {a b : List PN} (h : a <+: b) : szA a <+: szA b := by
  obtain ⟨c, rfl⟩ := h
  refine snoc_ind (P := fun c => szA a <+: szA (a ++ c)) (by simp) (fun c x h => ?_) c
  rw [← List.append_assoc, szA_snoc]
  exact h.trans (List.prefix_append _ _)
def capS (n : Nat) : Nat := min n 20001
theorem fold_cap (f : Int → Nat) (g : Int → T) : ∀ (l : List Int) (n m : Nat), (∀ k ∈ l, f k = capS (g k).size) → n = capS m → l.foldl (fun n k => min (n + f k) 20001) n = capS (m + T.sizes (l.map g))
  | [], n, m, _, hn => by simp [T.sizes]; exact hn
  | k :: l, n, m, h, hn => by
    rw [List.foldl_cons, List.map_cons, T.sizes, ← Nat.add_assoc]
    refine fold_cap f g l _ _ (fun x hx => h x (List.mem_cons_of_mem _ hx)) ?_
    rw [h k List.mem_cons_self, hn]
    unfold capS; omega
theorem szA_tr {ns : List PN} (hf : formN ns) : szA ns = (trsA ns).map fun t => capS t.size := by
  revert hf
  refine snoc_ind (P := fun ns => formN ns → szA ns = (trsA ns).map fun t => capS t.size) (fun _ => rfl) (fun l x h hf => ?_) ns
  have ih := h (formN_pre (List.prefix_append _ _) hf)
  rw [szA_snoc, trsA_snoc, List.map_append, ← ih]
  congr 1
  simp only [List.map_cons, List.map_nil]
  congr 1
  unfold szN nodeT
  rw [fold_cap (fun k => (szA l).getD k.toNat 0) (fun k => (trsA l).getD k.toNat T0) x.2.2.2 1 1 (fun k hk => ?_) rfl, T.size]
  have hk' := hf l.length x (by simp) k hk
  have hlt : k.toNat < (trsA l).length := by rw [trsA_len]; omega
  rw [ih]
  simp [List.getD, List.getElem?_eq_getElem hlt]
theorem szA_at {ns : List PN} (hf : formN ns) {i : Nat} (hi : i < ns.length) : (szA ns).getD i 0 = capS (trA ns i).size := by
  rw [szA_tr hf]
  unfold trA
  have hlt : i < (trsA ns).length := by rw [trsA_len]; exact hi
  simp [List.getD, List.getElem?_eq_getElem hlt]
/-- the trees of a pack -/
def treesP (ns : List PN) (rs : List Int) : List T := rs.map fun r => trA ns r.toNat
def rootsN (ns : List PN) (rs : List Int) : Prop := ∀ r ∈ rs, 0 ≤ r ∧ r < (ns.length : Int)
def capSum (l : List Nat) : Nat := l.foldl (fun n k => min (n + k) 20001) 0
theorem capSum_snoc (l : List Nat) (x : Nat) : capSum (l ++ [x]) = min (capSum l + x) 20001 := by simp [capSum]
theorem capSum_le (l : List Nat) : capSum l ≤ 20001 := by
  refine snoc_ind (P := fun l => capSum l ≤ 20001) (by simp [capSum]) (fun l x _ => ?_) l
  rw [capSum_snoc]; omega
theorem capSum_sizes : ∀ (ts : List T), capSum (ts.map fun t => capS t.size) = capS (T.sizes ts) := fun ts => by
  refine snoc_ind (P := fun ts => capSum (ts.map fun t => capS t.size) = capS (T.sizes ts)) (by simp [capSum, capS, T.sizes]) (fun l x h => ?_) ts
  rw [List.map_append, List.map_cons, List.map_nil, capSum_snoc, h, T.sizes_append, T.sizes, T.sizes]
  unfold capS; omega
theorem sizes_roots {ns : List PN} {rs : List Int} (hf : formN ns) (hr : rootsN ns rs) : capSum (rs.map fun r => (szA ns).getD r.toNat 0) = capS (T.sizes (treesP ns rs)) := by
  rw [← capSum_sizes]
  unfold treesP
  rw [List.map_map]
  congr 1
  refine List.map_congr_left (fun r hr' => ?_)
  have := hr r hr'
  exact szA_at hf (by omega)
/-- what packing gives is unpacked to what was packed -/
theorem puts_back (ts : List T) : formN (T.puts ts []).1 ∧ rootsN (T.puts ts []).1 (T.puts ts []).2 ∧ treesP (T.puts ts []).1 (T.puts ts []).2 = ts := by
  obtain ⟨-, h1, -, h2, h3⟩ := T.puts_spec ts [] formN_nil List.nodup_nil
  exact ⟨h1, h2, h3⟩
/-- each node is of a pack's own use -/
def validP (ns : List PN) (rs : List Int) : Prop := formN ns ∧ rootsN ns rs ∧ T.sizes (treesP ns rs) ≤ 20000 ∧ T.puts (treesP ns rs) [] = (ns, rs)
theorem puts_valid {ts : List T} (h : T.sizes ts ≤ 20000) : validP (T.puts ts []).1 (T.puts ts []).2 := by
  obtain ⟨h1, h2, h3⟩ := puts_back ts
  exact ⟨h1, h2, by rw [h3]; exact h, by rw [h3]⟩
end Go.Proofs.YtdabmjcpiblofaaDoor
