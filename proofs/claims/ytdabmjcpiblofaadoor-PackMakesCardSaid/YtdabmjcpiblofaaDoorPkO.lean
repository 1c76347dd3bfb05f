/-
  put, the reference's: words. No condition.
-/
import Derived.Test.YtdabmjcpiblofaaDoorPkN
namespace Go.Proofs.YtdabmjcpiblofaaDoor
open Go.RowKit
set_option linter.unusedVariables false

def goodP (x : PN) : Prop := goodL (.node x.1 x.2.1 x.2.2.1 []) ∧ x.2.2.2.length ≤ 1000000 ∧ ∀ k ∈ x.2.2.2, i64 k
/-- a row of nodes of one's own; R: the blocks of their rows of kids -/
structure NR (w : World) (base : Nat) (lv : Value) (ps : List PX) (R : Nat → Prop) : Prop where
  row : w.ownsRow base 48 4 lv ps.length (ps.flatMap PX.cells)
  leads : ∀ p ∈ ps, Reads w base 1 p.lA p.leads.length (p.leads.map Value.string)
  kids : ∀ p ∈ ps, RowIn w R p.kA p.kids.length (p.kids.map (Value.int .i64))
  apart : ∀ i, R i → lv.ownBlock ≠ some i ∧ base ≤ i ∧ i < w.heap.size
  good : ∀ p ∈ ps, goodP p.plain
  hb : base ≤ w.heap.size
section
variable {w w' : World} {base : Nat} {lv lv' : Value} {ps : List PX} {R M : Nat → Prop}
theorem NR.nil (w : World) (base : Nat) (hb : base ≤ w.heap.size) : NR w base (.slice none 0 0) [] (fun _ => False) := ⟨⟨rfl, .inl ⟨rfl, rfl⟩⟩, (fun p h => by cases h), (fun p h => by cases h), (fun i h => h.elim), (fun p h => by cases h), hb⟩
theorem NR.chg (h : NR w base lv ps R) (hc : Chg w w' M) (hv : ∀ g, lv.ownBlock = some g → ¬ M g) (hR : ∀ i, R i → ¬ M i) (hM : ∀ i, M i → base ≤ i) : NR w' base lv ps R :=
  ⟨owns_chg h.row hc hv, fun p hp => (h.leads p hp).chg0 hc h.hb (fun hn ad e hm => by
    have h1 := (h.leads p hp).at_block hn ad e
    have := hM _ hm
    omega), fun p hp => (h.kids p hp).chg hc hR, fun i hi => ⟨(h.apart i hi).1, (h.apart i hi).2.1, by have := (h.apart i hi).2.2; have := hc.size; omega⟩, h.good, by have := h.hb; have := hc.size; omega⟩
theorem NR.below (h : NR w base lv ps R) (hb : Below w.heap.size w w') : NR w' base lv ps R :=
  h.chg (M := fun i => w.heap.size ≤ i) (Chg.of_below hb (fun i hi => hi)) (fun g hg x => by have := own_lt h.row g hg; omega) (fun i hi x => by have := (h.apart i hi).2.2; omega) (fun i hi => by have := h.hb; omega)
theorem NR.ok (h : NR w base lv ps R) : ∀ p ∈ ps, p.ok w w.heap.size := fun p hp => by
  obtain ⟨g1, g2, g3⟩ := h.good p hp
  exact ⟨(h.leads p hp).more h.hb, (h.kids p hp).reads, g1.1, g1.2.1, g1.2.2.1, g1.2.2.2, g2, g3⟩
/-- one node more -/
theorem NR.push {w1 : World} {ks : List Int} {kv kA : Option Addr} {kc lc : Nat} {p : PX} {o : Obj} (h : NR w base lv ps R) (hkv : w.ownsRow base 3 1 (.slice p.kA p.kids.length p.kc) p.kids.length (p.kids.map (Value.int .i64))) (hl : Reads w base 1 p.lA p.leads.length (p.leads.map Value.string)) (hkR : ∀ g, (Value.slice p.kA p.kids.length p.kc).ownBlock = some g → ¬ R g) (hgd : goodP p.plain)
    (ho : w1.ownsRow base 48 4 lv' (ps.length + 1) (ps.flatMap PX.cells ++ p.cells)) (hg : Grows (w.alloc o) w1 lv lv') : NR w1 base lv' (ps ++ [p]) (fun i => R i ∨ (Value.slice p.kA p.kids.length p.kc).ownBlock = some i) := by
  have hsz : (w.alloc o).heap.size = w.heap.size + 1 := by simp
  have hgs := hg.size
  have hn := own_types hkv h.row (by decide)
  have hkl := own_lt hkv
  have hkg := own_from hkv
  have hrl := own_lt h.row
  have hch : Chg w w1 (fun i => lv.ownBlock = some i) := (Chg.of_new (bal (Below.refl _ w) o) _).trans (Chg.of_grown hg.grown (fun g e => e)) (fun i _ e => e)
  have lvl := own_from h.row
  refine ⟨?_, fun q hq => ?_, fun q hq => ?_, fun i hi => ?_, fun q hq => ?_, by have := h.hb; omega⟩
  · rw [List.length_append, List.flatMap_append, List.flatMap_cons, List.flatMap_nil, List.append_nil]
    exact ho
  · have key : Reads w base 1 q.lA q.leads.length (q.leads.map Value.string) := by
      rcases List.mem_append.1 hq with hq | hq
      · exact h.leads q hq
      · simp at hq; subst hq; exact hl
    exact key.chg0 hch h.hb (fun hn' ad e hm => by
      have h1 := key.at_block hn' ad e
      have := lvl _ hm; omega)
  · rcases List.mem_append.1 hq with hq | hq
    · exact ((h.kids q hq).chg hch (fun i hi e => (h.apart i hi).1 e)).mono (fun i _ hi => .inl hi)
    · simp at hq
      subst hq
      refine ⟨by simp, fun hn' => ?_⟩
      obtain ⟨g, cap, hv, hb, hlt⟩ := hkv.form hn'
      have hA : q.kA = some ⟨g, 0, none⟩ := by injection hv
      have hkg' : (Value.slice q.kA q.kids.length q.kc).ownBlock = some g := by rw [hA]; rfl
      refine ⟨g, 0, hA, .inr hkg', by omega, fun j u hu => ?_⟩
      rw [World.cell?_of_block (a := ⟨g, 0 + j, none⟩) (hch.block g hlt (hn g hkg'))]
      have := hkv.cells (g := g) hkg' j u hu
      rwa [Addr.add_lit] at this
  · rcases hi with hi | hi
    · obtain ⟨a, b, c⟩ := h.apart i hi
      refine ⟨fun e => ?_, b, by omega⟩
      rcases hg.own i e with h1 | h1
      · exact a h1
      · omega
    · have h1 := hkl i hi
      refine ⟨fun e => ?_, hkg i hi, by omega⟩
      rcases hg.own i e with h2 | h2
      · exact hn i hi h2
      · omega
  · rcases List.mem_append.1 hq with hq | hq
    · exact h.good q hq
    · simp at hq; subst hq; exact hgd
end
def PutPost (w : World) (base : Nat) (lv : Value) (ps : List PX) (R : Nat → Prop) (t : T) (e : Ending) (w' : World) : Prop :=
  ∃ (A : Option Addr) (c : Nat) (ps' : List PX) (R' : Nat → Prop) (k : Nat), e = .returned (.tuple #[.slice A ps'.length c, .int .i64 (k : Int)]) ∧ T.put t (ps.map PX.plain) = (ps'.map PX.plain, k) ∧ NR w' base (.slice A ps'.length c) ps' R' ∧ Grows w w' lv (.slice A ps'.length c) ∧ (∀ i, R' i → R i ∨ w.heap.size ≤ i)
/-- while the kids are put -/
structure PRel (w wr : World) (base : Nat) (lv : Value) (ps : List PX) (R : Nat → Prop) (t : TX) (j : Nat) (v1 : Value) (ps1 : List PX) (R1 : Nat → Prop) (kA : Option Addr) (ks : List Int) (kc : Nat) : Prop where
  nr : NR wr base v1 ps1 R1
  put : T.puts ((t.kids.take j).map TX.plain) (ps.map PX.plain) = (ps1.map PX.plain, ks)
  gr : Grows w wr lv v1
  l1 : ∀ g, v1.ownBlock = some g → g < w.heap.size ∨ w.heap.size + 2 ≤ g
  newR : ∀ i, R1 i → R i ∨ w.heap.size + 2 ≤ i
  b0 : Blk wr w.heap.size 42 t.arr
  b1 : Blk wr (w.heap.size + 1) 48 #[.int .i64 t.kind, .string t.text, .slice t.lA t.leads.length t.lc, .slice kA ks.length kc]
  own : wr.ownsRow (w.heap.size + 2) 3 1 (.slice kA ks.length kc) ks.length (ks.map (Value.int .i64))
  kvR : ∀ g, (Value.slice kA ks.length kc).ownBlock = some g → ¬ R1 g
  hb : w.heap.size + 2 ≤ wr.heap.size
  rlt : ∀ i, R i → i < w.heap.size
section
variable {w wr w5 w6 : World} {base j k : Nat} {lv v1 v5 : Value} {ps ps1 ps5 : List PX} {R R1 R5 : Nat → Prop} {t s : TX} {kA : Option Addr} {ks : List Int} {kc : Nat}
theorem PRel.klen (h : PRel w wr base lv ps R t j v1 ps1 R1 kA ks kc) (hj : j ≤ t.kids.length) : ks.length = j := by
  have h1 := puts_len ((t.kids.take j).map TX.plain) (ps.map PX.plain)
  rw [h.put] at h1
  simpa [List.length_take, Nat.min_eq_left hj] using h1
theorem PRel.few (h : PRel w wr base lv ps R t j v1 ps1 R1 kA ks kc) (hk : t.kids[j]? = some s) : ps1.length + s.plain.size ≤ ps.length + t.plain.size := by
  have h1 := (T.puts_size ((t.kids.take j).map TX.plain) (ps.map PX.plain)).2
  rw [h.put] at h1
  simp only [List.length_map] at h1
  have h2 := sizes_take hk
  rw [TX.plain_eq t, T.size]
  omega
theorem PRel.step {A6 : Option Addr} {c6 : Nat} {v6 : Value} {o : Obj} (h : PRel w wr base lv ps R t j v1 ps1 R1 kA ks kc) (hs : t.kids[j]? = some s) (hp : T.put s.plain (ps1.map PX.plain) = (ps5.map PX.plain, k)) (hn : NR w5 base v5 ps5 R5) (hg : Grows wr w5 v1 v5) (hR : ∀ i, R5 i → R1 i ∨ wr.heap.size ≤ i) (hbase : base ≤ w.heap.size)
    (hv6 : v6 = .slice A6 (ks.length + 1) c6) (ho : w6.ownsRow (w.heap.size + 2) 3 1 v6 (ks.length + 1) (ks.map (Value.int .i64) ++ [.int .i64 (k : Int)])) (hgr : Grows (w5.alloc o) w6 (.slice kA ks.length kc) v6) :
    PRel w (w6.setCell ⟨w.heap.size + 1, 3, none⟩ v6) base lv ps R t (j + 1) v5 ps5 R5 A6 (ks ++ [(k : Int)]) c6 := by
  have hb := h.hb
  have hz5 := hg.size
  have hz6 := hgr.size
  have hsz : (w5.alloc o).heap.size = w5.heap.size + 1 := by simp
  have hss : (w6.setCell ⟨w.heap.size + 1, 3, none⟩ v6).heap.size = w6.heap.size := by simp [World.setCell]
  have klt := own_lt h.own
  have kge := own_from h.own
  have l1 := h.l1
  have kn1 := own_types h.own h.nr.row (by decide)
  have l5 : ∀ g, v5.ownBlock = some g → g < w.heap.size ∨ w.heap.size + 2 ≤ g := fun g hg' => by
    rcases hg.own g hg' with h1 | h1
    · exact l1 g h1
    · exact .inr (by omega)
  have kn5 : ∀ g, (Value.slice kA ks.length kc).ownBlock = some g → v5.ownBlock ≠ some g := fun g hg' hx => by
    rcases hg.own g hx with h1 | h1
    · exact kn1 g hg' h1
    · have := klt g hg'; omega
  have kR5 : ∀ g, (Value.slice kA ks.length kc).ownBlock = some g → ¬ R5 g := fun g hg' hx => by
    rcases hR g hx with h1 | h1
    · exact h.kvR g hg' h1
    · have := klt g hg'; omega
  have nR5 : ∀ i, R5 i → R i ∨ w.heap.size + 2 ≤ i := fun i hi => by
    rcases hR i hi with h1 | h1
    · exact h.newR i h1
    · exact .inr (by omega)
  have hb15 : Blk w5 (w.heap.size + 1) 48 #[.int .i64 t.kind, .string t.text, .slice t.lA t.leads.length t.lc, .slice kA ks.length kc] := hg.blk h.b1 (fun e => by have := l1 _ e; omega)
  have hb05 : Blk w5 w.heap.size 42 t.arr := hg.blk h.b0 (fun e => by have := l1 _ e; omega)
  have hb16 : Blk w6 (w.heap.size + 1) 48 #[.int .i64 t.kind, .string t.text, .slice t.lA t.leads.length t.lc, .slice kA ks.length kc] := hgr.blk (hb15.alloc o) (fun e => by have := kge _ e; omega)
  have hc56 : Chg w5 (w6.setCell ⟨w.heap.size + 1, 3, none⟩ v6) (fun i => (Value.slice kA ks.length kc).ownBlock = some i ∨ i = w.heap.size + 1) :=
    ((Chg.of_new (bal (Below.refl _ w5) o) _).trans ((Chg.of_grown hgr.grown (fun g e => .inl e)).setCell (p := ⟨w.heap.size + 1, 3, none⟩) (.inl (.inr rfl)) v6) (fun i _ e => e))
  have v6l : ∀ g, v6.ownBlock = some g → w.heap.size + 2 ≤ g := own_from ho
  have hgw : Grows w (w6.setCell ⟨w.heap.size + 1, 3, none⟩ v6) lv v5 := by
    have h1 := h.gr.trans hg
    refine ⟨⟨hc56.os.trans h1.grown.os, hc56.tape.trans h1.grown.tape, hc56.output.trans h1.grown.output, Nat.le_trans h1.grown.size hc56.size, fun i hi hne => (hc56.block i (by have := h1.size; omega) (fun e => ?_)).trans (h1.grown.block i hi hne)⟩, h1.own⟩
    rcases e with e | e
    · have := kge i e; omega
    · omega
  refine ⟨hn.chg hc56 (fun g hg' e => ?_) (fun i hi e => ?_) (fun i hi => ?_), ?_, hgw, l5, nR5, ?_, ?_, ?_, ?_, by omega, h.rlt⟩
  · rcases e with e | e
    · exact kn5 g e hg'
    · have := l5 g hg'; omega
  · rcases e with e | e
    · exact kR5 i e hi
    · rcases nR5 i hi with h1 | h1
      · have := h.rlt i h1; omega
      · omega
  · rcases hi with hi | hi
    · have := kge i hi; omega
    · omega
  · rw [take_snoc' hs, List.map_append, List.map_cons, List.map_nil, puts_snoc, h.put, hp]
  · exact (hgr.blk (hb05.alloc o) (fun e => by have := kge _ e; omega)).far (p := ⟨w.heap.size + 1, 3, none⟩) (by show w.heap.size ≠ w.heap.size + 1; omega) _
  · rw [List.length_append, List.length_singleton, ← hv6]
    exact hb16.set_ 3 v6
  · rw [List.length_append, List.length_singleton, List.map_append, ← hv6]
    have hc2 : Chg w6 (w6.setCell ⟨w.heap.size + 1, 3, none⟩ v6) (fun i => i = w.heap.size + 1) := (Chg.refl w6 (fun i => i = w.heap.size + 1)).setCell (p := ⟨w.heap.size + 1, 3, none⟩) (.inl rfl) v6
    exact owns_chg ho hc2 (fun g hg' e => by have := v6l g hg'; omega)
  · rw [List.length_append, List.length_singleton, ← hv6]
    intro g hg' hx
    rcases hgr.own g hg' with h1 | h1
    · exact kR5 g h1 hx
    · have := (hn.apart g hx).2.2; omega
end
end Go.Proofs.YtdabmjcpiblofaaDoor
