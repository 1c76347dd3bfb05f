/-
  put, the reference's: words. put, the reference's: the walk. Make, the reference's. No condition.
-/
import Derived.Test.YtdabmjcpiblofaaDoorPkN
namespace Go.Proofs.YtdabmjcpiblofaaDoor
open Go.RowKit
set_option linter.unusedVariables false

def goodP (x : PN) : Prop := goodL (.node x.1 x.2.1 x.2.2.1 []) ∧ x.2.2.2.length ≤ 1000000 ∧ ∀ k ∈ x.2.2.2, i64 k
/-- a row of nodes of one's own; R: the blocks of their rows of kids -/
structure NR (w : World) (base : Nat) (lv : Value) (ps : List PX) (R : Nat → Prop) : Prop where
  row : w.ownsRow base 48 4 lv ps.length (ps.flatMap PX.cells)
  leads : ∀ p ∈ ps, Reads w base 1 p.lA p.leads.length (p.leads.map Value.string)
  kids : ∀ p ∈ ps, RowIn w R p.kA p.kids.length (p.kids.map (Value.int .i64))
  apart : ∀ i, R i → lv.ownBlock ≠ some i ∧ base ≤ i ∧ i < w.heap.size
  good : ∀ p ∈ ps, goodP p.plain
  hb : base ≤ w.heap.size
section
variable {w w' : World} {base : Nat} {lv lv' : Value} {ps : List PX} {R M : Nat → Prop}
theorem NR.nil (w : World) (base : Nat) (hb : base ≤ w.heap.size) : NR w base (.slice none 0 0) [] (fun _ => False) := ⟨⟨rfl, .inl ⟨rfl, rfl⟩⟩, (fun p h => by cases h), (fun p h => by cases h), (fun i h => h.elim), (fun p h => by cases h), hb⟩
theorem NR.chg (h : NR w base lv ps R) (hc : Chg w w' M) (hv : ∀ g, lv.ownBlock = some g → ¬ M g) (hR : ∀ i, R i → ¬ M i) (hM : ∀ i, M i → base ≤ i) : NR w' base lv ps R :=
  ⟨owns_chg h.row hc hv, fun p hp => (h.leads p hp).chg0 hc h.hb (fun hn ad e hm => by
    have h1 := (h.leads p hp).at_block hn ad e
    have := hM _ hm
    omega), fun p hp => (h.kids p hp).chg hc hR, fun i hi => ⟨(h.apart i hi).1, (h.apart i hi).2.1, by have := (h.apart i hi).2.2; have := hc.size; omega⟩, h.good, by have := h.hb; have := hc.size; omega⟩
theorem NR.below (h : NR w base lv ps R) (hb : Below w.heap.size w w') : NR w' base lv ps R :=
  h.chg (M := fun i => w.heap.size ≤ i) (Chg.of_below hb (fun i hi => hi)) (fun g hg x => by have := own_lt h.row g hg; omega) (fun i hi x => by have := (h.apart i hi).2.2; omega) (fun i hi => by have := h.hb; omega)
theorem NR.ok (h : NR w base lv ps R) : ∀ p ∈ ps, p.ok w w.heap.size := fun p hp => by
  obtain ⟨g1, g2, g3⟩ := h.good p hp
  exact ⟨(h.leads p hp).more h.hb, (h.kids p hp).reads, g1.1, g1.2.1, g1.2.2.1, g1.2.2.2, g2, g3⟩
/-- one node more -/
theorem NR.push {w1 : World} {ks : List Int} {kv kA : Option Addr} {kc lc : Nat} {p : PX} {o : Obj} (h : NR w base lv ps R) (hkv : w.ownsRow base 3 1 (.slice p.kA p.kids.length p.kc) p.kids.length (p.kids.map (Value.int .i64))) (hl : Reads w base 1 p.lA p.leads.length (p.leads.map Value.string)) (hkR : ∀ g, (Value.slice p.kA p.kids.length p.kc).ownBlock = some g → ¬ R g) (hgd : goodP p.plain)
    (ho : w1.ownsRow base 48 4 lv' (ps.length + 1) (ps.flatMap PX.cells ++ p.cells)) (hg : Grows (w.alloc o) w1 lv lv') : NR w1 base lv' (ps ++ [p]) (fun i => R i ∨ (Value.slice p.kA p.kids.length p.kc).ownBlock = some i) := by
  have hsz : (w.alloc o).heap.size = w.heap.size + 1 := by simp
  have hgs := hg.size
  have hn := own_types hkv h.row (by decide)
  have hkl := own_lt hkv
  have hkg := own_from hkv
  have hrl := own_lt h.row
  have hch : Chg w w1 (fun i => lv.ownBlock = some i) := (Chg.of_new (bal (Below.refl _ w) o) _).trans (Chg.of_grown hg.grown (fun g e => e)) (fun i _ e => e)
  have lvl := own_from h.row
  refine ⟨?_, fun q hq => ?_, fun q hq => ?_, fun i hi => ?_, fun q hq => ?_, by have := h.hb; omega⟩
  · rw [List.length_append, List.flatMap_append, List.flatMap_cons, List.flatMap_nil, List.append_nil]
    exact ho
  · have key : Reads w base 1 q.lA q.leads.length (q.leads.map Value.string) := by
      rcases List.mem_append.1 hq with hq | hq
      · exact h.leads q hq
      · simp at hq; subst hq; exact hl
    exact key.chg0 hch h.hb (fun hn' ad e hm => by
      have h1 := key.at_block hn' ad e
      have := lvl _ hm; omega)
  · rcases List.mem_append.1 hq with hq | hq
    · exact ((h.kids q hq).chg hch (fun i hi e => (h.apart i hi).1 e)).mono (fun i _ hi => .inl hi)
    · simp at hq
      subst hq
      refine ⟨by simp, fun hn' => ?_⟩
      obtain ⟨g, cap, hv, hb, hlt⟩ := hkv.form hn'
      have hA : q.kA = some ⟨g, 0, none⟩ := by injection hv
      have hkg' : (Value.slice q.kA q.kids.length q.kc).ownBlock = some g := by rw [hA]; rfl
      refine ⟨g, 0, hA, .inr hkg', by omega, fun j u hu => ?_⟩
      rw [World.cell?_of_block (a := ⟨g, 0 + j, none⟩) (hch.block g hlt (hn g hkg'))]
      have := hkv.cells (g := g) hkg' j u hu
      rwa [Addr.add_lit] at this
  · rcases hi with hi | hi
    · obtain ⟨a, b, c⟩ := h.apart i hi
      refine ⟨fun e => ?_, b, by omega⟩
      rcases hg.own i e with h1 | h1
      · exact a h1
      · omega
    · have h1 := hkl i hi
      refine ⟨fun e => ?_, hkg i hi, by omega⟩
      rcases hg.own i e with h2 | h2
      · exact hn i hi h2
      · omega
  · rcases List.mem_append.1 hq with hq | hq
    · exact h.good q hq
    · simp at hq; subst hq; exact hgd
end
def PutPost (w : World) (base : Nat) (lv : Value) (ps : List PX) (R : Nat → Prop) (t : T) (e : Ending) (w' : World) : Prop :=
  ∃ (A : Option Addr) (c : Nat) (ps' : List PX) (R' : Nat → Prop) (k : Nat), e = .returned (.tuple #[.slice A ps'.length c, .int .i64 (k : Int)]) ∧ T.put t (ps.map PX.plain) = (ps'.map PX.plain, k) ∧ NR w' base (.slice A ps'.length c) ps' R' ∧ Grows w w' lv (.slice A ps'.length c) ∧ (∀ i, R' i → R i ∨ w.heap.size ≤ i)
/-- while the kids are put -/
structure PRel (w wr : World) (base : Nat) (lv : Value) (ps : List PX) (R : Nat → Prop) (t : TX) (j : Nat) (v1 : Value) (ps1 : List PX) (R1 : Nat → Prop) (kA : Option Addr) (ks : List Int) (kc : Nat) : Prop where
  nr : NR wr base v1 ps1 R1
  put : T.puts ((t.kids.take j).map TX.plain) (ps.map PX.plain) = (ps1.map PX.plain, ks)
  gr : Grows w wr lv v1
  l1 : ∀ g, v1.ownBlock = some g → g < w.heap.size ∨ w.heap.size + 2 ≤ g
  newR : ∀ i, R1 i → R i ∨ w.heap.size + 2 ≤ i
  b0 : Blk wr w.heap.size 42 t.arr
  b1 : Blk wr (w.heap.size + 1) 48 #[.int .i64 t.kind, .string t.text, .slice t.lA t.leads.length t.lc, .slice kA ks.length kc]
  own : wr.ownsRow (w.heap.size + 2) 3 1 (.slice kA ks.length kc) ks.length (ks.map (Value.int .i64))
  kvR : ∀ g, (Value.slice kA ks.length kc).ownBlock = some g → ¬ R1 g
  hb : w.heap.size + 2 ≤ wr.heap.size
  rlt : ∀ i, R i → i < w.heap.size
section
variable {w wr w5 w6 : World} {base j k : Nat} {lv v1 v5 : Value} {ps ps1 ps5 : List PX} {R R1 R5 : Nat → Prop} {t s : TX} {kA : Option Addr} {ks : List Int} {kc : Nat}
theorem PRel.klen (h : PRel w wr base lv ps R t j v1 ps1 R1 kA ks kc) (hj : j ≤ t.kids.length) : ks.length = j := by
  have h1 := puts_len ((t.kids.take j).map TX.plain) (ps.map PX.plain)
  rw [h.put] at h1
  simpa [List.length_take, Nat.min_eq_left hj] using h1
theorem PRel.few (h : PRel w wr base lv ps R t j v1 ps1 R1 kA ks kc) (hk : t.kids[j]? = some s) : ps1.length + s.plain.size ≤ ps.length + t.plain.size := by
  have h1 := (T.puts_size ((t.kids.take j).map TX.plain) (ps.map PX.plain)).2
  rw [h.put] at h1
  simp only [List.length_map] at h1
  have h2 := sizes_take hk
  rw [TX.plain_eq t, T.size]
  omega
theorem PRel.step {A6 : Option Addr} {c6 : Nat} {v6 : Value} {o : Obj} (h : PRel w wr base lv ps R t j v1 ps1 R1 kA ks kc) (hs : t.kids[j]? = some s) (hp : T.put s.plain (ps1.map PX.plain) = (ps5.map PX.plain, k)) (hn : NR w5 base v5 ps5 R5) (hg : Grows wr w5 v1 v5) (hR : ∀ i, R5 i → R1 i ∨ wr.heap.size ≤ i) (hbase : base ≤ w.heap.size)
    (hv6 : v6 = .slice A6 (ks.length + 1) c6) (ho : w6.ownsRow (w.heap.size + 2) 3 1 v6 (ks.length + 1) (ks.map (Value.int .i64) ++ [.int .i64 (k : Int)])) (hgr : Grows (w5.alloc o) w6 (.slice kA ks.length kc) v6) :
    PRel w (w6.setCell ⟨w.heap.size + 1, 3, none⟩ v6) base lv ps R t (j + 1) v5 ps5 R5 A6 (ks ++ [(k : Int)]) c6 := by
  have hb := h.hb
  have hz5 := hg.size
  have hz6 := hgr.size
  have hsz : (w5.alloc o).heap.size = w5.heap.size + 1 := by simp
  have hss : (w6.setCell ⟨w.heap.size + 1, 3, none⟩ v6).heap.size = w6.heap.size := by simp [World.setCell]
  have klt := own_lt h.own
  have kge := own_from h.own
  have l1 := h.l1
  have kn1 := own_types h.own h.nr.row (by decide)
  have l5 : ∀ g, v5.ownBlock = some g → g < w.heap.size ∨ w.heap.size + 2 ≤ g := fun g hg' => by
    rcases hg.own g hg' with h1 | h1
    · exact l1 g h1
    · exact .inr (by omega)
  have kn5 : ∀ g, (Value.slice kA ks.length kc).ownBlock = some g → v5.ownBlock ≠ some g := fun g hg' hx => by
    rcases hg.own g hx with h1 | h1
    · exact kn1 g hg' h1
    · have := klt g hg'; omega
  have kR5 : ∀ g, (Value.slice kA ks.length kc).ownBlock = some g → ¬ R5 g := fun g hg' hx => by
    rcases hR g hx with h1 | h1
    · exact h.kvR g hg' h1
    · have := klt g hg'; omega
  have nR5 : ∀ i, R5 i → R i ∨ w.heap.size + 2 ≤ i := fun i hi => by
    rcases hR i hi with h1 | h1
    · exact h.newR i h1
    · exact .inr (by omega)
  have hb15 : Blk w5 (w.heap.size + 1) 48 #[.int .i64 t.kind, .string t.text, .slice t.lA t.leads.length t.lc, .slice kA ks.length kc] := hg.blk h.b1 (fun e => by have := l1 _ e; omega)
  have hb05 : Blk w5 w.heap.size 42 t.arr := hg.blk h.b0 (fun e => by have := l1 _ e; omega)
  have hb16 : Blk w6 (w.heap.size + 1) 48 #[.int .i64 t.kind, .string t.text, .slice t.lA t.leads.length t.lc, .slice kA ks.length kc] := hgr.blk (hb15.alloc o) (fun e => by have := kge _ e; omega)
  have hc56 : Chg w5 (w6.setCell ⟨w.heap.size + 1, 3, none⟩ v6) (fun i => (Value.slice kA ks.length kc).ownBlock = some i ∨ i = w.heap.size + 1) :=
    ((Chg.of_new (bal (Below.refl _ w5) o) _).trans ((Chg.of_grown hgr.grown (fun g e => .inl e)).setCell (p := ⟨w.heap.size + 1, 3, none⟩) (.inl (.inr rfl)) v6) (fun i _ e => e))
  have v6l : ∀ g, v6.ownBlock = some g → w.heap.size + 2 ≤ g := own_from ho
  have hgw : Grows w (w6.setCell ⟨w.heap.size + 1, 3, none⟩ v6) lv v5 := by
    have h1 := h.gr.trans hg
    refine ⟨⟨hc56.os.trans h1.grown.os, hc56.tape.trans h1.grown.tape, hc56.output.trans h1.grown.output, Nat.le_trans h1.grown.size hc56.size, fun i hi hne => (hc56.block i (by have := h1.size; omega) (fun e => ?_)).trans (h1.grown.block i hi hne)⟩, h1.own⟩
    rcases e with e | e
    · have := kge i e; omega
    · omega
  refine ⟨hn.chg hc56 (fun g hg' e => ?_) (fun i hi e => ?_) (fun i hi => ?_), ?_, hgw, l5, nR5, ?_, ?_, ?_, ?_, by omega, h.rlt⟩
  · rcases e with e | e
    · exact kn5 g e hg'
    · have := l5 g hg'; omega
  · rcases e with e | e
    · exact kR5 i e hi
    · rcases nR5 i hi with h1 | h1
      · have := h.rlt i h1; omega
      · omega
  · rcases hi with hi | hi
    · have := kge i hi; omega
    · omega
  · rw [take_snoc' hs, List.map_append, List.map_cons, List.map_nil, puts_snoc, h.put, hp]
  · exact (hgr.blk (hb05.alloc o) (fun e => by have := kge _ e; omega)).far (p := ⟨w.heap.size + 1, 3, none⟩) (by show w.heap.size ≠ w.heap.size + 1; omega) _
  · rw [List.length_append, List.length_singleton, ← hv6]
    exact hb16.set_ 3 v6
  · rw [List.length_append, List.length_singleton, List.map_append, ← hv6]
    have hc2 : Chg w6 (w6.setCell ⟨w.heap.size + 1, 3, none⟩ v6) (fun i => i = w.heap.size + 1) := (Chg.refl w6 (fun i => i = w.heap.size + 1)).setCell (p := ⟨w.heap.size + 1, 3, none⟩) (.inl rfl) v6
    exact owns_chg ho hc2 (fun g hg' e => by have := v6l g hg'; omega)
  · rw [List.length_append, List.length_singleton, ← hv6]
    intro g hg' hx
    rcases hgr.own g hg' with h1 | h1
    · exact kR5 g h1 hx
    · have := (hn.apart g hx).2.2; omega
end
end Go.Proofs.YtdabmjcpiblofaaDoor

namespace Go.Proofs.YtdabmjcpiblofaaDoor
open Go.RowKit
set_option linter.unusedVariables false

theorem findN_at {l : List PN} {x : PN} {i : Nat} (h : ∀ y ∈ l.take i, y ≠ x) (hi : l[i]? = some x) : findN l x = some i := by
  unfold findN
  rw [List.findIdx?_eq_some_iff_getElem]
  obtain ⟨hlt, e⟩ := List.getElem?_eq_some_iff.1 hi
  refine ⟨hlt, by simp [e], fun j hj => ?_⟩
  have := h l[j] (by rw [List.mem_take_iff_getElem]; exact ⟨j, by omega, rfl⟩)
  simpa using this
theorem putN_old {l : List PN} {x : PN} {i : Nat} (h : ∀ y ∈ l.take i, y ≠ x) (hi : l[i]? = some x) : putN l x = (l, i) := by unfold putN; rw [findN_at h hi]
theorem putN_new {l : List PN} {x : PN} (h : ∀ y ∈ l, y ≠ x) : putN l x = (l ++ [x], l.length) := by
  unfold putN
  rw [findN_none.2 (fun hm => h x hm rfl)]
theorem PRel.start {w W : World} {base : Nat} {lv : Value} {ps : List PX} {R : Nat → Prop} {t : TX} (h : NR w base lv ps R) (hb : Below w.heap.size w W) (hz : W.heap.size = w.heap.size + 2) (h0 : Blk W w.heap.size 42 t.arr) (h1 : Blk W (w.heap.size + 1) 48 #[.int .i64 t.kind, .string t.text, .slice t.lA t.leads.length t.lc, .slice none 0 0]) :
    PRel w W base lv ps R t 0 lv ps R none [] 0 :=
  ⟨h.below hb, by simp [T.puts], Grows.of_below _ hb, fun g hg => .inl (own_lt h.row g hg), fun i hi => .inl hi, h0, h1, ⟨rfl, .inl ⟨rfl, rfl⟩⟩, (fun g hg => by simp [Value.ownBlock] at hg), by omega, fun i hi => (h.apart i hi).2.2⟩
theorem and8 {a b c d e : Prop} (h : (a ∧ b ∧ c ∧ d) ∧ e) : a ∧ b ∧ c ∧ d ∧ e := ⟨h.1.1, h.1.2.1, h.1.2.2.1, h.1.2.2.2, h.2⟩
set_option maxRecDepth 100000 in
set_option maxHeartbeats 8000000 in
theorem put_any (base : Nat) (t : TX) : ∀ (w : World) (lA : Option Addr) (lc : Nat) (ps : List PX) (R : Nat → Prop), NR w base (.slice lA ps.length lc) ps R → Tr w base t → Fine t → ps.length + t.plain.size ≤ 1000000 →
    Calls Tryd.prog 39 #[.slice lA ps.length lc, t.val] w (PutPost w base (.slice lA ps.length lc) ps R t.plain) := by
  induction t using TX.ind with
  | h t ih =>
  intro w lA lc ps R hnr ht hfi hM
  unfold TX.val
  have HIH := Lib.hid ih
  have H := Lib.hid ht
  have HF := Lib.hid hfi
  have HM := Lib.hid hM
  have HNR := Lib.hid hnr
  have hkb := ht.kb
  have hbw := hnr.hb
  have hpsz : ps.length ≤ 1000000 := by omega
  obtain ⟨kT, hkT⟩ : ∃ a, t.kA = a := ⟨_, rfl⟩
  have HKT := Lib.hid hkT
  rw [hkT]
  obtain ⟨W, hW⟩ : ∃ W, w.alloc (.cells #[.int .i64 t.kind, .string t.text, .slice t.lA t.leads.length t.lc, .slice kT t.kids.length t.kc] 42) = W := ⟨_, rfl⟩
  have hsW : W.heap.size = w.heap.size + 1 := by subst hW; simp
  have hX : Blk W w.heap.size 42 #[.int .i64 t.kind, .string t.text, .slice t.lA t.leads.length t.lc, .slice kT t.kids.length t.kc] := by subst hW; exact Blk.new w _ _
  have hBW : Below w.heap.size w W := by subst hW; exact bal (Below.refl _ _) _
  have c0 := hX.cell 0
  have c1 := hX.cell 1
  have c2 := hX.cell 2
  have c3 := hX.cell 3
  simp at c0 c1 c2 c3
  obtain ⟨W2, hW2⟩ : ∃ W2, W.alloc (.cells #[.int .i64 t.kind, .string t.text, .slice t.lA t.leads.length t.lc, .slice none 0 0] 48) = W2 := ⟨_, rfl⟩
  have HST : Hid (PRel w W2 base (.slice lA ps.length lc) ps R t 0 (.slice lA ps.length lc) ps R none [] 0) := by
    have h1 : Blk W2 W.heap.size 48 #[.int .i64 t.kind, .string t.text, .slice t.lA t.leads.length t.lc, .slice none 0 0] := by subst hW2; exact Blk.new _ _ _
    rw [hsW] at h1
    have h0 : Blk W2 w.heap.size 42 t.arr := by subst hW2; unfold TX.arr; rw [hkT]; exact hX.alloc _
    exact PRel.start hnr (by subst hW2; exact bal hBW _) (by subst hW2; simp [hsW]) h0 h1
  have hS3 : W2.setCell ⟨W.heap.size, 3, none⟩ (.slice none 0 0) = W2 := by
    rw [← hW2]
    exact (World.setCell_alloc_at _ _ _ _ _ rfl).trans rfl
  have z3 : W2.frozen? ⟨W.heap.size, 3, none⟩ = false := by subst hW2; exact (Blk.new _ _ _).frozen 3
  have z4 : W2.cell? ⟨W.heap.size, 3, none⟩ = some (.slice none 0 0) := by subst hW2; rw [(Blk.new _ _ _).cell]; rfl
  obtain ⟨i0, hi, hz0, hz1, hz2⟩ := info_parts intInfo
  have HI := Lib.hid hi
  have HZ0 := Lib.hid hz0
  have HZ1 := Lib.hid hz1
  have HZ2 := Lib.hid hz2
  obtain ⟨i4, hi4, hy0, hy1, hy2⟩ := info_parts nodeInfo
  have HI4 := Lib.hid hi4
  have HY0 := Lib.hid hy0
  have HY1 := Lib.hid hy1
  have HY2 := Lib.hid hy2
  have HSW := Lib.hid hsW
  clear ih ht hfi hM hnr hkT hi hz0 hz1 hz2 hi4 hy0 hy1 hy2 hX hBW hsW
  go_enter Tryd.func39, Tryd.ntmps39
  go_wp2_with fail
  rw [HSW.out]
  have HW := Lib.hid hW
  have HW2 := Lib.hid hW2
  clear hW hW2 hS3 z3 z4 c0 c1 c2 c3
  go_loopw [0, 7] (fun l i wr => ∃ (j : Nat) (A1 : Option Addr) (k1 : Nat) (ps1 : List PX) (R1 : Nat → Prop) (kA : Option Addr) (ks : List Int) (kc : Nat), j ≤ t.kids.length ∧ i = .int .i64 (j : Int) ∧ l = .slice A1 ps1.length k1 ∧ Hid (PRel w wr base (.slice lA ps.length lc) ps R t j (.slice A1 ps1.length k1) ps1 R1 kA ks kc)) (fun _ i _ => t.kids.length - (intOf i).toNat)
  case atStart => exact ⟨0, lA, lc, ps, R, none, [], 0, by omega, rfl, rfl, HST⟩
  case round =>
    obtain ⟨j, A1, k1, ps1, R1, kA, ks, kc, hj, rfl, rfl, HR⟩ := hrel
    obtain ⟨wo, rfl⟩ : ∃ wo : World, wo = wr := ⟨_, rfl⟩
    have hzo := HR.out.gr.size
    have hb2 := HR.out.hb
    have b0 : Blk wo w.heap.size 42 #[.int .i64 t.kind, .string t.text, .slice t.lA t.leads.length t.lc, .slice kT t.kids.length t.kc] := by have := HR.out.b0; unfold TX.arr at this; rw [HKT.out] at this; exact this
    have HB0 := Lib.hid b0
    have b1 := HR.out.b1
    have c3 := b0.cell 3
    have d0 := b1.cell 0
    have d1 := b1.cell 1
    have d2 := b1.cell 2
    have d3 := b1.cell 3
    simp at c3 d0 d1 d2 d3
    have HKL := Lib.hid (HR.out.klen hj)
    clear b0 b1
    by_cases hlt : j < t.kids.length
    · obtain ⟨s, hs⟩ : ∃ s, t.kids[j]? = some s := ⟨_, List.getElem?_eq_getElem hlt⟩
      have hbl : Below base w wo := HR.out.gr.below hbw (fun g hg => own_from HNR.out.row g hg)
      obtain ⟨ab, ao, hA, hab, e0, e1, e2, e3⟩ := (H.out.low hbl).at_ hs
      obtain rfl : kT = some ⟨ab, ao, none⟩ := HKT.out.symm.trans hA
      have hfew := HR.out.few hs
      have hMM := HM.out
      have hks := HKL.out
      have hksl : ks.length ≤ 1000000 := by
        have h1 := len_sizes (t.kids.map TX.plain)
        rw [TX.plain_eq t, T.size] at hMM
        rw [List.length_map] at h1
        omega
      have HC := Lib.hid (HIH.out s (List.mem_of_getElem? hs) wo A1 k1 ps1 R1 HR.out.nr ((H.out.sub s (List.mem_of_getElem? hs)).low hbl) (HF.out.sub s (List.mem_of_getElem? hs)) (by omega))
      unfold TX.val at HC
      have HS := Lib.hid hs
      clear hs hA hfew hMM hks hbl
      go_wp2_with fail
      refine (HC.out).mono ?_
      rintro e w5 ⟨A5, c5, ps5, R5, k5, rfl, hp5, hn5, hg5, hR5⟩
      have kge := own_from HR.out.own
      have klt := own_lt HR.out.own
      have kn1 := own_types HR.out.own HR.out.nr.row (by decide)
      have HO5 : Hid (w5.ownsRow (w.heap.size + 2) 3 1 (.slice kA ks.length kc) ks.length (ks.map (Value.int .i64))) := HR.out.own.kept hg5.grown (by
        cases hq : (Value.slice kA ks.length kc).ownBlock with
        | none => exact .inl rfl
        | some g => exact .inr (fun e => kn1 g hq e.symm))
      have hb15 : Blk w5 (w.heap.size + 1) 48 #[.int .i64 t.kind, .string t.text, .slice t.lA t.leads.length t.lc, .slice kA ks.length kc] := hg5.blk HR.out.b1 (fun e => by have := HR.out.l1 _ e; omega)
      have HB15 := Lib.hid hb15
      have d3 := hb15.cell 3
      simp at d3
      have hz5 := hg5.size
      have HP5 := Lib.hid hp5
      have HN5 := Lib.hid hn5
      have HG5 := Lib.hid hg5
      have HR5 := Lib.hid hR5
      clear hp5 hn5 hg5 hR5 hb15 HC kge klt kn1
      go_wp2_with (at_builtin; refine wpList_append_row _ rfl (.tmp 35) (.tmp 37) 27 27 rfl (w.heap.size + 2) 3 i0 (.int .i64 0) 1 8 Tryd.underlying27 HI.out HZ0.out HZ1.out HZ2.out rfl (by decide) (.slice kA ks.length kc) ks.length (ks.map (Value.int .i64)) rfl (HO5.out.alloc _) (.slice (some ⟨w5.heap.size, 0, none⟩) 1 1) 1 [.int .i64 (k5 : Int)] rfl (src_new w5 Tryd.underlying27 [.int .i64 (k5 : Int)] 1 1 1 3 rfl (one_i64 _)) ?c1 ?c2 ?c3 ?_)
      case c1 => unfold maxLen; omega
      case c2 => omega
      case c3 => simp; omega
      intro v6 w6 ho6 hg6
      obtain ⟨A6, c6, rfl, -, -⟩ := reads_of_owns ho6
      have hb16 : Blk w6 (w.heap.size + 1) 48 #[.int .i64 t.kind, .string t.text, .slice t.lA t.leads.length t.lc, .slice kA ks.length kc] := hg6.blk (HB15.out.alloc _) (fun e => by have := own_from HO5.out _ e; omega)
      have y3 := hb16.cell 3
      simp at y3
      have z3 := hb16.frozen 3
      have HS6 := Lib.hid (HR.out.step HS.out HP5.out HN5.out HG5.out HR5.out hbw rfl ho6 hg6)
      clear ho6 hg6 hb16
      go_wp2_with fail
      go_roundw
      case rel => exact ⟨j + 1, _, _, _, _, A6, ks ++ [(k5 : Int)], c6, by omega, by go_num, rfl, HS6⟩
      case measure => simp [intOf]; omega
    · obtain rfl : j = t.kids.length := by omega
      obtain ⟨px, hpx⟩ : ∃ px : PX, px = ⟨t.kind, t.text, t.lA, t.leads, t.lc, kA, ks, kc⟩ := ⟨_, rfl⟩
      have hput : T.put t.plain (ps.map PX.plain) = putN (ps1.map PX.plain) px.plain := by
        have h1 := HR.out.put
        rw [List.take_length] at h1
        rw [TX.plain_eq t, T.put, h1, hpx]
        rfl
      have hMM := HM.out
      have hks := HKL.out
      have hpsl : ps1.length ≤ 1000000 := by
        have h1 := (T.puts_size (t.kids.map TX.plain) (ps.map PX.plain)).2
        have h2 := HR.out.put
        rw [List.take_length] at h2
        rw [h2] at h1
        simp only [List.length_map] at h1
        rw [TX.plain_eq t, T.size] at hMM
        omega
      have hgp : goodP px.plain := by
        rw [hpx]
        refine ⟨⟨H.out.kr, HF.out.text, HF.out.leads, H.out.lbs⟩, ?_, fun y hy => ?_⟩
        · show ks.length ≤ _
          have h1 := len_sizes (t.kids.map TX.plain)
          rw [TX.plain_eq t, T.size] at hMM
          rw [List.length_map] at h1
          omega
        · have h1 := puts_small (t.kids.map TX.plain) (ps.map PX.plain)
          have h2 := HR.out.put
          rw [List.take_length] at h2
          rw [h2] at h1
          simp only [List.length_map] at h1
          have := h1 y hy
          exact ⟨by omega, by omega⟩
      have hbl : Below base w wo := HR.out.gr.below hbw (fun g hg => own_from HNR.out.row g hg)
      have hcell : px.cells = [.int .i64 t.kind, .string t.text, .slice t.lA t.leads.length t.lc, .slice kA ks.length kc] := by rw [hpx]; rfl
      have HLD : Hid (∀ w', Below wo.heap.size wo w' → Reads w' base 1 px.lA px.leads.length (px.leads.map Value.string)) := fun w' hb => by
        rw [hpx]
        exact (H.out.low (hbl.trans (hb.mono (by omega)))).rl
      have HKD : Hid (∀ w', Below wo.heap.size wo w' → w'.ownsRow base 3 1 (.slice px.kA px.kids.length px.kc) px.kids.length (px.kids.map (Value.int .i64))) := fun w' hb => by
        rw [hpx]
        exact owns_up (owns_below HR.out.own hb (own_lt HR.out.own)) (fun g hg => by have := own_from HR.out.own g hg; omega)
      have HPK : Hid (∀ w', Below wo.heap.size wo w' → px.ok w' w'.heap.size) := fun w' hb => by
        have h1 := HLD.out w' hb
        have h2 := HKD.out w' hb
        obtain ⟨g1, g2, g3⟩ := hgp
        exact ⟨h1.more (by have := hb.size; omega), Reads.of_own h2, g1.1, g1.2.1, g1.2.2.1, g1.2.2.2, g2, g3⟩
      have HBX : Hid (∀ w', Below wo.heap.size wo w' → w'.cell? ⟨w.heap.size + 1, 0, none⟩ = some (.int .i64 t.kind) ∧ w'.cell? ⟨w.heap.size + 1, 1, none⟩ = some (.string t.text) ∧ w'.cell? ⟨w.heap.size + 1, 2, none⟩ = some (.slice t.lA t.leads.length t.lc) ∧ w'.cell? ⟨w.heap.size + 1, 3, none⟩ = some (.slice kA ks.length kc)) := fun w' hb => by
        have h1 := HR.out.b1.below hb HR.out.b1.lt
        exact ⟨by rw [h1.cell]; rfl, by rw [h1.cell]; rfl, by rw [h1.cell]; rfl, by rw [h1.cell]; rfl⟩
      have HPX := Lib.hid hpx
      have HPUT := Lib.hid hput
      have HGP := Lib.hid hgp
      have HCELL := Lib.hid hcell
      have HKR : Hid (∀ g, (Value.slice px.kA px.kids.length px.kc).ownBlock = some g → ¬ R1 g) := by rw [hpx]; exact HR.out.kvR
      clear hpx hput hgp hcell hMM hks hbl
      go_wp2_with fail
      clear c3 d0 d1 d2 d3
      go_loopw [9] (fun i wr => ∃ m : Nat, m ≤ ps1.length ∧ i = .int .i64 (m : Int) ∧ Hid (∀ y ∈ (ps1.map PX.plain).take m, y ≠ px.plain) ∧ Hid (Below wo.heap.size wo wr)) (fun i _ => ps1.length - (intOf i).toNat)
      case atStart => exact ⟨0, by omega, rfl, (fun y hy => by simp at hy), Below.refl _ _⟩
      case round =>
        obtain ⟨m, hm, rfl, HNE, HB⟩ := hrel
        have hzr := HB.out.size
        by_cases hlm : m < ps1.length
        · obtain ⟨q, hq⟩ : ∃ q, ps1[m]? = some q := ⟨_, List.getElem?_eq_getElem hlm⟩
          obtain ⟨ab, ao, hA1, hab, hcl⟩ := (Reads.of_own HR.out.nr.row).head (by omega) (by omega)
          subst hA1
          have HSK : Hid (∀ w' : World, Below wo.heap.size wo w' → (w'.cell? ⟨ab, ao + m * 4, none⟩ = some (.int .i64 q.kind) ∧ w'.cell? ⟨ab, ao + m * 4 + 1, none⟩ = some (.string q.text) ∧ w'.cell? ⟨ab, ao + m * 4 + 2, none⟩ = some (.slice q.lA q.leads.length q.lc) ∧ w'.cell? ⟨ab, ao + m * 4 + 3, none⟩ = some (.slice q.kA q.kids.length q.kc)) ∧ w'.cell? ⟨w.heap.size + 1, 0, none⟩ = some (.int .i64 t.kind) ∧ w'.cell? ⟨w.heap.size + 1, 1, none⟩ = some (.string t.text) ∧ w'.cell? ⟨w.heap.size + 1, 2, none⟩ = some (.slice t.lA t.leads.length t.lc) ∧ w'.cell? ⟨w.heap.size + 1, 3, none⟩ = some (.slice kA ks.length kc)) := fun w' hw => by
            have p0 := hcl (m * 4) _ (flat_at PX.cells_len ps1 m 0 q hq (by omega))
            have p1 := hcl (m * 4 + 1) _ (flat_at PX.cells_len ps1 m 1 q hq (by omega))
            have p2 := hcl (m * 4 + 2) _ (flat_at PX.cells_len ps1 m 2 q hq (by omega))
            have p3 := hcl (m * 4 + 3) _ (flat_at PX.cells_len ps1 m 3 q hq (by omega))
            rw [← Nat.add_assoc] at p1 p2 p3
            exact ⟨⟨(hw.cell hab).trans p0, (hw.cell hab).trans p1, (hw.cell hab).trans p2, (hw.cell hab).trans p3⟩, HBX.out w' hw⟩
          have HBD : Hid (Below wo.heap.size wo wr.drew) := below_drewN HB.out 1
          have hC := sameNode_any q px wr.drew ((HR.out.nr.below HBD.out).ok q (List.mem_of_getElem? hq)) (HPK.out _ HBD.out)
          have hC' : Calls Tryd.prog 37 #[.agg #[.int .i64 q.kind, .string q.text, .slice q.lA q.leads.length q.lc, .slice q.kA q.kids.length q.kc], .agg #[.int .i64 t.kind, .string t.text, .slice t.lA t.leads.length t.lc, .slice kA ks.length kc]] wr.drew (RetB wr.drew (q.plain = px.plain)) := by
            rw [HPX.out] at hC ⊢
            exact hC
          have HC := Lib.hid hC'
          have i0' : (0 : Int) ≤ (m : Int) := by omega
          have i1' : (m : Int) < (ps1.length : Int) := by omega
          have HQ := Lib.hid hq
          clear hq hcl hC hC'
          go_wp2_with fail
          go_region_held3 (fun w' => w'.cell? ⟨ab, ao + m * 4, none⟩ = some (.int .i64 q.kind) ∧ w'.cell? ⟨ab, ao + m * 4 + 1, none⟩ = some (.string q.text) ∧ w'.cell? ⟨ab, ao + m * 4 + 2, none⟩ = some (.slice q.lA q.leads.length q.lc) ∧ w'.cell? ⟨ab, ao + m * 4 + 3, none⟩ = some (.slice q.kA q.kids.length q.kc) ∧ w'.cell? ⟨w.heap.size + 1, 0, none⟩ = some (.int .i64 t.kind) ∧ w'.cell? ⟨w.heap.size + 1, 1, none⟩ = some (.string t.text) ∧ w'.cell? ⟨w.heap.size + 1, 2, none⟩ = some (.slice t.lA t.leads.length t.lc) ∧ w'.cell? ⟨w.heap.size + 1, 3, none⟩ = some (.slice kA ks.length kc))
            (first | (with_reducible exact and8 (HSK.out _ HBD.out)) | (with_reducible exact and8 (HSK.out _ HB1.out)))
            ((go_at_call 37; refine (HC.out).mono ?_; rintro e w1 ⟨bv, hv, rfl, hb1⟩; have HB1 := Lib.hid (HBD.out.trans (hb1.mono HBD.out.size)); have HV := Lib.hid hv; clear hb1 hv))
          rcases bv with _ | _
          · have HN2 : Hid (∀ y ∈ (ps1.map PX.plain).take (m + 1), y ≠ px.plain) := by
              have hqm : (ps1.map PX.plain)[m]? = some q.plain := by rw [List.getElem?_map, HQ.out]; rfl
              rw [take_snoc' hqm]
              intro y hy
              rcases List.mem_append.1 hy with hy | hy
              · exact HNE.out y hy
              · simp at hy
                subst hy
                exact fun e => by have := HV.out.2 e; cases this
            go_wp2_with fail
            go_roundw
            case rel => exact ⟨m + 1, by omega, by go_num, HN2, HB1⟩
            case measure => simp [intOf]; omega
          · have HE : Hid (PutPost w base (.slice lA ps.length lc) ps R t.plain (.returned (.tuple #[.slice (some ⟨ab, ao, none⟩) ps1.length k1, .int .i64 (m : Int)])) w1) := by
              have hqm : (ps1.map PX.plain)[m]? = some q.plain := by rw [List.getElem?_map, HQ.out]; rfl
              have hqe : q.plain = px.plain := HV.out.1 rfl
              refine ⟨_, _, ps1, R1, m, rfl, ?_, HR.out.nr.below HB1.out, HR.out.gr.trans (Grows.of_below _ HB1.out), fun i hi => ?_⟩
              · rw [HPUT.out, putN_old HNE.out (hqe ▸ hqm)]
              · rcases HR.out.newR i hi with h1 | h1
                · exact .inl h1
                · exact .inr (by omega)
            go_wp2_with fail
            go_ret2
            exact HE.out
        · obtain rfl : m = ps1.length := by omega
          have HNA : Hid (∀ y ∈ ps1.map PX.plain, y ≠ px.plain) := by
            have := HNE.out
            rw [List.take_of_length_le (by simp)] at this
            exact this
          obtain ⟨d0, d1, d2, d3⟩ := HBX.out wr HB.out
          have HOW : Hid (wr.ownsRow base 48 4 (.slice A1 ps1.length k1) ps1.length (ps1.flatMap PX.cells)) := (HR.out.nr.below HB.out).row
          have hbw2 : base ≤ wr.heap.size := by omega
          go_wp2_with (at_builtin; refine wpList_append_row _ rfl (.tmp 54) (.tmp 56) 26 26 rfl base 48 i4 (.agg #[.int .i64 0, .string ⟨#[]⟩, .slice none 0 0, .slice none 0 0]) 4 72 Tryd.underlying26 HI4.out HY0.out HY1.out HY2.out rfl (by decide) (.slice A1 ps1.length k1) ps1.length (ps1.flatMap PX.cells) rfl (HOW.out.alloc _) (.slice (some ⟨wr.heap.size, 0, none⟩) 1 1) 1 [.int .i64 t.kind, .string t.text, .slice t.lA t.leads.length t.lc, .slice kA ks.length kc] rfl (src_new wr Tryd.underlying26 _ 4 1 1 48 rfl (one_node _ _ _ _ _ _ _ _)) ?c1 ?c2 ?c3 ?_)
          case c1 => unfold maxLen; omega
          case c2 => omega
          case c3 => simp; omega
          intro v7 w7 ho7 hg7
          obtain ⟨A7, c7, rfl, -, -⟩ := reads_of_owns ho7
          have HE : Hid (PutPost w base (.slice lA ps.length lc) ps R t.plain (.returned (.tuple #[.slice A7 (ps1.length + 1) c7, .int .i64 (ps1.length : Int)])) w7) := by
            rw [← HCELL.out] at ho7
            have h1 := (HR.out.nr.below HB.out).push (ks := []) (kv := none) (kA := none) (kc := 0) (lc := 0) (HKD.out _ HB.out) (HLD.out _ HB.out) HKR.out HGP.out ho7 hg7
            refine ⟨A7, c7, ps1 ++ [px], (fun i => R1 i ∨ (Value.slice px.kA px.kids.length px.kc).ownBlock = some i), ps1.length, by rw [List.length_append]; rfl, ?_, ?_, ?_, fun i hi => ?_⟩
            · rw [HPUT.out, putN_new HNA.out, List.map_append, List.length_map]; rfl
            · rw [List.length_append]; exact h1
            · rw [List.length_append]
              exact HR.out.gr.trans ((Grows.of_below _ (HB.out.trans ((bal (Below.refl _ wr) _).mono HB.out.size))).trans hg7)
            · rcases hi with hi | hi
              · rcases HR.out.newR i hi with h1 | h1
                · exact .inl h1
                · exact .inr (by omega)
              · rw [HPX.out] at hi
                have := own_from HR.out.own i hi
                exact .inr (by omega)
          clear ho7 hg7 d0 d1 d2 d3
          go_wp2_with fail
          go_ret2
          exact HE.out
end Go.Proofs.YtdabmjcpiblofaaDoor

namespace Go.Proofs.YtdabmjcpiblofaaDoor
open Go.RowKit
set_option linter.unusedVariables false

/-- what the reference's Make knows between two trees -/
structure RMk (w wr : World) (ts : List TX) (j : Nat) (lv : Value) (ps : List PX) (R : Nat → Prop) (rv : Value) (rs : List Int) : Prop where
  nr : NR wr w.heap.size lv ps R
  put : T.puts ((ts.take j).map TX.plain) [] = (ps.map PX.plain, rs)
  roots : wr.ownsRow w.heap.size 3 1 rv rs.length (rs.map (Value.int .i64))
  rvR : ∀ g, rv.ownBlock = some g → ¬ R g
  bel : Below w.heap.size w wr
  b0 : Blk wr w.heap.size 29 #[.slice none 0 0, .slice none 0 0]
  b1 : Blk wr (w.heap.size + 1) 29 #[lv, rv]
  l0 : ∀ i, R i → w.heap.size + 2 ≤ i
section
variable {w wr w5 w6 : World} {ts : List TX} {j k : Nat} {lv rv v5 v6 : Value} {ps ps5 : List PX} {R R5 : Nat → Prop} {rs : List Int} {t : TX}
theorem RMk.len (h : RMk w wr ts j lv ps R rv rs) (hj : j ≤ ts.length) : rs.length = j := by
  have h1 := puts_len ((ts.take j).map TX.plain) []
  rw [h.put] at h1
  simpa [List.length_take, Nat.min_eq_left hj] using h1
/-- the nodes are stored -/
theorem RMk.nodes (h : RMk w wr ts j lv ps R rv rs) (hn : NR w5 w.heap.size v5 ps5 R5) (hg : Grows wr w5 lv v5) (hR : ∀ i, R5 i → R i ∨ wr.heap.size ≤ i) (hp : T.put t.plain (ps.map PX.plain) = (ps5.map PX.plain, k)) :
    NR (w5.setCell ⟨w.heap.size + 1, 0, none⟩ v5) w.heap.size v5 ps5 R5 ∧ (w5.setCell ⟨w.heap.size + 1, 0, none⟩ v5).ownsRow w.heap.size 3 1 rv rs.length (rs.map (Value.int .i64)) ∧ (∀ g, rv.ownBlock = some g → ¬ R5 g) ∧ Below w.heap.size w (w5.setCell ⟨w.heap.size + 1, 0, none⟩ v5) ∧
      Blk (w5.setCell ⟨w.heap.size + 1, 0, none⟩ v5) w.heap.size 29 #[.slice none 0 0, .slice none 0 0] ∧ Blk (w5.setCell ⟨w.heap.size + 1, 0, none⟩ v5) (w.heap.size + 1) 29 #[v5, rv] ∧ (∀ i, R5 i → w.heap.size + 2 ≤ i) := by
  have hz5 := hg.size
  have l1 := h.b1.lt
  have rl := own_lt h.roots
  have lvb0 : lv.ownBlock ≠ some w.heap.size := own_blk_ne h.nr.row h.b0 (by decide)
  have lvb1 : lv.ownBlock ≠ some (w.heap.size + 1) := own_blk_ne h.nr.row h.b1 (by decide)
  have rb1 : rv.ownBlock ≠ some (w.heap.size + 1) := own_blk_ne h.roots h.b1 (by decide)
  have rn := own_types h.roots h.nr.row (by decide)
  have hb05 := hg.blk h.b0 lvb0
  have hb15 := hg.blk h.b1 lvb1
  have v5b1 : v5.ownBlock ≠ some (w.heap.size + 1) := own_blk_ne hn.row hb15 (by decide)
  have hR5 : ∀ i, R5 i → w.heap.size + 2 ≤ i := fun i hi => by
    rcases hR i hi with h1 | h1
    · exact h.l0 i h1
    · omega
  have hc : Chg w5 (w5.setCell ⟨w.heap.size + 1, 0, none⟩ v5) (fun i => i = w.heap.size + 1) := (Chg.refl w5 (fun i => i = w.heap.size + 1)).setCell (p := ⟨w.heap.size + 1, 0, none⟩) (.inl rfl) v5
  have ho5 : w5.ownsRow w.heap.size 3 1 rv rs.length (rs.map (Value.int .i64)) := h.roots.kept hg.grown (by
    cases hq : rv.ownBlock with
    | none => exact .inl rfl
    | some g => exact .inr (fun e => rn g hq e.symm))
  refine ⟨hn.chg hc (fun g hg' e => v5b1 (by rw [hg', e])) (fun i hi e => by have := hR5 i hi; omega) (fun i hi => by omega), owns_chg ho5 hc (fun g hg' e => rb1 (by rw [hg', e])), fun g hg' hx => ?_, ?_, hb05.chg hc (fun e => by omega), hb15.set_ 0 v5, hR5⟩
  · rcases hR g hx with h1 | h1
    · exact h.rvR g hg' h1
    · have := rl g hg'; omega
  · have h1 := own_from h.nr.row
    exact (h.bel.grown hg.grown h.bel.size (fun g hg' => h1 g hg')).setCell (p := ⟨w.heap.size + 1, 0, none⟩) (by show w.heap.size ≤ w.heap.size + 1; omega) _
/-- the root is stored -/
theorem RMk.step {o : Obj} (ht : ts[j]? = some t) (hput : T.puts ((ts.take j).map TX.plain) [] = (ps.map PX.plain, rs)) (hp : T.put t.plain (ps.map PX.plain) = (ps5.map PX.plain, k))
    (hn : NR w5 w.heap.size v5 ps5 R5) (hr : w5.ownsRow w.heap.size 3 1 rv rs.length (rs.map (Value.int .i64))) (hrR : ∀ g, rv.ownBlock = some g → ¬ R5 g) (hb : Below w.heap.size w w5) (h0 : Blk w5 w.heap.size 29 #[.slice none 0 0, .slice none 0 0]) (h1 : Blk w5 (w.heap.size + 1) 29 #[v5, rv]) (hl0 : ∀ i, R5 i → w.heap.size + 2 ≤ i)
    (ho : w6.ownsRow w.heap.size 3 1 v6 (rs.length + 1) (rs.map (Value.int .i64) ++ [.int .i64 (k : Int)])) (hg : Grows (w5.alloc o) w6 rv v6) :
    RMk w (w6.setCell ⟨w.heap.size + 1, 1, none⟩ v6) ts (j + 1) v5 ps5 R5 v6 (rs ++ [(k : Int)]) := by
  have hz := hg.size
  have hsz : (w5.alloc o).heap.size = w5.heap.size + 1 := by simp
  have l1 := h1.lt
  have rb1 : rv.ownBlock ≠ some (w.heap.size + 1) := own_blk_ne hr h1 (by decide)
  have rb0 : rv.ownBlock ≠ some w.heap.size := own_blk_ne hr h0 (by decide)
  have rn := own_types hr hn.row (by decide)
  have hc6 : Chg w5 w6 (fun i => rv.ownBlock = some i) := (Chg.of_new (bal (Below.refl _ w5) o) _).trans (Chg.of_grown hg.grown (fun g e => e)) (fun i _ e => e)
  have hc : Chg w5 (w6.setCell ⟨w.heap.size + 1, 1, none⟩ v6) (fun i => rv.ownBlock = some i ∨ i = w.heap.size + 1) := (hc6.mono (fun i e => .inl e)).setCell (p := ⟨w.heap.size + 1, 1, none⟩) (.inl (.inr rfl)) v6
  have v5b1 : v5.ownBlock ≠ some (w.heap.size + 1) := own_blk_ne hn.row h1 (by decide)
  have rge := own_from hr
  have hb16 := h1.chg hc6 rb1
  have v6b1 : v6.ownBlock ≠ some (w.heap.size + 1) := own_blk_ne ho hb16 (by decide)
  have hc2 : Chg w6 (w6.setCell ⟨w.heap.size + 1, 1, none⟩ v6) (fun i => i = w.heap.size + 1) := (Chg.refl w6 (fun i => i = w.heap.size + 1)).setCell (p := ⟨w.heap.size + 1, 1, none⟩) (.inl rfl) v6
  refine ⟨hn.chg hc (fun g hg' e => ?_) (fun i hi e => ?_) (fun i hi => ?_), ?_, ?_, fun g hg' hx => ?_, hb.trans (hc.below hb.size (fun i hi => ?_)), (h0.chg hc6 rb0).chg hc2 (fun e => by omega), hb16.set_ 1 v6, hl0⟩
  · rcases e with e | e
    · exact rn g e hg'
    · exact v5b1 (by rw [hg', e])
  · rcases e with e | e
    · exact hrR i e hi
    · have := hl0 i hi; omega
  · rcases hi with hi | hi
    · exact rge i hi
    · omega
  · rw [take_snoc' ht, List.map_append, List.map_cons, List.map_nil, puts_snoc, hput, hp]
  · rw [List.length_append, List.length_singleton, List.map_append]
    exact owns_chg ho hc2 (fun g hg' e => v6b1 (by rw [hg', e]))
  · rcases hg.own g hg' with h2 | h2
    · exact hrR g h2 hx
    · have := (hn.apart g hx).2.2; omega
  · rcases hi with hi | hi
    · exact rge i hi
    · omega
theorem RMk.done (h : RMk w wr ts ts.length lv ps R rv rs) (hs : T.sizes (ts.map TX.plain) ≤ 1000000) : MakePost w (T.puts (ts.map TX.plain) []).1 (T.puts (ts.map TX.plain) []).2 (.returned (.agg #[lv, rv])) ((wr.setCell ⟨w.heap.size, 0, none⟩ lv).setCell ⟨w.heap.size, 1, none⟩ rv) := by
  have hput := h.put
  rw [List.take_length] at hput
  have hsz := (T.puts_size (ts.map TX.plain) []).2
  have hpl := puts_len (ts.map TX.plain) []
  have hsm := puts_small (ts.map TX.plain) []
  have hls := len_sizes (ts.map TX.plain)
  rw [hput] at hsz hpl hsm ⊢
  simp only [List.length_nil, List.length_map, Nat.zero_add] at hsz hpl hsm hls
  have hc : Chg wr ((wr.setCell ⟨w.heap.size, 0, none⟩ lv).setCell ⟨w.heap.size, 1, none⟩ rv) (fun i => i = w.heap.size) := ((Chg.refl wr (fun i => i = w.heap.size)).setCell (p := ⟨w.heap.size, 0, none⟩) (.inl rfl) lv).setCell (p := ⟨w.heap.size, 1, none⟩) (.inl rfl) rv
  have hz := h.bel.size
  have n1 : lv.ownBlock ≠ some w.heap.size := own_blk_ne h.nr.row h.b0 (by decide)
  have n2 : rv.ownBlock ≠ some w.heap.size := own_blk_ne h.roots h.b0 (by decide)
  have hn' := h.nr.chg hc (fun g hg e => n1 (by rw [hg, e])) (fun i hi e => by have := h.l0 i hi; omega) (fun i hi => by omega)
  have hr' := owns_chg h.roots hc (fun g hg e => n2 (by rw [hg, e]))
  obtain ⟨An, cn, e1, hrn, -⟩ := reads_of_owns hn'.row
  obtain ⟨Ar, cr, e2, hrr, -⟩ := reads_of_owns hr'
  refine ⟨⟨An, ps, cn, Ar, rs, cr⟩, by rw [e1, e2]; rfl, rfl, rfl, ⟨hrn, hrr, hn'.ok, by show ps.length ≤ _; omega, by show rs.length ≤ _; omega, fun r hr => ?_⟩, h.bel.trans (hc.below hz (fun i hi => by omega))⟩
  have := hsm r hr
  exact ⟨by omega, by omega⟩
end
theorem RMk.start (w : World) (ts : List TX) : RMk w ((w.alloc (.cells #[.slice none 0 0, .slice none 0 0] 29)).alloc (.cells #[.slice none 0 0, .slice none 0 0] 29)) ts 0 (.slice none 0 0) [] (fun _ => False) (.slice none 0 0) [] := by
  obtain ⟨wa, hwa⟩ : ∃ wa, w.alloc (.cells #[.slice none 0 0, .slice none 0 0] 29) = wa := ⟨_, rfl⟩
  have hz : wa.heap.size = w.heap.size + 1 := by subst hwa; simp
  have hbx : Blk wa w.heap.size 29 #[.slice none 0 0, .slice none 0 0] := by subst hwa; exact Blk.new w _ _
  have hb : Below w.heap.size w wa := by subst hwa; exact bal (Below.refl _ _) _
  rw [hwa]
  have h2 := Blk.new wa 29 #[.slice none 0 0, .slice none 0 0]
  rw [hz] at h2
  exact ⟨NR.nil _ _ (by simp; omega), rfl, ⟨rfl, .inl ⟨rfl, rfl⟩⟩, (fun g hg h => h), bal hb _, hbx.alloc _, h2, fun i h => h.elim⟩
set_option maxRecDepth 100000 in
set_option maxHeartbeats 3200000 in
theorem refMake_any (A : Option Addr) (c : Nat) (ts : List TX) (w : World) (h : LT w A ts) (hs : T.sizes (ts.map TX.plain) ≤ 1000000) :
    Calls Tryd.prog 14 #[.slice A ts.length c] w (MakePost w (T.puts (ts.map TX.plain) []).1 (T.puts (ts.map TX.plain) []).2) := by
  obtain ⟨n, hn⟩ : ∃ n, ts.length = n := ⟨_, rfl⟩
  have hls := len_sizes (ts.map TX.plain)
  rw [List.length_map, hn] at hls
  have hrt := h.1
  rw [hn] at hrt ⊢
  have HS := Lib.hid hs
  have H := Lib.hid h
  have HN := Lib.hid hn
  have HRT := Lib.hid hrt
  have hnb : n ≤ 1000000 := Nat.le_trans hls hs
  obtain ⟨i0, hi, hz0, hz1, hz2⟩ := info_parts intInfo
  have HI := Lib.hid hi
  have HZ0 := Lib.hid hz0
  have HZ1 := Lib.hid hz1
  have HZ2 := Lib.hid hz2
  have HST := Lib.hid (RMk.start w ts)
  clear h hn hrt hs hi hz0 hz1 hz2 hls
  go_enter Tryd.func14, Tryd.ntmps14
  go_wp2_with fail
  go_loopw [4] (fun i wr => ∃ (j : Nat) (lv rv : Value) (ps : List PX) (R : Nat → Prop) (rs : List Int), j ≤ n ∧ i = .int .i64 (j : Int) ∧ Hid (RMk w wr ts j lv ps R rv rs)) (fun i _ => n - (intOf i).toNat)
  case atStart => exact ⟨0, _, _, _, _, _, by omega, rfl, HST⟩
  case round =>
    obtain ⟨j, lv, rv, ps, R, rs, hj, rfl, HR⟩ := hrel
    obtain ⟨An, cn, rfl, -, -⟩ := reads_of_owns HR.out.nr.row
    obtain ⟨Ar, cr, rfl, -, -⟩ := reads_of_owns HR.out.roots
    have hzr := HR.out.bel.size
    have hb1l := HR.out.b1.lt
    by_cases hlt : j < n
    · obtain ⟨t, ht⟩ : ∃ t, ts[j]? = some t := ⟨_, List.getElem?_eq_getElem (by rw [HN.out]; exact hlt)⟩
      obtain ⟨ab, ao, hA, hab, hcell⟩ := HRT.out.head (by omega) (by omega)
      have HSK : Hid (∀ w', Below w.heap.size w w' → w'.cell? ⟨ab, ao + j * 4, none⟩ = some (.int .i64 t.kind) ∧ w'.cell? ⟨ab, ao + j * 4 + 1, none⟩ = some (.string t.text) ∧ w'.cell? ⟨ab, ao + j * 4 + 2, none⟩ = some (.slice t.lA t.leads.length t.lc) ∧ w'.cell? ⟨ab, ao + j * 4 + 3, none⟩ = some (.slice t.kA t.kids.length t.kc)) := fun w' hw => by
        have e0 := hcell (j * 4) _ (flat_at TX.cells_len ts j 0 t ht (by omega))
        have e1 := hcell (j * 4 + 1) _ (flat_at TX.cells_len ts j 1 t ht (by omega))
        have e2 := hcell (j * 4 + 2) _ (flat_at TX.cells_len ts j 2 t ht (by omega))
        have e3 := hcell (j * 4 + 3) _ (flat_at TX.cells_len ts j 3 t ht (by omega))
        rw [← Nat.add_assoc] at e1 e2 e3
        exact ⟨(hw.cell hab).trans e0, (hw.cell hab).trans e1, (hw.cell hab).trans e2, (hw.cell hab).trans e3⟩
      subst hA
      have HT1 := Lib.hid ht
      have HTR := Lib.hid (H.out.2 t (List.mem_of_getElem? ht))
      have HLN := Lib.hid (HR.out.len (by rw [HN.out]; omega))
      have HBL := Lib.hid HR.out.bel
      have HSZ : Hid (ps.length + t.plain.size ≤ 1000000) := by
        have h1 := (T.puts_size ((ts.take j).map TX.plain) []).2
        rw [HR.out.put] at h1
        simp only [List.length_nil, List.length_map, Nat.zero_add] at h1
        have h2 := sizes_take ht
        have h3 := HS.out
        unfold Hid
        omega
      have HBD : Hid (Below w.heap.size w wr.drew) := below_drewN HR.out.bel 1
      have hC := put_any w.heap.size t wr.drew An cn ps R (HR.out.nr.below (below_drewN (Below.refl _ wr) 1)) (HTR.out.1.low HBD.out) HTR.out.2 HSZ.out
      unfold TX.val at hC
      have HC := Lib.hid hC
      have HB1 : Hid (Blk wr.drew (w.heap.size + 1) 29 #[.slice An ps.length cn, .slice Ar rs.length cr]) := HR.out.b1.drew
      have c00 : wr.drew.cell? ⟨w.heap.size + 1, 0, none⟩ = some (.slice An ps.length cn) := by rw [HB1.out.cell]; rfl
      have HNX : Hid (∀ (w5 : World) (v5 : Value) (ps5 : List PX) (R5 : Nat → Prop) (k : Nat), NR w5 w.heap.size v5 ps5 R5 → Grows wr.drew w5 (.slice An ps.length cn) v5 → (∀ i, R5 i → R i ∨ wr.drew.heap.size ≤ i) → T.put t.plain (ps.map PX.plain) = (ps5.map PX.plain, k) → NR (w5.setCell ⟨w.heap.size + 1, 0, none⟩ v5) w.heap.size v5 ps5 R5 ∧ (w5.setCell ⟨w.heap.size + 1, 0, none⟩ v5).ownsRow w.heap.size 3 1 (.slice Ar rs.length cr) rs.length (rs.map (Value.int .i64)) ∧ (∀ g, (Value.slice Ar rs.length cr).ownBlock = some g → ¬ R5 g) ∧ Below w.heap.size w (w5.setCell ⟨w.heap.size + 1, 0, none⟩ v5) ∧
          Blk (w5.setCell ⟨w.heap.size + 1, 0, none⟩ v5) w.heap.size 29 #[.slice none 0 0, .slice none 0 0] ∧ Blk (w5.setCell ⟨w.heap.size + 1, 0, none⟩ v5) (w.heap.size + 1) 29 #[v5, .slice Ar rs.length cr] ∧ (∀ i, R5 i → w.heap.size + 2 ≤ i)) := fun w5 v5 ps5 R5 k h1 h2 h3 h4 => by
        have hd : RMk w wr.drew ts j (.slice An ps.length cn) ps R (.slice Ar rs.length cr) rs := ⟨HR.out.nr.below (below_drewN (Below.refl _ wr) 1), HR.out.put, HR.out.roots, HR.out.rvR, HBD.out, HR.out.b0.drew, HR.out.b1.drew, HR.out.l0⟩
        exact hd.nodes h1 h2 h3 h4
      have HK5 : Hid (∀ (w5 : World) (v5 : Value), Grows wr.drew w5 (.slice An ps.length cn) v5 → w5.cell? ⟨w.heap.size + 1, 0, none⟩ = some (.slice An ps.length cn) ∧ w5.frozen? ⟨w.heap.size + 1, 0, none⟩ = false ∧ Below w.heap.size w w5) := fun w5 v5 hg => by
        have h1 := hg.blk HB1.out (own_blk_ne HR.out.nr.row HR.out.b1 (by decide))
        have h2 := own_from HR.out.nr.row
        exact ⟨by rw [h1.cell]; rfl, h1.frozen 0, HBD.out.grown hg.grown HBD.out.size (fun g hg' => h2 g hg')⟩
      have i0' : (0 : Int) ≤ (j : Int) := by omega
      have i1' : (j : Int) < (n : Int) := by omega
      have hrsl : rs.length ≤ 1000000 := by rw [HLN.out]; omega
      clear ht hcell hC
      go_wp2_with fail
      go_upto_region 7 with fail
      go_cut [5] (fun kv wk => ∃ (k : Nat) (A5 : Option Addr) (c5 : Nat) (ps5 : List PX) (R5 : Nat → Prop), kv = .int .i64 (k : Int) ∧ Hid (T.put t.plain (ps.map PX.plain) = (ps5.map PX.plain, k)) ∧ Hid (NR wk w.heap.size (.slice A5 ps5.length c5) ps5 R5 ∧ wk.ownsRow w.heap.size 3 1 (.slice Ar rs.length cr) rs.length (rs.map (Value.int .i64)) ∧ (∀ g, (Value.slice Ar rs.length cr).ownBlock = some g → ¬ R5 g) ∧ Below w.heap.size w wk ∧ Blk wk w.heap.size 29 #[.slice none 0 0, .slice none 0 0] ∧ Blk wk (w.heap.size + 1) 29 #[.slice A5 ps5.length c5, .slice Ar rs.length cr] ∧ (∀ i, R5 i → w.heap.size + 2 ≤ i)))
      case first =>
        rw [late_load _ 13]
        go_region_held3 (fun w' => w'.cell? ⟨ab, ao + j * 4, none⟩ = some (.int .i64 t.kind) ∧ w'.cell? ⟨ab, ao + j * 4 + 1, none⟩ = some (.string t.text) ∧ w'.cell? ⟨ab, ao + j * 4 + 2, none⟩ = some (.slice t.lA t.leads.length t.lc) ∧ w'.cell? ⟨ab, ao + j * 4 + 3, none⟩ = some (.slice t.kA t.kids.length t.kc))
          (first | (with_reducible exact HSK.out _ HBD.out) | (with_reducible exact HSK.out _ K5.out.2.2) | (with_reducible exact HSK.out _ N5.out.2.2.2.1))
          ((go_at_call 39; refine (HC.out).mono ?_; rintro e w5 ⟨A5, c5, ps5, R5, k5, rfl, hp5, hn5, hg5, hR5⟩; have HP5 := Lib.hid hp5; have N5 := Lib.hid (HNX.out _ _ _ _ _ hn5 hg5 hR5 hp5); have K5 := Lib.hid (HK5.out _ _ hg5); have c50 := K5.out.1; have z50 := K5.out.2.1; clear hp5 hn5 hg5 hR5))
        all_goals
          go_wp2_with fail
          go_meet
          exact ⟨_, _, _, _, _, rfl, HP5, N5⟩
      case rest =>
        obtain ⟨k5, A5, c5, ps5, R5, rfl, HP5, N5⟩ := hcut
        obtain ⟨w8, rfl⟩ : ∃ wo : World, wo = wc := ⟨_, rfl⟩
        obtain ⟨hn8, hr8, hrR8, hb8, h08, h18, hl8⟩ := N5.out
        have d1 := h18.cell 1
        simp at d1
        have HO8 := Lib.hid hr8
        have hz8 := hb8.size
        clear hn8 hr8 hrR8 hb8 h08 h18 hl8 c00
        go_wp2_with (at_builtin; refine wpList_append_row _ rfl (.tmp 24) (.tmp 26) 27 27 rfl w.heap.size 3 i0 (.int .i64 0) 1 8 Tryd.underlying27 HI.out HZ0.out HZ1.out HZ2.out rfl (by decide) (.slice Ar rs.length cr) rs.length (rs.map (Value.int .i64)) rfl (HO8.out.alloc _) (.slice (some ⟨w8.heap.size, 0, none⟩) 1 1) 1 [.int .i64 (k5 : Int)] rfl (src_new w8 Tryd.underlying27 [.int .i64 (k5 : Int)] 1 1 1 3 rfl (one_i64 _)) ?c1 ?c2 ?c3 ?_)
        case c1 => unfold maxLen; omega
        case c2 => omega
        case c3 => simp; omega
        intro v6 w6 ho6 hg6
        obtain ⟨A6, c6, rfl, -, -⟩ := reads_of_owns ho6
        have hb16 : Blk w6 (w.heap.size + 1) 29 #[.slice A5 ps5.length c5, .slice Ar rs.length cr] := hg6.blk (N5.out.2.2.2.2.2.1.alloc _) (own_blk_ne HO8.out N5.out.2.2.2.2.2.1 (by decide))
        have y1 := hb16.cell 1
        simp at y1
        have z1 := hb16.frozen 1
        have HS6 := Lib.hid (RMk.step HT1.out HR.out.put HP5.out N5.out.1 HO8.out N5.out.2.2.1 N5.out.2.2.2.1 N5.out.2.2.2.2.1 N5.out.2.2.2.2.2.1 N5.out.2.2.2.2.2.2 ho6 hg6)
        clear ho6 hg6 hb16 d1
        go_wp2_with fail
        go_roundw
        case rel => exact ⟨j + 1, _, _, _, _, _, by omega, by go_num, HS6⟩
        case measure => simp [intOf]; omega
    · obtain rfl : j = n := by omega
      have hrr : RMk w wr ts ts.length (.slice An ps.length cn) ps R (.slice Ar rs.length cr) rs := by rw [HN.out]; exact HR.out
      have HD := Lib.hid (hrr.done HS.out)
      have m0 := HR.out.b1.cell 0
      have m1 := HR.out.b1.cell 1
      have z0 := HR.out.b0.frozen 0
      have z1 := HR.out.b0.frozen 1
      have y0 := HR.out.b0.cell 0
      have y1 := HR.out.b0.cell 1
      simp at m0 m1 y0 y1
      have HXE : Hid (Blk ((wr.setCell ⟨w.heap.size, 0, none⟩ (.slice An ps.length cn)).setCell ⟨w.heap.size, 1, none⟩ (.slice Ar rs.length cr)) w.heap.size 29 #[.slice An ps.length cn, .slice Ar rs.length cr]) := (HR.out.b0.set_ 0 _).set_ 1 _
      have x0 := HXE.out.cell 0
      have x1 := HXE.out.cell 1
      simp at x0 x1
      clear hrr
      go_wp2_with fail
      refine bodyPost_ret (v := .agg #[.slice An ps.length cn, .slice Ar rs.length cr]) (by simp [results, Tryd.results14, go_sem, x0, x1]) rfl ?_
      exact HD.out
end Go.Proofs.YtdabmjcpiblofaaDoor
