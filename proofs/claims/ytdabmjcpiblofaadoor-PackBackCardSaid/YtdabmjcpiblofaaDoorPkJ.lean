/-
  unpack: the tree of a node, in new memory. No condition.
-/
import Derived.Test.YtdabmjcpiblofaaDoorPkI
import Derived.Test.YtdabmjcpiblofaaDoorPkU
namespace Go.Proofs.YtdabmjcpiblofaaDoor
open Go.RowKit
set_option linter.unusedVariables false

def zeroT : Array Value := #[.int .i64 0, .string ⟨#[]⟩, .slice none 0 0, .slice none 0 0]
/-- behind the first statement -/
structure UB (w wr : World) (p : PX) (g : Nat) (A : Option Addr) (c : Nat) : Prop where
  bel : Below w.heap.size w wr
  b0 : Blk wr w.heap.size 42 zeroT
  b1 : Blk wr g 42 #[.int .i64 p.kind, .string p.text, .slice A p.leads.length c, .slice none 0 0]
  lead : RowIn wr (fun b => w.heap.size < b ∧ b ≠ g) A p.leads.length (p.leads.map Value.string)
  gg : w.heap.size < g
structure UR (w wr : World) (v : PkV) (p : PX) (g HB : Nat) (A : Option Addr) (c j : Nat) (kv : Value) (rs : List TX) : Prop where
  bel : Below w.heap.size w wr
  b0 : Blk wr w.heap.size 42 zeroT
  b1 : Blk wr g 42 #[.int .i64 p.kind, .string p.text, .slice A p.leads.length c, kv]
  lead : RowIn wr (fun b => w.heap.size ≤ b ∧ b < HB ∧ b ≠ g ∧ b ≠ w.heap.size) A p.leads.length (p.leads.map Value.string)
  gg : w.heap.size < g
  gh : g < HB
  hb : HB ≤ wr.heap.size
  tl : TL wr HB HB kv rs
  len : rs.length = j
  pl : rs.map TX.plain = (p.kids.take j).map fun k => trA v.ns k.toNat
theorem UB.start {w wr : World} {v : PkV} {p : PX} {g c : Nat} {A : Option Addr} (h : UB w wr p g A c) : UR w wr v p g wr.heap.size A c 0 (.slice none 0 0) [] :=
  ⟨h.bel, h.b0, h.b1, h.lead.mono (fun b hb h => ⟨by omega, hb, h.2, by omega⟩), h.gg, h.b1.lt, Nat.le_refl _, TL.nil _ _ _, rfl, by simp⟩
theorem UR.step {w wr w1 w3 : World} {v : PkV} {p : PX} {g HB c j : Nat} {A : Option Addr} {kv v3 : Value} {rs : List TX} {y : Int} {r : TX} (h : UR w wr v p g HB A c j kv rs) (hy : p.kids[j]? = some y) (hb : Below wr.heap.size wr w1) (hp : r.plain = trA v.ns y.toNat) (hr : Tr w1 w1.heap.size r) (hi : InS (wr.heap.size ≤ ·) r) (hf : Fine r) (o : Obj)
    (ho : w3.ownsRow HB 42 4 v3 (j + 1) (rs.flatMap TX.cells ++ r.cells)) (hg : Grows (w1.alloc o) w3 kv v3) : UR w (w3.setCell ⟨g, 3, none⟩ v3) v p g HB A c (j + 1) v3 (rs ++ [r]) := by
  have hz1 := hb.size
  have hz := h.bel.size
  have hhb := h.hb
  have hgg := h.gg
  have hgh := h.gh
  have hbo : Below wr.heap.size wr (w1.alloc o) := hb.alloc hz1 _
  have hvg := own_from h.tl.row
  have hvl := own_lt h.tl.row
  have hgs := hg.size
  have hsz : (w1.alloc o).heap.size = w1.heap.size + 1 := by simp
  have hss : (w3.setCell ⟨g, 3, none⟩ v3).heap.size = w3.heap.size := by simp [World.setCell]
  have hln := h.len
  have hv3 : ∀ b, v3.ownBlock = some b → HB ≤ b := own_from ho
  have ne : ∀ {b : Nat}, b < HB → kv.ownBlock ≠ some b := fun hb' e => by have := hvg _ e; omega
  have hchg : Chg wr (w3.setCell ⟨g, 3, none⟩ v3) (fun i => i = g ∨ kv.ownBlock = some i) :=
    (((Chg.of_new hbo _).trans (Chg.of_grown hg.grown (fun x e => e)) (fun i _ e => .inr e)).setCell (p := ⟨g, 3, none⟩) (.inl (.inl rfl)) v3)
  have htl : TL w3 HB HB v3 (rs ++ [r]) := by
    refine (h.tl.below hb).step hr (hi.mono (fun b hb' => ⟨by omega, fun e => by have := hvl b e; omega⟩)) hf o ?_ hg
    rw [hln]; exact ho
  refine ⟨?_, ?_, ?_, ?_, hgg, hgh, by omega, ?_, by simp [hln], ?_⟩
  · exact h.bel.trans (hchg.below hz (fun i hi => by
      rcases hi with rfl | hi
      · omega
      · have := hvg i hi; omega))
  · exact h.b0.chg hchg (fun x => by
      rcases x with x | x
      · omega
      · exact ne (by omega) x)
  · exact (hg.blk (h.b1.below hbo h.b1.lt) (ne hgh)).set_ 3 v3
  · exact h.lead.chg hchg (fun i hi x => x.elim (fun x => hi.2.2.1 x) (fun x => ne hi.2.1 x))
  · exact htl.chg (M := fun i => i = g) ((Chg.refl _ (fun i => i = g)).setCell (p := ⟨g, 3, none⟩) (.inl rfl) v3) (fun x hx e => by have := hv3 x hx; omega) (fun i hi => .inl (by omega))
  · rw [List.map_append, h.pl, take_snoc' hy]
    simp [hp]
theorem UR.done {w wr : World} {v : PkV} {p : PX} {g HB c : Nat} {A : Option Addr} {kv : Value} {rs : List TX} {i B : Nat} (h : UR w wr v p g HB A c p.kids.length kv rs) (hp : v.ps[i]? = some p) (hf : formN v.ns) (hok : p.ok w B) :
    NewT w (trA v.ns i) (.returned (.agg #[.int .i64 p.kind, .string p.text, .slice A p.leads.length c, kv])) ((((wr.setCell ⟨w.heap.size, 0, none⟩ (.int .i64 p.kind)).setCell ⟨w.heap.size, 1, none⟩ (.string p.text)).setCell ⟨w.heap.size, 2, none⟩ (.slice A p.leads.length c)).setCell ⟨w.heap.size, 3, none⟩ kv) := by
  have hch := put4_chg wr w.heap.size (.int .i64 p.kind) (.string p.text) (.slice A p.leads.length c) kv
  obtain ⟨kA, kc, rfl, hrk, hkA⟩ := reads_of_owns h.tl.row
  have hz := h.bel.size
  have hhb := h.hb
  have hgg := h.gg
  have hgh := h.gh
  have hln := h.len
  have hkl := hok.kl
  have hll := hok.ll
  obtain ⟨r, hr'⟩ : ∃ r : TX, r = .node p.kind p.text A p.leads c kA rs kc := ⟨_, rfl⟩
  have hkids : r.kids = rs := by rw [hr']; rfl
  have hcc : rs.length ≤ kc := by
    rcases h.tl.row.2 with ⟨e, hn⟩ | ⟨g, cap, cur, e, -, -, hnc, -⟩
    · have : rs.length = 0 := by
        injection e with e1 e2 e3
      omega
    · injection e with _ _ e3; omega
  have hins : InS (fun b => w.heap.size < b) r := by
    refine .mk r (fun ad e hn => ?_) (fun ad e hn => ?_) (fun k hk => (h.tl.kid k (hkids ▸ hk)).2.1.mono (fun b hb => by omega))
    · rw [hr'] at e
      have := (hkA ad e).1
      omega
    · rw [hr'] at e hn
      obtain ⟨g', off, e', hb, -, -⟩ := h.lead.2 hn
      have e1 : A = some ad := e
      rw [e'] at e1
      injection e1 with e1
      rw [← e1]
      show w.heap.size < g'
      omega
  have htr : Tr wr wr.heap.size r := by
    refine .mk r ?_ ?_ ?_ ?_ ?_ ?_ (fun k hk => (h.tl.kid k (hkids ▸ hk)).1)
    · rw [hr']; exact hrk
    · rw [hr']; exact h.lead.reads
    · rw [hkids]; omega
    · rw [hkids, hr']; exact hcc
    · rw [hr']; show p.leads.length * 16 ≤ _; omega
    · rw [hr']; exact hok.kind
  refine ⟨r, ?_, ?_, (htr.chgS hins hch (Nat.le_refl _) (fun i hi e => by omega)).more hch.size, hins.mono (fun b hb => by omega), .mk r ?_ ?_ (fun k hk => (h.tl.kid k (hkids ▸ hk)).2.2), h.bel.trans (hch.below hz (fun i hi => by omega))⟩
  · rw [hr']; rfl
  · rw [TX.plain_eq, hkids, h.pl, trA_at hf (v.ns_at hp), List.take_length, hr']; rfl
  · rw [hr']; exact hok.text
  · rw [hr']; exact hok.lk
end Go.Proofs.YtdabmjcpiblofaaDoor
