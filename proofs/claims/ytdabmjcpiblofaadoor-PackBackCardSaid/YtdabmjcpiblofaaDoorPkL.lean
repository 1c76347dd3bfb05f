/-
  What Make gives, plain; lists of trees that can be read; a pack in the making and its roots. No condition.
-/
import Derived.Test.YtdabmjcpiblofaaDoorPkK
import Derived.Test.YtdabmjcpiblofaaDoorPkQ
import Derived.Test.YtdabmjcpiblofaaDoorPkG
namespace Go.Proofs.YtdabmjcpiblofaaDoor
open Go.RowKit Go.Maps
set_option linter.unusedVariables false

def goodL (t : T) : Prop := i64 t.kind ∧ t.text.size ≤ 9223372036854775807 ∧ (leadsK t.leads).length ≤ 140737488355328 ∧ t.leads.length * 16 ≤ 140737488351232
theorem subs_plain (t : TX) : t.plain.subs = t.plain :: T.subsL (t.kids.map TX.plain) := by
  rw [subs_eq]
  congr 1
  rw [TX.plain_eq]; rfl
theorem good_tree {w : World} {B : Nat} (t : TX) : Tr w B t → Fine t → ∀ u ∈ t.plain.subs, goodL u := by
  induction t using TX.ind with
  | h t ih =>
    intro h hf u hu
    rw [subs_plain] at hu
    rcases List.mem_cons.1 hu with rfl | hu
    · rw [TX.plain_eq]
      exact ⟨h.kr, hf.text, hf.leads, h.lbs⟩
    · obtain ⟨s, hs, hu⟩ := mem_subsL.1 hu
      obtain ⟨k, hk, rfl⟩ := List.mem_map.1 hs
      exact ih k hk (h.sub k hk) (hf.sub k hk) u hu
theorem size_mem {t : T} : ∀ {ts : List T}, t ∈ ts → t.size ≤ T.sizes ts
  | x :: xs, h => by
    rw [T.sizes]
    rcases List.mem_cons.1 h with rfl | h
    · omega
    · have := size_mem h; omega
theorem len_sizes : ∀ (ts : List T), ts.length ≤ T.sizes ts
  | [] => by simp
  | t :: ts => by
    have := len_sizes ts
    cases t with
    | node k s l ks => rw [T.sizes, T.size, List.length_cons]; omega
mutual
theorem T.subs_size : ∀ (t : T), ∀ u ∈ t.subs, u.size ≤ t.size
  | .node k s l ks, u, hu => by
    rw [T.subs] at hu
    rcases List.mem_cons.1 hu with rfl | hu
    · exact Nat.le_refl _
    · have := T.subsL_size ks u hu
      rw [T.size]; omega
theorem T.subsL_size : ∀ (ts : List T), ∀ u ∈ T.subsL ts, u.size ≤ T.sizes ts
  | [], u, hu => by rw [T.subsL] at hu; cases hu
  | t :: ts, u, hu => by
    rw [T.subsL, List.mem_append] at hu
    rw [T.sizes]
    rcases hu with hu | hu
    · have := T.subs_size t u hu; omega
    · have := T.subsL_size ts u hu; omega
end
theorem puts_good {ts : List T} (hg : ∀ u ∈ T.subsL ts, goodL u) (hs : T.sizes ts ≤ 1000000) : ∀ x ∈ (T.puts ts []).1, goodL (.node x.1 x.2.1 x.2.2.1 []) ∧ x.2.2.2.length ≤ 1000000 ∧ ∀ k ∈ x.2.2.2, i64 k := by
  intro x hx
  obtain ⟨-, h1, h2, -, -⟩ := T.puts_spec ts [] formN_nil List.nodup_nil
  have h3 := T.puts_mem ts [] formN_nil List.nodup_nil
  have h4 := (T.puts_size ts []).2
  simp only [List.length_nil, Nat.zero_add] at h4
  obtain ⟨i, hi, e⟩ := List.getElem_of_mem hx
  have hxi : (T.puts ts []).1[i]? = some x := by rw [List.getElem?_eq_getElem hi, e]
  have hm := h3 i (by simp) hi
  have ht := trA_at h1 hxi
  have hsz := T.subsL_size ts _ hm
  have hgd := hg _ hm
  rw [ht] at hsz hgd
  refine ⟨hgd, ?_, fun k hk => ?_⟩
  · rw [T.size] at hsz
    have := len_sizes (x.2.2.2.map fun k => trA (T.puts ts []).1 k.toNat)
    rw [List.length_map] at this
    omega
  · have := h1 i x hxi k hk
    exact ⟨by omega, by omega⟩
/-- a list of trees that can be read -/
def LT (w : World) (A : Option Addr) (ts : List TX) : Prop := Reads w w.heap.size 4 A ts.length (ts.flatMap TX.cells) ∧ ∀ t ∈ ts, Tr w w.heap.size t ∧ Fine t
section
variable {w w' : World} {A : Option Addr} {ts : List TX}
theorem LT.up (h : LT w A ts) (hb : Below w.heap.size w w') : LT w' A ts := ⟨(h.1.below hb).more hb.size, fun t ht => ⟨(h.2 t ht).1.up (Nat.le_refl _) hb, (h.2 t ht).2⟩⟩
theorem TL.lt {lo base c : Nat} (h : TL w lo base (.slice A ts.length c) ts) : LT w A ts := ⟨Reads.of_own h.row, fun t ht => ⟨(h.kid t ht).1, (h.kid t ht).2.2⟩⟩
theorem LT.good (h : LT w A ts) : ∀ u ∈ T.subsL (ts.map TX.plain), goodL u := fun u hu => by
  obtain ⟨s, hs, hu⟩ := mem_subsL.1 hu
  obtain ⟨k, hk, rfl⟩ := List.mem_map.1 hs
  exact good_tree k (h.2 k hk).1 (h.2 k hk).2 u hu
end
/-- a pack in new memory -/
def MakePost (w : World) (ns : List PN) (rs : List Int) (e : Ending) (w' : World) : Prop := ∃ v : PkV, e = .returned v.val ∧ v.ns = ns ∧ v.rs = rs ∧ v.ok w' w'.heap.size ∧ Below w.heap.size w w'
section
variable {w w' : World} {b0 pb bm : Nat} {nv rv : Value} {ps : List PX} {D : DataW Unit} {R : Nat → Prop}
theorem Pk.pb_bm (h : Pk w b0 pb bm nv rv ps D R) : pb ≠ bm := by
  rintro rfl
  have h1 := h.box
  obtain ⟨es, clock, hb, -⟩ := h.map
  unfold Blk at h1
  rw [hb] at h1
  cases h1
theorem own_map {base size n : Nat} {e : TypeId} {v : Value} {xs : List Value} {m : Nat} (h : Pk w b0 pb bm nv rv ps D R) (ho : w.ownsRow base e size v n xs) : v.ownBlock ≠ some bm := fun hx => by
  rcases ho.2 with ⟨rfl, -⟩ | ⟨g, cap, cur, rfl, -, hh, -⟩
  · simp [Value.ownBlock] at hx
  · have e1 : g = bm := by simpa [Value.ownBlock] using hx
    subst e1
    obtain ⟨es, clock, hb, -⟩ := h.map
    rw [hh] at hb
    cases hb
theorem Pk.setRoot (h : Pk w b0 pb bm nv rv ps D R) (u : Value) : Pk (w.setCell ⟨pb, 1, none⟩ u) b0 pb bm nv u ps D R := by
  have hc : Chg w (w.setCell ⟨pb, 1, none⟩ u) (fun i => i = pb) := (Chg.refl w (fun i => i = pb)).setCell (p := ⟨pb, 1, none⟩) (.inl rfl) u
  have hn : nv.ownBlock ≠ some pb := own_blk_ne h.nodes h.box (by decide)
  refine ⟨h.box.set_ 1 u, owns_chg h.nodes hc (fun g hg e => hn (by rw [hg, e])), ?_, h.know, fun p hp => (h.rows p hp).chg hc (fun i hi e => (h.apart i hi).1 (.inl e)), fun i hi => ?_, h.pb0, h.bm0⟩
  · obtain ⟨es, clock, hb, F, hs, hD⟩ := h.map
    exact ⟨es, clock, (hc.block bm h.map.lt (fun e => h.pb_bm e.symm)).trans hb, F, hs, hD⟩
  · obtain ⟨a, b, c⟩ := h.apart i hi
    exact ⟨a, b, by have := hc.size; omega⟩
end
/-- what Make knows between two trees -/
structure MkRel (w wr : World) (ts : List TX) (pb bm j : Nat) (nv rv : Value) (ps : List PX) (D : DataW Unit) (R : Nat → Prop) (rs : List Int) : Prop where
  pk : Pk wr (w.heap.size + 1) pb bm nv rv ps D R
  roots : wr.ownsRow (w.heap.size + 1) 3 1 rv rs.length (rs.map (Value.int .i64))
  rvR : ∀ g, rv.ownBlock = some g → ¬ R g
  put : T.puts ((ts.take j).map TX.plain) [] = (ps.map PX.plain, rs)
  bel : Below w.heap.size w wr
  box : Blk wr w.heap.size 29 #[.slice none 0 0, .slice none 0 0]
theorem MkRel.below {w wr w' : World} {ts : List TX} {pb bm j : Nat} {nv rv : Value} {ps : List PX} {D : DataW Unit} {R : Nat → Prop} {rs : List Int} (h : MkRel w wr ts pb bm j nv rv ps D R rs) (hb : Below wr.heap.size wr w') : MkRel w w' ts pb bm j nv rv ps D R rs :=
  ⟨h.pk.below hb, owns_below h.roots hb (own_lt h.roots), h.rvR, h.put, h.bel.trans (hb.mono h.bel.size), h.box.below hb h.box.lt⟩
theorem MkRel.len {w wr : World} {ts : List TX} {pb bm j : Nat} {nv rv : Value} {ps : List PX} {D : DataW Unit} {R : Nat → Prop} {rs : List Int} (h : MkRel w wr ts pb bm j nv rv ps D R rs) (hj : j ≤ ts.length) : rs.length = j := by
  have h1 := puts_len ((ts.take j).map TX.plain) []
  rw [h.put] at h1
  simpa [List.length_take, Nat.min_eq_left hj] using h1
theorem MkRel.step {w wr w5 w6 : World} {ts : List TX} {pb bm j k : Nat} {nv rv nv5 rv6 : Value} {ps ps5 : List PX} {D D5 : DataW Unit} {R R5 : Nat → Prop} {rs : List Int} {t : TX} (h : MkRel w wr ts pb bm j nv rv ps D R rs) (ht : ts[j]? = some t)
    (hp : T.put t.plain (ps.map PX.plain) = (ps5.map PX.plain, k)) (hpk : Pk w5 (w.heap.size + 1) pb bm nv5 rv ps5 D5 R5) (hc : Chg wr w5 (PkM pb bm nv)) (hR : ∀ i, R5 i → R i ∨ wr.heap.size ≤ i) (hN : ∀ g, nv5.ownBlock = some g → nv.ownBlock = some g ∨ wr.heap.size ≤ g) (o : Obj)
    (ho : w6.ownsRow (w.heap.size + 1) 3 1 rv6 (rs.length + 1) (rs.map (Value.int .i64) ++ [.int .i64 (k : Int)])) (hg : Grows (w5.alloc o) w6 rv rv6) :
    MkRel w (w6.setCell ⟨pb, 1, none⟩ rv6) ts pb bm (j + 1) nv5 rv6 ps5 D5 R5 (rs ++ [(k : Int)]) := by
  have hz5 := hc.size
  have hz := h.bel.size
  have hsz : (w5.alloc o).heap.size = w5.heap.size + 1 := by simp
  have hgs := hg.size
  have rlt := own_lt h.roots
  have rge := own_from h.roots
  have r1 : rv.ownBlock ≠ some pb := own_blk_ne h.roots h.pk.box (by decide)
  have r2 : rv.ownBlock ≠ some bm := own_map (m := 0) h.pk h.roots
  have r3 : ∀ g, rv.ownBlock = some g → nv.ownBlock ≠ some g := own_types h.roots h.pk.nodes (by decide)
  have r5 : ∀ g, rv.ownBlock = some g → nv5.ownBlock ≠ some g := fun g hg' hx => by
    rcases hN g hx with h1 | h1
    · exact r3 g hg' h1
    · have := rlt g hg'; omega
  have rR5 : ∀ g, rv.ownBlock = some g → ¬ R5 g := fun g hg' hx => by
    rcases hR g hx with h1 | h1
    · exact h.rvR g hg' h1
    · have := rlt g hg'; omega
  have hcg : Chg (w5.alloc o) w6 (fun i => rv.ownBlock = some i) := Chg.of_grown hg.grown (fun g e => e)
  have hpk6 : Pk w6 (w.heap.size + 1) pb bm nv5 rv ps5 D5 R5 := (hpk.alloc o).chg hcg (fun i hi => ⟨fun hx => by
    rcases hx with rfl | rfl | hx
    · exact r1 hi
    · exact r2 hi
    · exact r5 i hi hx, rR5 i hi⟩)
  have hall : Chg wr (w6.setCell ⟨pb, 1, none⟩ rv6) (fun i => PkM pb bm nv i ∨ rv.ownBlock = some i) := by
    refine Chg.setCell ?_ (.inl (.inl (.inl rfl))) _
    exact (((hc.mono (fun i hi => .inl hi)).alloc o).trans hcg (fun i _ e => .inr e))
  have hMge : ∀ i, PkM pb bm nv i ∨ rv.ownBlock = some i → w.heap.size + 1 ≤ i := fun i hi => by
    rcases hi with hi | hi
    · exact PkM.ge h.pk hi
    · exact rge i hi
  have h6pb : rv6.ownBlock ≠ some pb := fun e => by
    rcases hg.own pb e with h1 | h1
    · exact r1 h1
    · have := hpk.lt_pb; omega
  refine ⟨hpk6.setRoot rv6, ?_, ?_, ?_, h.bel.trans (hall.below hz (fun i hi => by have := hMge i hi; omega)), h.box.chg hall (fun x => by have := hMge _ x; omega)⟩
  · rw [List.length_append, List.map_append]
    have hc2 : Chg w6 (w6.setCell ⟨pb, 1, none⟩ rv6) (fun i => i = pb) := (Chg.refl w6 (fun i => i = pb)).setCell (p := ⟨pb, 1, none⟩) (.inl rfl) rv6
    exact owns_chg ho hc2 (fun g hg' e => h6pb (by rw [hg', e]))
  · intro g hg' hx
    rcases hg.own g hg' with h1 | h1
    · exact rR5 g h1 hx
    · have := (hpk.apart g hx).2.2; omega
  · rw [take_snoc' ht, List.map_append, List.map_cons, List.map_nil, puts_snoc, h.put, hp]
end Go.Proofs.YtdabmjcpiblofaaDoor
