/-
  Packs, plain: a pack has as many nodes as there are different subtrees. What Make gives, plain; lists of trees that can be read; a pack in the making and its roots. No condition.
-/
import Derived.Test.YtdabmjcpiblofaaDoorPkE
import Derived.Test.YtdabmjcpiblofaaDoorPkK
import Derived.Test.YtdabmjcpiblofaaDoorPkG
namespace Go.Proofs.YtdabmjcpiblofaaDoor
open Go.RowKit Go.Maps
set_option linter.unusedVariables false

mutual
def T.subs : T → List T
  | .node k s ld ks => .node k s ld ks :: T.subsL ks
def T.subsL : List T → List T
  | [] => []
  | t :: ts => T.subs t ++ T.subsL ts
end
theorem subs_eq (t : T) : t.subs = t :: T.subsL t.kids := by
  cases t with
  | node k s ld ks => rw [T.subs]; rfl
theorem mem_subsL {x : T} : ∀ {ts : List T}, x ∈ T.subsL ts ↔ ∃ t ∈ ts, x ∈ t.subs
  | [] => by rw [T.subsL]; simp
  | t :: ts => by
    rw [T.subsL, List.mem_append, mem_subsL (ts := ts)]
    constructor
    · rintro (h | ⟨u, hu, h⟩)
      · exact ⟨t, List.mem_cons_self, h⟩
      · exact ⟨u, List.mem_cons_of_mem _ hu, h⟩
    · rintro ⟨u, hu, h⟩
      rcases List.mem_cons.1 hu with rfl | hu
      · exact .inl h
      · exact .inr ⟨u, hu, h⟩
theorem subsL_append (a b : List T) : T.subsL (a ++ b) = T.subsL a ++ T.subsL b := by
  induction a with
  | nil => rw [List.nil_append, T.subsL, List.nil_append]
  | cons x xs ih => rw [List.cons_append, T.subsL, T.subsL, ih, List.append_assoc]
theorem self_subs (t : T) : t ∈ t.subs := by rw [subs_eq]; exact List.mem_cons_self
mutual
theorem T.put_mem : ∀ (t : T) (l : List PN), formN l → l.Nodup → ∀ i, l.length ≤ i → i < (T.put t l).1.length → trA (T.put t l).1 i ∈ t.subs
  | .node k s ld ks, l, hf, hn, i, h0, h1 => by
    obtain ⟨p1, p2, p3, p4, p5⟩ := T.puts_spec ks l hf hn
    obtain ⟨g1, g2, g3, g4⟩ := put_inv_new (x := (k, s, ld, (T.puts ks l).2)) p2 p4 p3
    obtain ⟨-, -, -, -, hself⟩ := T.put_spec (.node k s ld ks) l hf hn
    rw [T.put] at h1 hself ⊢
    have h1' : i < (putN (T.puts ks l).1 (k, s, ld, (T.puts ks l).2)).1.length := h1
    show trA (putN (T.puts ks l).1 (k, s, ld, (T.puts ks l).2)).1 i ∈ _
    rcases Nat.lt_or_ge i (T.puts ks l).1.length with hi | hi
    · rw [trA_pre g1 hi, T.subs]
      exact List.mem_cons_of_mem _ (T.puts_mem ks l hf hn i h0 hi)
    · have he : i = (putN (T.puts ks l).1 (k, s, ld, (T.puts ks l).2)).2 := by
        revert h1'
        unfold putN
        split
        · intro h
          have h' : i < (T.puts ks l).1.length := h
          omega
        · intro h; simp at h; show i = (T.puts ks l).1.length; omega
      have h2 : trA (putN (T.puts ks l).1 (k, s, ld, (T.puts ks l).2)).1 (putN (T.puts ks l).1 (k, s, ld, (T.puts ks l).2)).2 = .node k s ld ks := hself
      rw [he, h2]
      exact self_subs _
theorem T.puts_mem : ∀ (ts : List T) (l : List PN), formN l → l.Nodup → ∀ i, l.length ≤ i → i < (T.puts ts l).1.length → trA (T.puts ts l).1 i ∈ T.subsL ts
  | [], l, hf, hn, i, h0, h1 => by
    rw [T.puts] at h1
    have : i < l.length := h1
    omega
  | t :: ts, l, hf, hn, i, h0, h1 => by
    obtain ⟨p1, p2, p3, p4, p5⟩ := T.put_spec t l hf hn
    obtain ⟨g1, -⟩ := T.puts_spec ts (T.put t l).1 p2 p3
    rw [T.puts] at h1 ⊢
    have h1' : i < (T.puts ts (T.put t l).1).1.length := h1
    show trA (T.puts ts (T.put t l).1).1 i ∈ _
    rw [T.subsL, List.mem_append]
    rcases Nat.lt_or_ge i (T.put t l).1.length with hi | hi
    · rw [trA_pre g1 hi]
      exact .inl (T.put_mem t l hf hn i h0 hi)
    · exact .inr (T.puts_mem ts (T.put t l).1 p2 p3 i hi h1')
end
/-- subtrees of nodes' trees are nodes' trees -/
theorem trA_closed {ns : List PN} (hf : formN ns) : ∀ (i : Nat), i < ns.length → ∀ s ∈ (trA ns i).subs, ∃ j, j < ns.length ∧ trA ns j = s := by
  intro i
  induction i using Nat.strongRecOn with
  | _ i ih =>
    intro hi s hs
    have hx := List.getElem?_eq_getElem hi
    have he := trA_at hf hx
    rw [subs_eq] at hs
    rcases List.mem_cons.1 hs with rfl | hs
    · exact ⟨i, hi, rfl⟩
    · rw [he] at hs
      obtain ⟨t, ht, hs⟩ := mem_subsL.1 hs
      obtain ⟨k, hk, rfl⟩ := List.mem_map.1 ht
      have hk' := hf i _ hx k hk
      exact ih k.toNat (by omega) (by omega) s hs
/-- no two nodes have the same tree -/
theorem trA_inj {ns : List PN} (hf : formN ns) (hn : ns.Nodup) : ∀ (i j : Nat), i < ns.length → j < ns.length → trA ns i = trA ns j → i = j := by
  intro i
  induction i using Nat.strongRecOn with
  | _ i ih =>
    intro j hi hj h
    have hx := List.getElem?_eq_getElem hi
    have hy := List.getElem?_eq_getElem hj
    rw [trA_at hf hx, trA_at hf hy] at h
    injection h with h1 h2 h3 h4
    have hlen := congrArg List.length h4
    simp only [List.length_map] at hlen
    have hk : ns[i].2.2.2 = ns[j].2.2.2 := by
      apply List.ext_getElem hlen
      intro n q1 q2
      have e : ((ns[i].2.2.2).map fun k => trA ns k.toNat)[n]? = ((ns[j].2.2.2).map fun k => trA ns k.toNat)[n]? := by rw [h4]
      rw [List.getElem?_map, List.getElem?_map, List.getElem?_eq_getElem q1, List.getElem?_eq_getElem q2] at e
      simp only [Option.map_some, Option.some.injEq] at e
      have b1 := hf i _ hx _ (List.getElem_mem q1)
      have b2 := hf j _ hy _ (List.getElem_mem q2)
      have := ih _ (by omega) _ (by omega) (by omega) e
      omega
    have : ns[i] = ns[j] := by
      apply Prod.ext h1
      apply Prod.ext h2
      exact Prod.ext h3 hk
    rcases Nat.lt_trichotomy i j with hlt | rfl | hlt
    · rw [List.nodup_iff_pairwise_ne, List.pairwise_iff_getElem] at hn
      exact absurd this (hn i j hi hj hlt)
    · rfl
    · rw [List.nodup_iff_pairwise_ne, List.pairwise_iff_getElem] at hn
      exact absurd this.symm (hn j i hj hi hlt)

open Classical in
/-- each once, in the order in which they come -/
noncomputable def ded (l : List T) : List T := l.foldl (fun acc x => if x ∈ acc then acc else acc ++ [x]) []
open Classical in
theorem ded_snoc (l : List T) (x : T) : ded (l ++ [x]) = if x ∈ ded l then ded l else ded l ++ [x] := by unfold ded; rw [List.foldl_append]; rfl
theorem ded_mem (l : List T) : ∀ x, x ∈ ded l ↔ x ∈ l := by
  refine snoc_ind (P := fun l => ∀ x, x ∈ ded l ↔ x ∈ l) (fun x => by simp [ded]) (fun l y h x => ?_) l
  rw [ded_snoc]
  split
  · rename_i hy
    rw [h x, List.mem_append, List.mem_singleton]
    exact ⟨fun h' => .inl h', fun h' => h'.elim id (fun e => by subst e; exact (h _).1 hy)⟩
  · rw [List.mem_append, List.mem_append, h x]
theorem ded_nodup (l : List T) : (ded l).Nodup := by
  refine snoc_ind (P := fun l => (ded l).Nodup) (by simp [ded]) (fun l y h => ?_) l
  rw [ded_snoc]
  split
  · exact h
  · rename_i hy
    rw [List.nodup_append]
    refine ⟨h, by simp, fun a ha b hb => ?_⟩
    simp at hb
    subst hb
    exact fun e => hy (e ▸ ha)
theorem ded_le (l : List T) : (ded l).length ≤ l.length := by
  refine snoc_ind (P := fun l => (ded l).length ≤ l.length) (by simp [ded]) (fun l y h => ?_) l
  rw [ded_snoc]
  split
  · simp; omega
  · simp; omega
open Classical in
theorem nodup_le {α : Type} : ∀ {a b : List α}, a.Nodup → (∀ x ∈ a, x ∈ b) → a.length ≤ b.length
  | [], b, _, _ => Nat.zero_le _
  | x :: xs, b, hn, h => by
    have hx := h x List.mem_cons_self
    rw [List.nodup_cons] at hn
    have h1 := nodup_le (b := b.erase x) hn.2 (fun y hy => by
      have hne : y ≠ x := fun e => hn.1 (by rw [← e]; exact hy)
      rw [List.mem_erase_of_ne hne]
      exact h y (List.mem_cons_of_mem _ hy))
    have h2 := List.length_erase_of_mem hx
    have h3 := List.length_pos_of_mem hx
    simp only [List.length_cons]
    omega
/-- as many nodes as different subtrees -/
theorem puts_least (ts : List T) : (T.puts ts []).1.length = (ded (T.subsL ts)).length := by
  obtain ⟨-, h1, h2, h3, h4⟩ := T.puts_spec ts [] formN_nil List.nodup_nil
  obtain ⟨ns, hns⟩ : ∃ ns, (T.puts ts []).1 = ns := ⟨_, rfl⟩
  have hm := T.puts_mem ts [] formN_nil List.nodup_nil
  rw [hns] at h1 h2 h3 h4 hm ⊢
  have hnd : (trsA ns).Nodup := by
    rw [List.nodup_iff_pairwise_ne, List.pairwise_iff_getElem]
    intro i j hi hj hlt e
    rw [trsA_len] at hi hj
    have e' : trA ns i = trA ns j := by
      unfold trA
      have hi' : i < (trsA ns).length := by rw [trsA_len]; exact hi
      have hj' : j < (trsA ns).length := by rw [trsA_len]; exact hj
      simp [List.getD, List.getElem?_eq_getElem hi', List.getElem?_eq_getElem hj', e]
    have := trA_inj h1 h2 i j hi hj e'
    omega
  have memA : ∀ x, x ∈ trsA ns ↔ ∃ i, i < ns.length ∧ trA ns i = x := fun x => by
    constructor
    · intro hx
      obtain ⟨i, hi, e⟩ := List.getElem_of_mem hx
      refine ⟨i, by rw [← trsA_len]; exact hi, ?_⟩
      unfold trA
      simp [List.getD, List.getElem?_eq_getElem hi, e]
    · rintro ⟨i, hi, rfl⟩
      have hi' : i < (trsA ns).length := by rw [trsA_len]; exact hi
      unfold trA
      simp [List.getD, List.getElem?_eq_getElem hi']
  have iff1 : ∀ x, x ∈ trsA ns ↔ x ∈ T.subsL ts := fun x => by
    rw [memA]
    constructor
    · rintro ⟨i, hi, rfl⟩
      exact hm i (by simp) hi
    · intro hx
      obtain ⟨t, ht, hx⟩ := mem_subsL.1 hx
      rw [← h4] at ht
      obtain ⟨k, hk, rfl⟩ := List.mem_map.1 ht
      have := h3 k hk
      exact trA_closed h1 _ (by omega) x hx
  rw [← trsA_len]
  apply Nat.le_antisymm
  · exact nodup_le hnd (fun x hx => (ded_mem _ x).2 ((iff1 x).1 hx))
  · exact nodup_le (ded_nodup _) (fun x hx => (iff1 x).2 ((ded_mem _ x).1 hx))
end Go.Proofs.YtdabmjcpiblofaaDoor

namespace Go.Proofs.YtdabmjcpiblofaaDoor
open Go.RowKit Go.Maps
set_option linter.unusedVariables false

def goodL (t : T) : Prop := i64 t.kind ∧ t.text.size ≤ 9223372036854775807 ∧ (leadsK t.leads).length ≤ 140737488355328 ∧ t.leads.length * 16 ≤ 140737488351232
theorem subs_plain (t : TX) : t.plain.subs = t.plain :: T.subsL (t.kids.map TX.plain) := by
  rw [subs_eq]
  congr 1
  rw [TX.plain_eq]; rfl
theorem good_tree {w : World} {B : Nat} (t : TX) : Tr w B t → Fine t → ∀ u ∈ t.plain.subs, goodL u := by
  induction t using TX.ind with
  | h t ih =>
    intro h hf u hu
    rw [subs_plain] at hu
    rcases List.mem_cons.1 hu with rfl | hu
    · rw [TX.plain_eq]
      exact ⟨h.kr, hf.text, hf.leads, h.lbs⟩
    · obtain ⟨s, hs, hu⟩ := mem_subsL.1 hu
      obtain ⟨k, hk, rfl⟩ := List.mem_map.1 hs
      exact ih k hk (h.sub k hk) (hf.sub k hk) u hu
theorem size_mem {t : T} : ∀ {ts : List T}, t ∈ ts → t.size ≤ T.sizes ts
  | x :: xs, h => by
    rw [T.sizes]
    rcases List.mem_cons.1 h with rfl | h
    · omega
    · have := size_mem h; omega
theorem len_sizes : ∀ (ts : List T), ts.length ≤ T.sizes ts
  | [] => by simp
  | t :: ts => by
    have := len_sizes ts
    cases t with
    | node k s l ks => rw [T.sizes, T.size, List.length_cons]; omega
mutual
theorem T.subs_size : ∀ (t : T), ∀ u ∈ t.subs, u.size ≤ t.size
  | .node k s l ks, u, hu => by
    rw [T.subs] at hu
    rcases List.mem_cons.1 hu with rfl | hu
    · exact Nat.le_refl _
    · have := T.subsL_size ks u hu
      rw [T.size]; omega
theorem T.subsL_size : ∀ (ts : List T), ∀ u ∈ T.subsL ts, u.size ≤ T.sizes ts
  | [], u, hu => by rw [T.subsL] at hu; cases hu
  | t :: ts, u, hu => by
    rw [T.subsL, List.mem_append] at hu
    rw [T.sizes]
    rcases hu with hu | hu
    · have := T.subs_size t u hu; omega
    · have := T.subsL_size ts u hu; omega
end
theorem puts_good {ts : List T} (hg : ∀ u ∈ T.subsL ts, goodL u) (hs : T.sizes ts ≤ 1000000) : ∀ x ∈ (T.puts ts []).1, goodL (.node x.1 x.2.1 x.2.2.1 []) ∧ x.2.2.2.length ≤ 1000000 ∧ ∀ k ∈ x.2.2.2, i64 k := by
  intro x hx
  obtain ⟨-, h1, h2, -, -⟩ := T.puts_spec ts [] formN_nil List.nodup_nil
  have h3 := T.puts_mem ts [] formN_nil List.nodup_nil
  have h4 := (T.puts_size ts []).2
  simp only [List.length_nil, Nat.zero_add] at h4
  obtain ⟨i, hi, e⟩ := List.getElem_of_mem hx
  have hxi : (T.puts ts []).1[i]? = some x := by rw [List.getElem?_eq_getElem hi, e]
  have hm := h3 i (by simp) hi
  have ht := trA_at h1 hxi
  have hsz := T.subsL_size ts _ hm
  have hgd := hg _ hm
  rw [ht] at hsz hgd
  refine ⟨hgd, ?_, fun k hk => ?_⟩
  · rw [T.size] at hsz
    have := len_sizes (x.2.2.2.map fun k => trA (T.puts ts []).1 k.toNat)
    rw [List.length_map] at this
    omega
  · have := h1 i x hxi k hk
    exact ⟨by omega, by omega⟩
/-- a list of trees that can be read -/
def LT (w : World) (A : Option Addr) (ts : List TX) : Prop := Reads w w.heap.size 4 A ts.length (ts.flatMap TX.cells) ∧ ∀ t ∈ ts, Tr w w.heap.size t ∧ Fine t
section
variable {w w' : World} {A : Option Addr} {ts : List TX}
theorem LT.up (h : LT w A ts) (hb : Below w.heap.size w w') : LT w' A ts := ⟨(h.1.below hb).more hb.size, fun t ht => ⟨(h.2 t ht).1.up (Nat.le_refl _) hb, (h.2 t ht).2⟩⟩
theorem TL.lt {lo base c : Nat} (h : TL w lo base (.slice A ts.length c) ts) : LT w A ts := ⟨Reads.of_own h.row, fun t ht => ⟨(h.kid t ht).1, (h.kid t ht).2.2⟩⟩
theorem LT.good (h : LT w A ts) : ∀ u ∈ T.subsL (ts.map TX.plain), goodL u := fun u hu => by
  obtain ⟨s, hs, hu⟩ := mem_subsL.1 hu
  obtain ⟨k, hk, rfl⟩ := List.mem_map.1 hs
  exact good_tree k (h.2 k hk).1 (h.2 k hk).2 u hu
end
/-- a pack in new memory -/
def MakePost (w : World) (ns : List PN) (rs : List Int) (e : Ending) (w' : World) : Prop := ∃ v : PkV, e = .returned v.val ∧ v.ns = ns ∧ v.rs = rs ∧ v.ok w' w'.heap.size ∧ Below w.heap.size w w'
section
variable {w w' : World} {b0 pb bm : Nat} {nv rv : Value} {ps : List PX} {D : DataW Unit} {R : Nat → Prop}
theorem Pk.pb_bm (h : Pk w b0 pb bm nv rv ps D R) : pb ≠ bm := by
  rintro rfl
  have h1 := h.box
  obtain ⟨es, clock, hb, -⟩ := h.map
  unfold Blk at h1
  rw [hb] at h1
  cases h1
theorem own_map {base size n : Nat} {e : TypeId} {v : Value} {xs : List Value} {m : Nat} (h : Pk w b0 pb bm nv rv ps D R) (ho : w.ownsRow base e size v n xs) : v.ownBlock ≠ some bm := fun hx => by
  rcases ho.2 with ⟨rfl, -⟩ | ⟨g, cap, cur, rfl, -, hh, -⟩
  · simp [Value.ownBlock] at hx
  · have e1 : g = bm := by simpa [Value.ownBlock] using hx
    subst e1
    obtain ⟨es, clock, hb, -⟩ := h.map
    rw [hh] at hb
    cases hb
theorem Pk.setRoot (h : Pk w b0 pb bm nv rv ps D R) (u : Value) : Pk (w.setCell ⟨pb, 1, none⟩ u) b0 pb bm nv u ps D R := by
  have hc : Chg w (w.setCell ⟨pb, 1, none⟩ u) (fun i => i = pb) := (Chg.refl w (fun i => i = pb)).setCell (p := ⟨pb, 1, none⟩) (.inl rfl) u
  have hn : nv.ownBlock ≠ some pb := own_blk_ne h.nodes h.box (by decide)
  refine ⟨h.box.set_ 1 u, owns_chg h.nodes hc (fun g hg e => hn (by rw [hg, e])), ?_, h.know, fun p hp => (h.rows p hp).chg hc (fun i hi e => (h.apart i hi).1 (.inl e)), fun i hi => ?_, h.pb0, h.bm0⟩
  · obtain ⟨es, clock, hb, F, hs, hD⟩ := h.map
    exact ⟨es, clock, (hc.block bm h.map.lt (fun e => h.pb_bm e.symm)).trans hb, F, hs, hD⟩
  · obtain ⟨a, b, c⟩ := h.apart i hi
    exact ⟨a, b, by have := hc.size; omega⟩
end
/-- what Make knows between two trees -/
structure MkRel (w wr : World) (ts : List TX) (pb bm j : Nat) (nv rv : Value) (ps : List PX) (D : DataW Unit) (R : Nat → Prop) (rs : List Int) : Prop where
  pk : Pk wr (w.heap.size + 1) pb bm nv rv ps D R
  roots : wr.ownsRow (w.heap.size + 1) 3 1 rv rs.length (rs.map (Value.int .i64))
  rvR : ∀ g, rv.ownBlock = some g → ¬ R g
  put : T.puts ((ts.take j).map TX.plain) [] = (ps.map PX.plain, rs)
  bel : Below w.heap.size w wr
  box : Blk wr w.heap.size 29 #[.slice none 0 0, .slice none 0 0]
theorem MkRel.below {w wr w' : World} {ts : List TX} {pb bm j : Nat} {nv rv : Value} {ps : List PX} {D : DataW Unit} {R : Nat → Prop} {rs : List Int} (h : MkRel w wr ts pb bm j nv rv ps D R rs) (hb : Below wr.heap.size wr w') : MkRel w w' ts pb bm j nv rv ps D R rs :=
  ⟨h.pk.below hb, owns_below h.roots hb (own_lt h.roots), h.rvR, h.put, h.bel.trans (hb.mono h.bel.size), h.box.below hb h.box.lt⟩
theorem MkRel.len {w wr : World} {ts : List TX} {pb bm j : Nat} {nv rv : Value} {ps : List PX} {D : DataW Unit} {R : Nat → Prop} {rs : List Int} (h : MkRel w wr ts pb bm j nv rv ps D R rs) (hj : j ≤ ts.length) : rs.length = j := by
  have h1 := puts_len ((ts.take j).map TX.plain) []
  rw [h.put] at h1
  simpa [List.length_take, Nat.min_eq_left hj] using h1
theorem MkRel.step {w wr w5 w6 : World} {ts : List TX} {pb bm j k : Nat} {nv rv nv5 rv6 : Value} {ps ps5 : List PX} {D D5 : DataW Unit} {R R5 : Nat → Prop} {rs : List Int} {t : TX} (h : MkRel w wr ts pb bm j nv rv ps D R rs) (ht : ts[j]? = some t)
    (hp : T.put t.plain (ps.map PX.plain) = (ps5.map PX.plain, k)) (hpk : Pk w5 (w.heap.size + 1) pb bm nv5 rv ps5 D5 R5) (hc : Chg wr w5 (PkM pb bm nv)) (hR : ∀ i, R5 i → R i ∨ wr.heap.size ≤ i) (hN : ∀ g, nv5.ownBlock = some g → nv.ownBlock = some g ∨ wr.heap.size ≤ g) (o : Obj)
    (ho : w6.ownsRow (w.heap.size + 1) 3 1 rv6 (rs.length + 1) (rs.map (Value.int .i64) ++ [.int .i64 (k : Int)])) (hg : Grows (w5.alloc o) w6 rv rv6) :
    MkRel w (w6.setCell ⟨pb, 1, none⟩ rv6) ts pb bm (j + 1) nv5 rv6 ps5 D5 R5 (rs ++ [(k : Int)]) := by
  have hz5 := hc.size
  have hz := h.bel.size
  have hsz : (w5.alloc o).heap.size = w5.heap.size + 1 := by simp
  have hgs := hg.size
  have rlt := own_lt h.roots
  have rge := own_from h.roots
  have r1 : rv.ownBlock ≠ some pb := own_blk_ne h.roots h.pk.box (by decide)
  have r2 : rv.ownBlock ≠ some bm := own_map (m := 0) h.pk h.roots
  have r3 : ∀ g, rv.ownBlock = some g → nv.ownBlock ≠ some g := own_types h.roots h.pk.nodes (by decide)
  have r5 : ∀ g, rv.ownBlock = some g → nv5.ownBlock ≠ some g := fun g hg' hx => by
    rcases hN g hx with h1 | h1
    · exact r3 g hg' h1
    · have := rlt g hg'; omega
  have rR5 : ∀ g, rv.ownBlock = some g → ¬ R5 g := fun g hg' hx => by
    rcases hR g hx with h1 | h1
    · exact h.rvR g hg' h1
    · have := rlt g hg'; omega
  have hcg : Chg (w5.alloc o) w6 (fun i => rv.ownBlock = some i) := Chg.of_grown hg.grown (fun g e => e)
  have hpk6 : Pk w6 (w.heap.size + 1) pb bm nv5 rv ps5 D5 R5 := (hpk.alloc o).chg hcg (fun i hi => ⟨fun hx => by
    rcases hx with rfl | rfl | hx
    · exact r1 hi
    · exact r2 hi
    · exact r5 i hi hx, rR5 i hi⟩)
  have hall : Chg wr (w6.setCell ⟨pb, 1, none⟩ rv6) (fun i => PkM pb bm nv i ∨ rv.ownBlock = some i) := by
    refine Chg.setCell ?_ (.inl (.inl (.inl rfl))) _
    exact (((hc.mono (fun i hi => .inl hi)).alloc o).trans hcg (fun i _ e => .inr e))
  have hMge : ∀ i, PkM pb bm nv i ∨ rv.ownBlock = some i → w.heap.size + 1 ≤ i := fun i hi => by
    rcases hi with hi | hi
    · exact PkM.ge h.pk hi
    · exact rge i hi
  have h6pb : rv6.ownBlock ≠ some pb := fun e => by
    rcases hg.own pb e with h1 | h1
    · exact r1 h1
    · have := hpk.lt_pb; omega
  refine ⟨hpk6.setRoot rv6, ?_, ?_, ?_, h.bel.trans (hall.below hz (fun i hi => by have := hMge i hi; omega)), h.box.chg hall (fun x => by have := hMge _ x; omega)⟩
  · rw [List.length_append, List.map_append]
    have hc2 : Chg w6 (w6.setCell ⟨pb, 1, none⟩ rv6) (fun i => i = pb) := (Chg.refl w6 (fun i => i = pb)).setCell (p := ⟨pb, 1, none⟩) (.inl rfl) rv6
    exact owns_chg ho hc2 (fun g hg' e => h6pb (by rw [hg', e]))
  · intro g hg' hx
    rcases hg.own g hg' with h1 | h1
    · exact rR5 g h1 hx
    · have := (hpk.apart g hx).2.2; omega
  · rw [take_snoc' ht, List.map_append, List.map_cons, List.map_nil, puts_snoc, h.put, hp]
end Go.Proofs.YtdabmjcpiblofaaDoor
