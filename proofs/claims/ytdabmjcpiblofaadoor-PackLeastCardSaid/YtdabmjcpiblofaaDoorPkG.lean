/-
  packer.node: the walk. No condition.
-/
import Derived.Test.YtdabmjcpiblofaaDoorPkU
import Derived.Test.YtdabmjcpiblofaaDoorPkH
namespace Go.Proofs.YtdabmjcpiblofaaDoor
open Go.RowKit Go.Maps
set_option linter.unusedVariables false

theorem owns_chg {w w' : World} {M : Nat → Prop} {base size n : Nat} {e : TypeId} {v : Value} {xs : List Value} (h : w.ownsRow base e size v n xs) (hc : Chg w w' M) (hM : ∀ g, v.ownBlock = some g → ¬ M g) : w'.ownsRow base e size v n xs := by
  have hlt := own_lt h
  refine ⟨h.1, ?_⟩
  rcases h.2 with h0 | ⟨g, cap, cur, rfl, hb, hh, rest⟩
  · exact .inl h0
  · exact .inr ⟨g, cap, cur, rfl, hb, (hc.block g (hlt g (by simp [Value.ownBlock])) (hM g (by simp [Value.ownBlock]))).trans hh, rest⟩
theorem own_types {w : World} {b b' s s' n n' : Nat} {e e' : TypeId} {v v' : Value} {xs xs' : List Value} (h : w.ownsRow b e s v n xs) (h' : w.ownsRow b' e' s' v' n' xs') (hne : e ≠ e') : ∀ g, v.ownBlock = some g → v'.ownBlock ≠ some g := fun g hg hx => by
  obtain ⟨-, ho⟩ := h
  obtain ⟨-, ho'⟩ := h'
  rcases ho with ⟨rfl, -⟩ | ⟨g1, cap1, cur1, rfl, -, hh1, -⟩
  · simp [Value.ownBlock] at hg
  · have e1 : g1 = g := by simpa [Value.ownBlock] using hg
    subst e1
    rcases ho' with ⟨rfl, -⟩ | ⟨g2, cap2, cur2, rfl, -, hh2, -⟩
    · simp [Value.ownBlock] at hx
    · have e2 : g2 = g1 := by simpa [Value.ownBlock] using hx
      subst e2
      rw [hh1] at hh2
      injection hh2 with hh2
      injection hh2 with _ e3
      exact hne e3
theorem intInfo : (Tryd.prog.info? 3).map (fun i => (i.zero, i.size, i.bytes)) = some (some (.int .i64 0), 1, 8) := by kernel_rfl
theorem nodeInfo : (Tryd.prog.info? 48).map (fun i => (i.zero, i.size, i.bytes)) = some (some (.agg #[.int .i64 0, .string ⟨#[]⟩, .slice none 0 0, .slice none 0 0]), 4, 72) := by kernel_rfl
theorem zeroInt (w : World) : (zeroValue 3).run Tryd.prog w = .ok (.int .i64 0) w := by kernel_rfl
theorem pkM_not {w : World} {b0 pb bm : Nat} {nv rv : Value} {ps : List PX} {D : DataW Unit} {R : Nat → Prop} (h : Pk w b0 pb bm nv rv ps D R) {i : Nat} (hi : PkM pb bm nv i) : i < w.heap.size := by
  rcases hi with rfl | rfl | hi
  · exact h.lt_pb
  · exact h.lt_bm
  · exact own_lt h.nodes i hi
theorem PkM.ge {w : World} {b0 pb bm : Nat} {nv rv : Value} {ps : List PX} {D : DataW Unit} {R : Nat → Prop} (h : Pk w b0 pb bm nv rv ps D R) {i : Nat} (hi : PkM pb bm nv i) : b0 ≤ i := by
  rcases hi with rfl | rfl | hi
  · exact h.pb0
  · exact h.bm0
  · exact own_from h.nodes i hi

theorem one_node (a : Int) (b : ByteArray) (A : Option Addr) (n c : Nat) (A' : Option Addr) (n' c' : Nat) : ∀ u ∈ [Value.int .i64 a, .string b, .slice A n c, .slice A' n' c'], u.oneCell' = true := fun u hu => by
  simp only [List.mem_cons, List.not_mem_nil, or_false] at hu
  rcases hu with rfl | rfl | rfl | rfl <;> rfl
mutual
theorem put_small : ∀ (t : T) (l : List PN), (T.put t l).2 < (T.put t l).1.length
  | .node k s ld ks, l => by rw [T.put]; exact (putN_len _ _).2.2
theorem puts_small : ∀ (ts : List T) (l : List PN), ∀ y ∈ (T.puts ts l).2, 0 ≤ y ∧ y < ((T.puts ts l).1.length : Int)
  | [], l, y, hy => by rw [T.puts] at hy; cases hy
  | t :: ts, l, y, hy => by
    rw [T.puts] at hy ⊢
    have h1 := put_small t l
    have h2 := (T.puts_size ts (T.put t l).1).1
    rcases List.mem_cons.1 hy with rfl | hy
    · exact ⟨by omega, by show ((T.put t l).2 : Int) < ((T.puts ts (T.put t l).1).1.length : Int); omega⟩
    · exact puts_small ts _ y hy
end
theorem f3 {a b c d : Prop} (h : a ∧ b ∧ c ∧ d) : a ∧ b ∧ c := ⟨h.1, h.2.1, h.2.2.1⟩
theorem s7 {w6 : World} {g pb : Nat} {a b c d v : Value} (hlt : pb < g) (h : w6.cell? ⟨g, 0, none⟩ = some a ∧ w6.cell? ⟨g, 1, none⟩ = some b ∧ w6.cell? ⟨g, 2, none⟩ = some c ∧ w6.cell? ⟨pb, 0, none⟩ = some d) :
    (w6.setCell ⟨pb, 0, none⟩ v).cell? ⟨g, 0, none⟩ = some a ∧ (w6.setCell ⟨pb, 0, none⟩ v).cell? ⟨g, 1, none⟩ = some b ∧ (w6.setCell ⟨pb, 0, none⟩ v).cell? ⟨g, 2, none⟩ = some c := by
  have ne : ∀ i, (⟨pb, 0, none⟩ : Addr) ≠ ⟨g, i, none⟩ := fun i e => by injection e with e; omega
  exact ⟨(World.cell?_setCell_other w6 _ _ v (ne 0)).trans h.1, (World.cell?_setCell_other w6 _ _ v (ne 1)).trans h.2.1, (World.cell?_setCell_other w6 _ _ v (ne 2)).trans h.2.2.1⟩
theorem sizes_take {l : List TX} {j : Nat} {k : TX} (h : l[j]? = some k) : T.sizes ((l.take j).map TX.plain) + k.plain.size ≤ T.sizes (l.map TX.plain) := by
  obtain ⟨hlt, rfl⟩ := List.getElem?_eq_some_iff.1 h
  have e : l.map TX.plain = (l.take j).map TX.plain ++ (l[j].plain :: (l.drop (j + 1)).map TX.plain) := by
    rw [← List.map_cons (f := TX.plain), ← List.map_append, ← List.drop_eq_getElem_cons hlt, List.take_append_drop]
  rw [e, T.sizes_append, T.sizes]
  omega
theorem NSt.few {W wr : World} {b0 pb bm : Nat} {nv rv : Value} {ps : List PX} {R : Nat → Prop} {t k : TX} {j : Nat} {kv : Value} {ks : List Int} {nv1 : Value} {ps1 : List PX} {D1 : DataW Unit} {R1 : Nat → Prop} (h : NSt W wr b0 pb bm nv rv ps R t j kv ks nv1 ps1 D1 R1) (hk : t.kids[j]? = some k) : ps1.length + k.plain.size ≤ ps.length + t.plain.size := by
  have h1 := (T.puts_size ((t.kids.take j).map TX.plain) (ps.map PX.plain)).2
  rw [h.put] at h1
  simp only [List.length_map] at h1
  have h2 := sizes_take hk
  rw [TX.plain_eq t, T.size]
  omega
theorem bst {w w' : World} (h : Below w.heap.size w w') {g : Nat} (hg : w.heap.size ≤ g) {a b c d : Value} : Below w.heap.size w ((((w'.setCell ⟨g, 0, none⟩ a).setCell ⟨g, 1, none⟩ b).setCell ⟨g, 2, none⟩ c).setCell ⟨g, 3, none⟩ d) :=
  (((h.setCell (p := ⟨g, 0, none⟩) hg a).setCell (p := ⟨g, 1, none⟩) hg b).setCell (p := ⟨g, 2, none⟩) hg c).setCell (p := ⟨g, 3, none⟩) hg d
/-- the key of a node in a box of its own -/
def keyArr (x : PN) : Array Value := #[.int .i64 x.1, .string x.2.1, .string ⟨(leadsK x.2.2.1).toArray⟩, .string ⟨(kidsK x.2.2.2).toArray⟩]
def SB (wr : World) (g : Nat) (x : PN) (w : World) : Prop := Below wr.heap.size wr w ∧ wr.heap.size ≤ g ∧ Blk w g 100 (keyArr x)
theorem sb_lit {wr w6 : World} {x : PN} {a : Int} {b : ByteArray} {c : List ByteArray} {d : List Int} (hx : x = (a, b, c, d)) (hb : Below wr.heap.size wr w6) : SB wr w6.heap.size x (w6.alloc (.cells #[.int .i64 a, .string b, .string ⟨(leadsK c).toArray⟩, .string ⟨(kidsK d).toArray⟩] 100)) := by
  subst hx
  exact ⟨bal hb _, hb.size, Blk.new _ _ _⟩
theorem sb_set {wr w6 : World} {x : PN} {a : Int} {b : ByteArray} {c : List ByteArray} {d : List Int} {g : Nat} {p0 p1 p2 p3 : Value} (hx : x = (a, b, c, d)) (hb : Below wr.heap.size wr w6) (hq : Blk w6 g 100 #[p0, p1, p2, p3]) (hg : wr.heap.size ≤ g) :
    SB wr g x ((((w6.setCell ⟨g, 0, none⟩ (.int .i64 a)).setCell ⟨g, 1, none⟩ (.string b)).setCell ⟨g, 2, none⟩ (.string ⟨(leadsK c).toArray⟩)).setCell ⟨g, 3, none⟩ (.string ⟨(kidsK d).toArray⟩)) := by
  subst hx
  exact ⟨bst hb hg, hg, (((hq.set_ 0 _).set_ 1 _).set_ 2 _).set_ 3 _⟩

set_option maxRecDepth 100000 in
theorem look_yes {w : World} {b0 pb bm : Nat} {nv rv : Value} {ps : List PX} {D : DataW Unit} {R : Nat → Prop} (h : Pk w b0 pb bm nv rv ps D R) {x : PN} (hg : GoodN x) {i : Nat} (hi : findN (ps.map PX.plain) x = some i) (n : Nat) :
    (Instr.lookup 64 (.map (some bm)) (.agg (keyArr x)) true).run Tryd.prog (w.drewN n) = .ok (.tuple #[.int .i64 (i : Int), .bool true]) (w.drewN n) := by
  obtain ⟨kl, hkl⟩ := key_shp hg
  obtain ⟨k1, k2⟩ := h.know.2 x kl hkl
  have hd := (h.drewN n).map
  obtain ⟨v, q, h1, h2⟩ := hd.look_ok shapeLaw Tryd.underlying64 (zeroInt (w.drewN n)) (plainElem_int (q := .i64) Tryd.underlying3 (by decide)) hkl
  rw [k2 i hi] at h2
  obtain ⟨a, rfl, e, -⟩ := plainElem_int_inv Tryd.underlying3 h2
  injection e with e e'
  injection e with e
  injection e with e0 e
  rw [k1, hi, ← e] at h1
  exact h1
set_option maxRecDepth 100000 in
theorem look_no {w : World} {b0 pb bm : Nat} {nv rv : Value} {ps : List PX} {D : DataW Unit} {R : Nat → Prop} (h : Pk w b0 pb bm nv rv ps D R) {x : PN} (hg : GoodN x) (hi : findN (ps.map PX.plain) x = none) :
    ∃ a : Int, ∀ n, (Instr.lookup 64 (.map (some bm)) (.agg (keyArr x)) true).run Tryd.prog (w.drewN n) = .ok (.tuple #[.int .i64 a, .bool false]) (w.drewN n) := by
  obtain ⟨kl, hkl⟩ := key_shp hg
  obtain ⟨k1, k2⟩ := h.know.2 x kl hkl
  have key : ∀ n, ∃ a : Int, (Instr.lookup 64 (.map (some bm)) (.agg (keyArr x)) true).run Tryd.prog (w.drewN n) = .ok (.tuple #[.int .i64 a, .bool false]) (w.drewN n) ∧ h.know.1 = h.know.1 ∧ plainElem (H := Unit) Tryd.prog 3 (.int .i64 a) = some (D.atKey kl (.lit (.int .i64 0)), []) := fun n => by
    obtain ⟨v, q, h1, h2⟩ := (h.drewN n).map.look_ok shapeLaw Tryd.underlying64 (zeroInt (w.drewN n)) (plainElem_int (q := .i64) Tryd.underlying3 (by decide)) hkl
    obtain ⟨a, rfl, e, -⟩ := plainElem_int_inv Tryd.underlying3 h2
    rw [k1, hi] at h1
    exact ⟨a, h1, rfl, by rw [h2]; injection e with e e'; rw [e']⟩
  obtain ⟨a, -, -, ha⟩ := key 0
  refine ⟨a, fun n => ?_⟩
  obtain ⟨a', h1, -, h2⟩ := key n
  obtain ⟨z, e1, e2, -⟩ := plainElem_int_inv Tryd.underlying3 ha
  obtain ⟨z', e1', e2', -⟩ := plainElem_int_inv Tryd.underlying3 h2
  injection e1 with e0 e1
  injection e1' with e0' e1'
  rw [e2'] at e2
  injection e2 with e2 e3
  injection e2 with e2
  injection e2 with e4 e2
  rw [e1', e2, ← e1] at h1
  exact h1
/-- the blocks of the nodes' rows, one node more -/
def RNew (R : Nat → Prop) (kv : Value) (lA : Option Addr) (n : Nat) (i : Nat) : Prop := R i ∨ kv.ownBlock = some i ∨ (0 < n ∧ ∃ ad, lA = some ad ∧ ad.block = i)
theorem node_new {W w8 w12 w5 w6 : World} {b0 pb bm : Nat} {nv rv v6 : Value} {ps : List PX} {D : DataW Unit} {R : Nat → Prop} {x : PN} {kl : Lit} {lA kA : Option Addr} {lc kc : Nat} {o : Obj} {kind : Int} {text : ByteArray} {ls : List ByteArray} {ks : List Int}
    (h : Pk w8 b0 pb bm nv rv ps D R) (hx : x = (kind, text, ls, ks)) (hnot : findN (ps.map PX.plain) x = none) (hg : GoodN x) (hkey : keyOf Tryd.prog 100 (shp x) = some kl)
    (hm : w12.ownsMap Tryd.prog 100 (plainElem Tryd.prog 3) bm (ps.length + 1) (D.put kl (.lit (.int .i64 (ps.length : Int))))) (g12 : w8.grownBy w12 (some bm))
    (hb5 : Below w12.heap.size w12 w5) (hl : RowIn w5 (fun i => w12.heap.size ≤ i) lA ls.length (ls.map Value.string))
    (hg6 : Grows (w5.alloc o) w6 nv v6) (ho6 : w6.ownsRow b0 48 4 v6 (ps.length + 1) (ps.flatMap PX.cells ++ [.int .i64 kind, .string text, .slice lA ls.length lc, .slice kA ks.length kc]))
    (hk : w8.ownsRow W.heap.size 3 1 (.slice kA ks.length kc) ks.length (ks.map (Value.int .i64))) (hW : b0 ≤ W.heap.size) (hpW : pb < W.heap.size) (hmW : bm < W.heap.size) (hkR : ∀ g, (Value.slice kA ks.length kc).ownBlock = some g → ¬ R g) (hne : pb ≠ bm) :
    Pk (w6.setCell ⟨pb, 0, none⟩ v6) b0 pb bm v6 rv (ps ++ [⟨kind, text, lA, ls, lc, kA, ks, kc⟩]) (D.put kl (.lit (.int .i64 (ps.length : Int)))) (RNew R (.slice kA ks.length kc) lA ls.length) ∧ Chg w8 (w6.setCell ⟨pb, 0, none⟩ v6) (PkM pb bm nv) := by
  have l1 := h.lt_pb
  have l2 := h.lt_bm
  have ln := own_lt h.nodes
  have z12 := g12.size
  have z5 := hb5.size
  have z6 := hg6.size
  have za : (w5.alloc o).heap.size = w5.heap.size + 1 := by simp
  have nvn : nv.ownBlock ≠ some pb := fun e => by
    rcases h.nodes.2 with ⟨rfl, -⟩ | ⟨g, cap, cur, rfl, -, hh, -⟩
    · simp [Value.ownBlock] at e
    · have e1 : g = pb := by simpa [Value.ownBlock] using e
      subst e1
      have := h.box
      unfold Blk at this
      rw [hh] at this
      injection this with this
      injection this with _ e3
      exact absurd e3 (by decide)
  have nvm : nv.ownBlock ≠ some bm := fun e => by
    rcases h.nodes.2 with ⟨rfl, -⟩ | ⟨g, cap, cur, rfl, -, hh, -⟩
    · simp [Value.ownBlock] at e
    · have e1 : g = bm := by simpa [Value.ownBlock] using e
      subst e1
      obtain ⟨es, clock, hb, -⟩ := h.map
      rw [hh] at hb
      cases hb
  have hchg : Chg w8 (w6.setCell ⟨pb, 0, none⟩ v6) (PkM pb bm nv) := by
    refine Chg.setCell ?_ (.inl (.inl rfl)) _
    refine Chg.trans (M' := PkM pb bm nv) (Chg.trans (M' := PkM pb bm nv) (b := w12) (Chg.of_grown g12 (fun g e => by injection e with e; exact .inr (.inl e.symm))) (Chg.of_new (hb5.alloc hb5.size o) _) (fun i _ hi => hi)) (Chg.of_grown hg6.grown (fun g e => .inr (.inr e))) (fun i _ hi => hi)
  -- the new nodes' row
  have v6b : ∀ g, v6.ownBlock = some g → nv.ownBlock = some g ∨ w5.heap.size ≤ g := fun g hg => by
    rcases hg6.own g hg with e | e
    · exact .inl e
    · simp at e; exact .inr (by omega)
  have v6pb : v6.ownBlock ≠ some pb := fun e => by
    rcases v6b pb e with e | e
    · exact nvn e
    · omega
  have v6bm : v6.ownBlock ≠ some bm := fun e => by
    rcases v6b bm e with e | e
    · exact nvm e
    · omega
  have hkl := own_lt hk
  have hkf := own_from hk
  have kn : ∀ g, (Value.slice kA ks.length kc).ownBlock = some g → nv.ownBlock ≠ some g := own_types hk h.nodes (by decide)
  have box6 : Blk w6 pb 66 #[nv, rv, .map (some bm)] := by
    have b12 : Blk w12 pb 66 #[nv, rv, .map (some bm)] := (g12.block pb l1 (fun e => by injection e with e; exact hne e)).trans h.box
    have b5 : Blk (w5.alloc o) pb 66 #[nv, rv, .map (some bm)] := b12.below (hb5.alloc hb5.size o) (by omega)
    exact hg6.blk b5 nvn
  have keepM : ∀ i, i < w8.heap.size → i ≠ pb → i ≠ bm → nv.ownBlock ≠ some i → (w6.setCell ⟨pb, 0, none⟩ v6).heap[i]? = w8.heap[i]? := fun i hi h1 h2 h3 => hchg.block i hi (fun x => by
    rcases x with x | x | x
    · exact h1 x
    · exact h2 x
    · exact h3 x)
  have far6 : ∀ i, i ≠ pb → (w6.setCell ⟨pb, 0, none⟩ v6).heap[i]? = w6.heap[i]? := fun i hi => Below.heap_setCell w6 ⟨pb, 0, none⟩ v6 i hi
  have lrow : 0 < ls.length → ∃ g off, lA = some ⟨g, off, none⟩ ∧ w12.heap.size ≤ g ∧ g < w5.heap.size ∧ ∀ j u, (ls.map Value.string)[j]? = some u → w5.cell? ⟨g, off + j, none⟩ = some u := fun hn => hl.2 hn
  refine ⟨⟨?_, ?_, ?_, ?_, ?_, ?_, h.pb0, h.bm0⟩, hchg⟩
  · have := box6.set_ 0 v6
    exact this
  · have e1 : (ps ++ [(⟨kind, text, lA, ls, lc, kA, ks, kc⟩ : PX)]).length = ps.length + 1 := by simp
    have e2 : (ps ++ [(⟨kind, text, lA, ls, lc, kA, ks, kc⟩ : PX)]).flatMap PX.cells = ps.flatMap PX.cells ++ [.int .i64 kind, .string text, .slice lA ls.length lc, .slice kA ks.length kc] := by
      rw [List.flatMap_append]; rfl
    rw [e1, e2]
    obtain ⟨hl6, ho⟩ := ho6
    refine ⟨hl6, ?_⟩
    rcases ho with h0 | ⟨g, cap, cur, rfl, hb, hh, rest⟩
    · exact .inl h0
    · exact .inr ⟨g, cap, cur, rfl, hb, (far6 g (fun e => v6pb (by simp [Value.ownBlock, e]))).trans hh, rest⟩
  · have e1 : (ps ++ [(⟨kind, text, lA, ls, lc, kA, ks, kc⟩ : PX)]).length = ps.length + 1 := by simp
    rw [e1]
    obtain ⟨es, clock, hb, F, hs, hD⟩ := hm
    refine ⟨es, clock, ?_, F, hs, hD⟩
    rw [far6 bm (fun e => hne e.symm), hg6.grown.block bm (by omega) (fun e => nvm e.symm), (hb5.alloc hb5.size o).block bm (by omega)]
    exact hb
  · rw [List.map_append]
    have := h.know.step (findN_none.1 hnot) hkey
    rw [List.length_map] at this
    have e : [(⟨kind, text, lA, ls, lc, kA, ks, kc⟩ : PX)].map PX.plain = [x] := by rw [hx]; rfl
    rw [e]
    exact this
  · intro p hp
    rcases List.mem_append.1 hp with hp | hp
    · have h1 := (h.rows p hp).chg hchg (fun i hi => (h.apart i hi).1)
      exact h1.mono (fun i _ hi => .inl hi)
    · simp at hp
      subst hp
      refine ⟨⟨by simp, fun hn => ?_⟩, ⟨by simp, fun hn => ?_⟩⟩
      · obtain ⟨g, off, e, h1, h2, h3⟩ := lrow hn
        refine ⟨g, off, e, .inr (.inr ⟨hn, _, e, rfl⟩), by simp [World.setCell]; omega, fun j u hu => ?_⟩
        rw [World.cell?_of_block (a := ⟨g, off + j, none⟩) (far6 g (by omega)), World.cell?_of_block (a := ⟨g, off + j, none⟩) (hg6.grown.block g (by omega) (fun e => by have := ln g e.symm; omega)), World.cell?_alloc_lt w5 o ⟨g, off + j, none⟩ h2]
        exact h3 j u hu
      · obtain ⟨g, cap, hv, hb, hlt⟩ := hk.form hn
        have hA : kA = some ⟨g, 0, none⟩ := by injection hv
        have hkg : (Value.slice kA ks.length kc).ownBlock = some g := by rw [hA]; rfl
        have gW := hkf g hkg
        refine ⟨g, 0, hA, .inr (.inl hkg), by simp [World.setCell]; omega, fun j u hu => ?_⟩
        rw [World.cell?_of_block (a := ⟨g, 0 + j, none⟩) (keepM g hlt (by omega) (by omega) (kn g hkg))]
        have := hk.cells (g := g) hkg j u hu
        rwa [Addr.add_lit] at this
  · intro i hi
    have hsz : (w6.setCell ⟨pb, 0, none⟩ v6).heap.size = w6.heap.size := by simp [World.setCell]
    rw [hsz]
    rcases hi with hi | hi | ⟨hn, ad, e, rfl⟩
    · obtain ⟨h1, h2, h3⟩ := h.apart i hi
      refine ⟨fun x => ?_, h2, by omega⟩
      rcases x with x | x | x
      · exact h1 (.inl x)
      · exact h1 (.inr (.inl x))
      · rcases v6b i x with x | x
        · exact h1 (.inr (.inr x))
        · omega
    · have h1 := hkl i hi
      have h2 := hkf i hi
      refine ⟨fun x => ?_, by omega, by omega⟩
      rcases x with x | x | x
      · omega
      · omega
      · rcases v6b i x with x | x
        · exact kn i hi x
        · omega
    · obtain ⟨g, off, e', h1, h2, h3⟩ := lrow hn
      rw [e] at e'
      injection e' with e'
      subst e'
      refine ⟨fun x => ?_, by show b0 ≤ g; have := own_from h.nodes; have := h.pb0; omega, by show g < _; omega⟩
      rcases x with x | x | x
      · have : g = pb := x
        omega
      · have : g = bm := x
        omega
      · rcases v6b g x with x | x
        · have := ln g x; omega
        · omega
set_option maxRecDepth 100000 in
set_option maxHeartbeats 8000000 in
theorem node_any (b0 pb bm : Nat) (rv : Value) (hg0 : 0 < b0) (t : TX) : ∀ (w : World) (nv : Value) (ps : List PX) (D : DataW Unit) (R : Nat → Prop), Pk w b0 pb bm nv rv ps D R → Tr w b0 t → Fine t → Tab w → ps.length + t.plain.size ≤ 1000000000000 →
    Calls Tryd.prog 38 #[.pointer (some ⟨pb, 0, none⟩), t.val] w (NodePost w b0 pb bm nv rv ps R t.plain) := by
  induction t using TX.ind with
  | h t ih =>
  intro w nv ps D R hpk ht hfi htab hM
  unfold TX.val
  have HIH := Lib.hid ih
  have H := Lib.hid ht
  have HF := Lib.hid hfi
  have HT := Lib.hid htab
  have HM := Lib.hid hM
  have hkb := ht.kb
  have hkbs := ht.kbs
  have hb0w : b0 ≤ w.heap.size := by have := hpk.lt_pb; have := hpk.pb0; omega
  obtain ⟨kA, hkA⟩ : ∃ a, t.kA = a := ⟨_, rfl⟩
  have HKA := Lib.hid hkA
  rw [hkA]
  obtain ⟨W, hW⟩ : ∃ W, w.alloc (.cells #[.int .i64 t.kind, .string t.text, .slice t.lA t.leads.length t.lc, .slice kA t.kids.length t.kc] 42) = W := ⟨_, rfl⟩
  have hsW : W.heap.size = w.heap.size + 1 := by subst hW; simp
  have HBW : Hid (Below w.heap.size w W) := by subst hW; exact (Below.refl _ w).alloc (Nat.le_refl _) _
  have HBX : Hid (Blk W w.heap.size 42 #[.int .i64 t.kind, .string t.text, .slice t.lA t.leads.length t.lc, .slice kA t.kids.length t.kc]) := by subst hW; exact Blk.new w _ _
  have HP := Lib.hid (hpk.below HBW.out)
  have HP0 := Lib.hid hpk
  have hlpb := hpk.lt_pb
  have hlbm := hpk.lt_bm
  have c3 := HBX.out.cell 3
  simp at c3
  obtain ⟨i0, hi, hz0, hz1, hz2⟩ := info_parts intInfo
  have HI := Lib.hid hi
  have HZ0 := Lib.hid hz0
  have HZ1 := Lib.hid hz1
  have HZ2 := Lib.hid hz2
  have HSW := Lib.hid hsW
  clear ih ht hfi htab hpk hkA hi hz0 hz1 hz2 hsW hM
  go_enter Tryd.func38, Tryd.ntmps38
  go_wp2_with fail
  have HW := Lib.hid hW
  clear hW
  go_loopw [5, 15] (fun kv i wr => ∃ (j : Nat) (ks : List Int) (kA1 : Option Addr) (kc1 : Nat) (nv1 : Value) (ps1 : List PX) (D1 : DataW Unit) (R1 : Nat → Prop), j ≤ t.kids.length ∧ i = .int .i64 (j : Int) ∧ kv = .slice kA1 ks.length kc1 ∧ Hid (NSt W wr b0 pb bm nv rv ps R t j kv ks nv1 ps1 D1 R1)) (fun _ i _ => t.kids.length - (intOf i).toNat)
  case atStart => exact ⟨0, [], none, 0, nv, ps, D, R, by omega, rfl, rfl, ⟨HP.out, by simp [T.puts], owns_nil _ _ _, Chg.refl _ _, fun i hi => .inl hi, fun g hg => .inl hg, fun g hg => by simp [Value.ownBlock] at hg⟩⟩
  case round =>
    obtain ⟨j, ks, kA1, kc1, nv1, ps1, D1, R1, hj, rfl, rfl, HN⟩ := hrel
    have hzr := HN.out.chg.size
    have hpbW : pb < W.heap.size := by have := HSW.out; omega
    have hbmW : bm < W.heap.size := by have := HSW.out; omega
    have hwW : w.heap.size ≤ W.heap.size := by have := HSW.out; omega
    have HKL := Lib.hid (HN.out.klen hj)
    have HCW : Hid (Blk wr w.heap.size 42 #[.int .i64 t.kind, .string t.text, .slice t.lA t.leads.length t.lc, .slice kA t.kids.length t.kc]) := HBX.out.chg HN.out.chg (fun hx => by have h1 := pkM_not HP0.out hx; exact absurd h1 (Nat.lt_irrefl _))
    have c3' := HCW.out.cell 3
    simp at c3'
    have HBL : Hid (Below b0 w wr) := (HBW.out.mono hb0w).trans (HN.out.chg.below (by omega) (fun i hi => PkM.ge HP0.out hi))
    by_cases hlt : j < t.kids.length
    · obtain ⟨k, hk⟩ : ∃ k, t.kids[j]? = some k := ⟨_, List.getElem?_eq_getElem hlt⟩
      obtain ⟨ab, ao, hA, hab, e0, e1, e2, e3⟩ := (H.out.low HBL.out).at_ hk
      obtain rfl : kA = some ⟨ab, ao, none⟩ := HKA.out.symm.trans hA
      obtain ⟨wk, hwk⟩ : ∃ wk, wr.alloc (.cells #[.int .i64 k.kind, .string k.text, .slice k.lA k.leads.length k.lc, .slice k.kA k.kids.length k.kc] 42) = wk := ⟨_, rfl⟩
      have hbk : Blk wk wr.heap.size 42 #[.int .i64 k.kind, .string k.text, .slice k.lA k.leads.length k.lc, .slice k.kA k.kids.length k.kc] := by subst hwk; exact Blk.new wr _ _
      have f0 := hbk.cell 0
      have f1 := hbk.cell 1
      have f2 := hbk.cell 2
      have f3 := hbk.cell 3
      simp at f0 f1 f2 f3
      have hbrk : Below wr.heap.size wr wk := by subst hwk; exact (Below.refl _ wr).alloc (Nat.le_refl _) _
      have HNK := Lib.hid (HN.out.below hbrk)
      have HBK : Hid (Below b0 w wk) := HBL.out.trans (hbrk.mono (by omega))
      have HSZ : Hid (ps1.length + k.plain.size ≤ 1000000000000) := Nat.le_trans (HN.out.few hk) HM.out
      have HK := Lib.hid hk
      have HC := Lib.hid (HIH.out k (List.mem_of_getElem? hk) wk nv1 ps1 D1 R1 HNK.out.pk ((H.out.sub k (List.mem_of_getElem? hk)).low HBK.out) (HF.out.sub k (List.mem_of_getElem? hk)) (HT.out.low hg0 HBK.out) HSZ.out)
      unfold TX.val at HC
      have hks : ks.length ≤ 1954687338211 := by rw [HKL.out]; omega
      clear hA hk hbk hbrk
      go_wp2_with fail
      refine (HC.out).mono ?_
      rintro e w2 ⟨nv2, ps2, D2, R2, k2, rfl, hp2, hpk2, hc2, hR2, hN2⟩
      have hkw : w2.ownsRow W.heap.size 3 1 (.slice kA1 ks.length kc1) ks.length (ks.map (Value.int .i64)) := owns_chg HNK.out.own hc2 (fun g hg hx => by
        have h1 := own_from HNK.out.own g hg
        rcases hx with rfl | rfl | hx
        · omega
        · omega
        · exact own_types HNK.out.own HNK.out.pk.nodes (by decide) g hg hx)
      have HKW := Lib.hid hkw
      have hz2 := hc2.size
      have hzk := HNK.out.chg.size
      have HP2 := Lib.hid hp2
      have HPK2 := Lib.hid hpk2
      have HC2 := Lib.hid hc2
      have HR2 := Lib.hid hR2
      have HN2 := Lib.hid hN2
      clear hkw hp2 hpk2 hc2 hR2 hN2 HC
      go_wp2_with (at_builtin; refine wpList_append_row _ rfl (.tmp 19) (.tmp 23) 27 27 rfl W.heap.size 3 i0 (.int .i64 0) 1 8 Tryd.underlying27 HI.out HZ0.out HZ1.out HZ2.out rfl (by decide) (.slice kA1 ks.length kc1) ks.length (ks.map (Value.int .i64)) rfl (HKW.out.alloc _) (.slice (some ⟨w2.heap.size, 0, none⟩) 1 1) 1 [.int .i64 (k2 : Int)] rfl (src_new w2 Tryd.underlying27 [.int .i64 (k2 : Int)] 1 1 1 3 rfl ?c4) ?c1 ?c2 ?c3 ?_)
      case c4 => intro u hu; simp at hu; subst hu; rfl
      case c1 => unfold maxLen; omega
      case c2 => omega
      case c3 => simp; omega
      intro v3 w3 hown3 hg3
      obtain ⟨A3, q3, rfl, -, -⟩ := reads_of_owns hown3
      have HS3 := Lib.hid (HNK.out.step HK.out HP2.out HPK2.out HC2.out HR2.out HN2.out hpbW hbmW hg3 hown3 HKW.out)
      clear hown3 hg3 HKW HP2 HPK2 HC2 HR2 HN2 HNK HN
      go_wp2_with fail
      go_roundw
      case rel => exact ⟨j + 1, _, _, _, _, _, _, _, by omega, by go_num, by rw [List.length_append]; rfl, HS3⟩
      case measure => simp [intOf] <;> omega
    · obtain rfl : j = t.kids.length := by omega
      obtain ⟨x, hx⟩ : ∃ x : PN, x = (t.kind, t.text, t.leads, ks) := ⟨_, rfl⟩
      have hput : T.put t.plain (ps.map PX.plain) = putN (ps1.map PX.plain) x := by
        have h1 := HN.out.put
        rw [List.take_length] at h1
        rw [TX.plain_eq t, T.put, h1, hx]
      have hki : ∀ y ∈ ks, -9223372036854775808 ≤ y ∧ y ≤ 9223372036854775807 := by
        have h1 := puts_small (t.kids.map TX.plain) (ps.map PX.plain)
        have h2 := (T.puts_size (t.kids.map TX.plain) (ps.map PX.plain)).2
        have h3 := HN.out.put
        rw [List.take_length] at h3
        rw [h3] at h1 h2
        have h4 := HM.out
        rw [TX.plain_eq t, T.size] at h4
        simp only [List.length_map] at h1 h2
        intro y hy
        have := h1 y hy
        omega
      have hkK := kidsK_bound ks hki
      have hkl := HKL.out
      have hgood : GoodN x := by
        rw [hx]
        exact ⟨H.out.kr, HF.out.text, HF.out.leads, by show (kidsK ks).length ≤ _; omega⟩
      have HLK : Hid (∀ w', Below wr.heap.size wr w' → Calls Tryd.prog 62 #[.slice t.lA t.leads.length t.lc] w' (fun e w'' => e = .returned (.string ⟨(leadsK t.leads).toArray⟩) ∧ Below wr.heap.size wr w'' ∧ Below w'.heap.size w' w'')) := fun w' hb => (leadsKey_any t.lA t.lc w'.heap.size t.leads w' ((((H.out.low HBL.out).rl.more (by omega)).below hb).more hb.size) (Nat.le_refl _) HF.out.leads H.out.lb (HT.out.low hg0 (HBL.out.trans (hb.mono (by omega))))).mono fun e w'' ⟨h1, h2⟩ => ⟨h1, hb.trans (h2.mono hb.size), h2⟩
      have HKK : Hid (∀ w', Below wr.heap.size wr w' → Calls Tryd.prog 63 #[.slice kA1 ks.length kc1] w' (fun e w'' => e = .returned (.string ⟨(kidsK ks).toArray⟩) ∧ Below wr.heap.size wr w'' ∧ Below w'.heap.size w' w'')) := fun w' hb => (kidsKey_any kA1 kc1 w'.heap.size ks w' (((Reads.of_own HN.out.own).below hb).more hb.size) (Nat.le_refl _) (by omega) (by omega) hki (HT.out.low hg0 (HBL.out.trans (hb.mono (by omega))))).mono fun e w'' ⟨h1, h2⟩ => ⟨h1, hb.trans (h2.mono hb.size), h2⟩
      have HCB : Hid (∀ w', Below wr.heap.size wr w' → w'.cell? ⟨w.heap.size, 0, none⟩ = some (.int .i64 t.kind) ∧ w'.cell? ⟨w.heap.size, 1, none⟩ = some (.string t.text) ∧ w'.cell? ⟨w.heap.size, 2, none⟩ = some (.slice t.lA t.leads.length t.lc)) := fun w' hb => by
        have h1 := HCW.out.below hb HCW.out.lt
        exact ⟨by rw [h1.cell]; rfl, by rw [h1.cell]; rfl, by rw [h1.cell]; rfl⟩
      have HX := Lib.hid hx
      have HPUT := Lib.hid hput
      have HGOOD := Lib.hid hgood
      clear hx hput hgood hki c3' hkl hkK
      go_upto_region 8 with fail
      have B0 : Hid (Below wr.heap.size wr wr.drew) := below_drewN (Below.refl _ wr) 1
      have B0A : Hid (∀ o, Below wr.heap.size wr (wr.alloc o).drew) := fun o => below_drewN (bal (Below.refl _ wr) o) 1
      go_cut [8] (fun v wk => ∃ g, v = .pointer (some ⟨g, 0, none⟩) ∧ Hid (SB wr g x wk))
      case first =>
        go_region_held3 (fun w' => w'.cell? ⟨w.heap.size, 0, none⟩ = some (.int .i64 t.kind) ∧ w'.cell? ⟨w.heap.size, 1, none⟩ = some (.string t.text) ∧ w'.cell? ⟨w.heap.size, 2, none⟩ = some (.slice t.lA t.leads.length t.lc)) (first | (with_reducible exact HCB.out _ B0.out) | (with_reducible exact HCB.out _ B5.out) | (with_reducible exact HCB.out _ B6.out) | (with_reducible exact HCB.out _ (bal B0.out _)) | (with_reducible exact HCB.out _ (bal B5.out _)) | (with_reducible exact HCB.out _ (bal B6.out _)) | (with_reducible exact HCB.out _ (B0A.out _)) | (with_reducible exact HCB.out _ (bst B5.out (Nat.le_refl _))) | (with_reducible exact HCB.out _ (bst B6.out (Nat.le_refl _))) | (with_reducible exact HCB.out _ (bst (bal B6.out _) B6.out.size)) | (with_reducible exact HCB.out _ (bst (bal B5.out _) B5.out.size)) | (with_reducible exact HCB.out _ (bst B6.out B5.out.size)) | (with_reducible exact HCB.out _ (bst B5.out B6.out.size))) (first | (go_at_call 63; refine (HKK.out _ (by first | with_reducible exact B5.out | with_reducible exact (bal B5.out _) | with_reducible exact B0.out | with_reducible exact (B0A.out _))).mono ?_; rintro e w6 ⟨rfl, hb6, hl6⟩; have B6 := Lib.hid hb6; (first | (have q := Blk.below Q5.out hl6 Q5.out.lt; clear q0 q1 q2 q3 z0 z1 z2 z3; have Q6 := Lib.hid q; have q0 := q.cell 0; have q1 := q.cell 1; have q2 := q.cell 2; have q3 := q.cell 3; simp at q0 q1 q2 q3; have z0 := q.frozen 0; have z1 := q.frozen 1; have z2 := q.frozen 2; have z3 := q.frozen 3; clear q) | (have q := Blk.below (Blk.new _ _ _) hl6 (by simp); have Q6 := Lib.hid q; have q0 := q.cell 0; have q1 := q.cell 1; have q2 := q.cell 2; have q3 := q.cell 3; simp at q0 q1 q2 q3; have z0 := q.frozen 0; have z1 := q.frozen 1; have z2 := q.frozen 2; have z3 := q.frozen 3; clear q) | (have q := Blk.below (Blk.drew (Blk.new _ _ _)) hl6 (by simp); have Q6 := Lib.hid q; have q0 := q.cell 0; have q1 := q.cell 1; have q2 := q.cell 2; have q3 := q.cell 3; simp at q0 q1 q2 q3; have z0 := q.frozen 0; have z1 := q.frozen 1; have z2 := q.frozen 2; have z3 := q.frozen 3; clear q) | skip); clear hb6 hl6) | (go_at_call 62; refine (HLK.out _ (by first | with_reducible exact B6.out | with_reducible exact (bal B6.out _) | with_reducible exact B0.out | with_reducible exact (B0A.out _))).mono ?_; rintro e w5 ⟨rfl, hb5, hl5⟩; have B5 := Lib.hid hb5; (first | (have q := Blk.below Q6.out hl5 Q6.out.lt; clear q0 q1 q2 q3 z0 z1 z2 z3; have Q5 := Lib.hid q; have q0 := q.cell 0; have q1 := q.cell 1; have q2 := q.cell 2; have q3 := q.cell 3; simp at q0 q1 q2 q3; have z0 := q.frozen 0; have z1 := q.frozen 1; have z2 := q.frozen 2; have z3 := q.frozen 3; clear q) | (have q := Blk.below (Blk.new _ _ _) hl5 (by simp); have Q5 := Lib.hid q; have q0 := q.cell 0; have q1 := q.cell 1; have q2 := q.cell 2; have q3 := q.cell 3; simp at q0 q1 q2 q3; have z0 := q.frozen 0; have z1 := q.frozen 1; have z2 := q.frozen 2; have z3 := q.frozen 3; clear q) | (have q := Blk.below (Blk.drew (Blk.new _ _ _)) hl5 (by simp); have Q5 := Lib.hid q; have q0 := q.cell 0; have q1 := q.cell 1; have q2 := q.cell 2; have q3 := q.cell 3; simp at q0 q1 q2 q3; have z0 := q.frozen 0; have z1 := q.frozen 1; have z2 := q.frozen 2; have z3 := q.frozen 3; clear q) | skip); clear hb5 hl5))
        all_goals
          go_wp2_with fail
          go_meet
          refine ⟨_, rfl, ?_⟩
          first
            | with_reducible exact (sb_lit HX.out B6.out)
            | with_reducible exact (sb_lit HX.out B5.out)
            | with_reducible exact (sb_set HX.out B6.out Q6.out (Nat.le_refl _))
            | with_reducible exact (sb_set HX.out B6.out Q6.out B5.out.size)
            | with_reducible exact (sb_set HX.out B5.out Q5.out (Nat.le_refl _))
            | with_reducible exact (sb_set HX.out B5.out Q5.out B6.out.size)
            | exact (sb_set HX.out B6.out Q6.out (Nat.le_refl _))
            | exact (sb_set HX.out B5.out Q5.out (Nat.le_refl _))
            | exact (sb_set HX.out B6.out Q6.out B5.out.size)
            | exact (sb_set HX.out B5.out Q5.out B6.out.size)
            | exact (sb_lit HX.out B6.out)
            | exact (sb_lit HX.out B5.out)
      case rest =>
        obtain ⟨gb, rfl, HSB⟩ := hcut
        obtain ⟨w8, rfl⟩ : ∃ wo : World, wo = wc := ⟨_, rfl⟩
        have hb8 := HSB.out.1
        have hg8 := HSB.out.2.1
        have HP8 := Lib.hid (HN.out.pk.below hb8)
        obtain ⟨An, cn, rfl, -, -⟩ := reads_of_owns HP8.out.nodes
        obtain ⟨m0, m1, m2⟩ := HP8.out.cell
        have k0 := HSB.out.2.2.cell 0
        have k1 := HSB.out.2.2.cell 1
        have k2 := HSB.out.2.2.cell 2
        have k3 := HSB.out.2.2.cell 3
        simp [keyArr] at k0 k1 k2 k3
        have HXW : Hid (Blk w8 w.heap.size 42 #[.int .i64 t.kind, .string t.text, .slice t.lA t.leads.length t.lc, .slice kA t.kids.length t.kc]) := HCW.out.below hb8 HCW.out.lt
        have HB8 := Lib.hid hb8
        have HPS : Hid (ps1.length ≤ 1000000000000) := by
          unfold Hid
          have h1 := (T.puts_size (t.kids.map TX.plain) (ps.map PX.plain)).2
          have h2 := HN.out.put
          rw [List.take_length] at h2
          rw [h2] at h1
          simp only [List.length_map] at h1
          have h3 := HM.out
          rw [TX.plain_eq t, T.size] at h3
          omega
        clear hb8 B0 B0A m1
        rcases hfx : findN (ps1.map PX.plain) x with _ | i
        · obtain ⟨a, hlk⟩ := look_no HP8.out HGOOD.out hfx
          have HFX := Lib.hid hfx
          unfold keyArr at hlk
          clear hfx
          go_wp2_with fail
          go_quiet (fail)
          clear hlk
          go_wp2_with fail
          obtain ⟨kl, hkl⟩ := key_shp HGOOD.out
          have HKL2 := Lib.hid hkl
          clear hkl
          refine region_tail 6 (by kernel_rfl) (by kernel_rfl) _ rfl ?_
          simp only [List.take_succ_cons, List.take_zero, List.drop_succ_cons, List.drop_zero]
          repeat (go_big_quiet_step (fail))
          refine wpQuiet_nil ?_
          have hpsn := HPS.out
          have HMU : Hid (∀ n, (w8.drewN n).ownsMap Tryd.prog 100 (plainElem Tryd.prog 3) bm ps1.length D1) := fun n => (HP8.out.drewN n).map
          have HSH : Hid (keyOf Tryd.prog 100 (.agg #[.int .i64 x.1, .string x.2.1, .string ⟨(leadsK x.2.2.1).toArray⟩, .string ⟨(kidsK x.2.2.2).toArray⟩]) = some kl) := HKL2.out
          have HWF : Hid ((Lit.int .i64 (ps1.length : Int)).wf = true) := by
            unfold Hid
            simp [Lit.wf, IntKind.min, IntKind.max, IntKind.signed, IntKind.bits]; omega
          refine wpList_mapUpdate_own _ rfl (.tmp 56) (.tmp 57) (.tmp 58) 64 rfl 100 3 shapeLaw Tryd.underlying64 (plainElem Tryd.prog 3) bm ps1.length D1 rfl (HMU.out nq) (by unfold maxLen; omega) _ _ kl rfl rfl HSH.out _ [] (plainElem_int Tryd.underlying3 HWF.out) ?_
          intro w12 hm12 hg12
          have hg12' : w8.grownBy w12 (some bm) := ⟨hg12.os, hg12.tape, hg12.output, hg12.size, hg12.block⟩
          have hz12 : w8.heap.size ≤ w12.heap.size := hg12.size
          have hz8 : wr.heap.size ≤ w8.heap.size := HB8.out.size
          have hpbm : pb ≠ bm := by
            rintro rfl
            have h1 := HP8.out.box
            obtain ⟨es, clock, hb, -⟩ := HP8.out.map
            unfold Blk at h1
            rw [hb] at h1
            cases h1
          have hbmw : bm < w.heap.size := hlbm
          have HBP : Hid (Blk w12 pb 66 #[.slice An ps1.length cn, rv, .map (some bm)]) := (hg12'.block pb HP8.out.lt_pb (fun e => by injection e with e; exact hpbm e)).trans HP8.out.box
          have HXT : Hid (Blk w12 w.heap.size 42 #[.int .i64 t.kind, .string t.text, .slice t.lA t.leads.length t.lc, .slice kA t.kids.length t.kc]) := (hg12'.block w.heap.size HXW.out.lt (fun e => by injection e with e; omega)).trans HXW.out
          have HG12 := Lib.hid hg12'
          have HM12 := Lib.hid hm12
          have HCE : Hid (∀ w', Below w12.heap.size w12 w' → w'.cell? ⟨w.heap.size, 0, none⟩ = some (.int .i64 t.kind) ∧ w'.cell? ⟨w.heap.size, 1, none⟩ = some (.string t.text) ∧ w'.cell? ⟨w.heap.size, 2, none⟩ = some (.slice t.lA t.leads.length t.lc) ∧ w'.cell? ⟨pb, 0, none⟩ = some (.slice An ps1.length cn)) := fun w' hb => by
            have h1 := HXT.out.below hb HXT.out.lt
            have h2 := HBP.out.below hb HBP.out.lt
            exact ⟨by rw [h1.cell]; rfl, by rw [h1.cell]; rfl, by rw [h1.cell]; rfl, by rw [h2.cell]; rfl⟩
          have HBL12 : Hid (Below b0 w w12) := HBL.out.trans ((HB8.out.mono (by omega)).trans ((Below.refl b0 w8).grown hg12' (by omega) (fun g e => by injection e with e; rw [← e]; exact HP8.out.bm0)))
          have HCL : Hid (∀ w', Below w12.heap.size w12 w' → Calls Tryd.prog 64 #[.slice t.lA t.leads.length t.lc] w' (fun e w'' => ∃ A' c', e = .returned (.slice A' t.leads.length c') ∧ RowIn w'' (fun i => w12.heap.size ≤ i) A' t.leads.length (t.leads.map Value.string) ∧ Below w12.heap.size w12 w'')) := fun w' hb =>
            (clone_any t.lA t.lc w'.heap.size t.leads w' ((((H.out.low HBL12.out).rl.more (by omega)).below hb).more hb.size) (by have := H.out.lbs; omega)).mono fun e w'' ⟨A', c', h1, h2, h3⟩ => ⟨A', c', h1, h2.mono (fun i _ hi => Nat.le_trans hb.size hi), hb.trans (h3.mono hb.size)⟩
          obtain ⟨i4, hi4, hy0, hy1, hy2⟩ := info_parts nodeInfo
          have HI4 := Lib.hid hi4
          have HY0 := Lib.hid hy0
          have HY1 := Lib.hid hy1
          have HY2 := Lib.hid hy2
          have HNR : Hid (∀ w', Below w12.heap.size w12 w' → w'.ownsRow b0 48 4 (.slice An ps1.length cn) ps1.length (ps1.flatMap PX.cells)) := fun w' hb => by
            have nvm : (Value.slice An ps1.length cn).ownBlock ≠ some bm := fun e => by
              rcases HP8.out.nodes.2 with ⟨e0, -⟩ | ⟨g, cap, cur, e0, -, hh, -⟩
              · rw [e0] at e; simp [Value.ownBlock] at e
              · rw [e0] at e
                have e1 : g = bm := by simpa [Value.ownBlock] using e
                subst e1
                obtain ⟨es, clock, hb, -⟩ := HP8.out.map
                rw [hh] at hb
                cases hb
            have h1 : w12.ownsRow b0 48 4 (.slice An ps1.length cn) ps1.length (ps1.flatMap PX.cells) := HP8.out.nodes.kept HG12.out (by
              cases hq : (Value.slice An ps1.length cn).ownBlock with
              | none => exact .inl rfl
              | some g => exact .inr (fun e => nvm (by rw [hq]; exact e)))
            exact owns_below h1 hb (own_lt h1)
          have HBP6 : Hid (∀ o w5 w6 v6, Below w12.heap.size w12 w5 → Grows (w5.alloc o) w6 (.slice An ps1.length cn) v6 → Blk w6 pb 66 #[.slice An ps1.length cn, rv, .map (some bm)] ∧ Blk w6 w.heap.size 42 #[.int .i64 t.kind, .string t.text, .slice t.lA t.leads.length t.lc, .slice kA t.kids.length t.kc]) := fun o w5 w6 v6 hb hg =>
            ⟨hg.blk ((HBP.out.below hb HBP.out.lt).alloc o) (own_blk_ne HP8.out.nodes HP8.out.box (by decide)), hg.blk ((HXT.out.below hb HXT.out.lt).alloc o) (own_blk_ne HP8.out.nodes HXW.out (by decide))⟩
          have HKE : Hid (∀ o w5 w6 v6, Below w12.heap.size w12 w5 → Grows (w5.alloc o) w6 (.slice An ps1.length cn) v6 → w6.cell? ⟨w.heap.size, 0, none⟩ = some (.int .i64 t.kind) ∧ w6.cell? ⟨w.heap.size, 1, none⟩ = some (.string t.text) ∧ w6.cell? ⟨w.heap.size, 2, none⟩ = some (.slice t.lA t.leads.length t.lc) ∧ w6.cell? ⟨pb, 0, none⟩ = some (.slice An ps1.length cn)) := fun o w5 w6 v6 hb hg => by
            obtain ⟨h2, h1⟩ := HBP6.out o w5 w6 v6 hb hg
            exact ⟨by rw [h1.cell]; rfl, by rw [h1.cell]; rfl, by rw [h1.cell]; rfl, by rw [h2.cell]; rfl⟩
          have HM1 : Hid (ps1.length + 1 ≤ maxLen) := by have := HPS.out; unfold Hid maxLen; omega
          have HM2 : Hid ((ps1.length + 1) * 72 ≤ 140737488355328) := by have := HPS.out; unfold Hid; omega
          have B0 : Hid (Below w12.heap.size w12 w12.drew) := below_drewN (Below.refl _ w12) 1
          have B00 : Hid (Below w12.heap.size w12 w12) := Below.refl _ w12
          clear hm12 hg12 hg12' hi4 hy0 hy1 hy2 m0 m2 k0 k1 k2 k3
          go_wp2_with fail
          have HEN : Hid (∀ (A5 : Option Addr) (c5 : Nat) (w5 w6 : World) (v6 : Value) (o : Obj), Below w12.heap.size w12 w5 → RowIn w5 (fun i => w12.heap.size ≤ i) A5 t.leads.length (t.leads.map Value.string) → Grows (w5.alloc o) w6 (.slice An ps1.length cn) v6 → w6.ownsRow b0 48 4 v6 (ps1.length + 1) (ps1.flatMap PX.cells ++ [.int .i64 t.kind, .string t.text, .slice A5 t.leads.length c5, .slice kA1 ks.length kc1]) → NodePost w b0 pb bm nv rv ps R t.plain (.returned (.int .i64 (ps1.length : Int))) (w6.setCell ⟨pb, 0, none⟩ v6)) := fun A5 c5 w5 w6 v6 o hb hr hg ho => by
            obtain ⟨q1, q2⟩ := node_new (W := W) HP8.out HX.out HFX.out HGOOD.out HKL2.out HM12.out HG12.out hb hr hg ho (owns_below HN.out.own HB8.out (own_lt HN.out.own)) (by omega) hpbW hbmW HN.out.kvR hpbm
            refine ⟨v6, _, _, _, ps1.length, rfl, ?_, q1, ?_, ?_, ?_⟩
            · rw [HPUT.out]
              unfold putN
              rw [HFX.out, List.map_append, List.length_map, HX.out]
              rfl
            · exact (((Chg.of_new HBW.out _).trans HN.out.chg (fun _ _ x => x)).trans (Chg.of_new HB8.out _) (fun _ _ x => x)).trans q2 (fun i hi x => by
                rcases x with x | x | x
                · exact .inl x
                · exact .inr (.inl x)
                · rcases HN.out.newN i x with h1 | h1
                  · exact .inr (.inr h1)
                  · omega)
            · intro i hi
              have hzz := hb.size
              rcases hi with hi | hi | ⟨hn, ad, e, rfl⟩
              · rcases HN.out.newR i hi with h1 | h1
                · exact .inl h1
                · exact .inr (by omega)
              · have := own_from HN.out.own i hi
                exact .inr (by omega)
              · obtain ⟨g, off, e', h1, -, -⟩ := hr.2 hn
                rw [e] at e'
                injection e' with e'
                subst e'
                exact .inr (by show w.heap.size ≤ g; omega)
            · intro g hg'
              have hzz := hb.size
              rcases hg.own g hg' with h1 | h1
              · rcases HN.out.newN g h1 with h2 | h2
                · exact .inl h2
                · exact .inr (by omega)
              · simp at h1
                exact .inr (by omega)
          have c00 := (HCE.out _ B0.out).2.2.2
          rw [late_load _ 63]
          go_region_held3 (fun w' => w'.cell? ⟨w.heap.size, 0, none⟩ = some (.int .i64 t.kind) ∧ w'.cell? ⟨w.heap.size, 1, none⟩ = some (.string t.text) ∧ w'.cell? ⟨w.heap.size, 2, none⟩ = some (.slice t.lA t.leads.length t.lc)) (first | (with_reducible exact f3 (HCE.out _ B0.out)) | (with_reducible exact f3 (HCE.out _ B00.out)) | (with_reducible exact f3 (HCE.out _ B5.out)) | (with_reducible exact f3 (HCE.out _ (bal B5.out _))) | (with_reducible exact f3 HS6.out) | (with_reducible exact HS7.out _)) (first | (refine step_append_row _ rfl (.tmp 64) (.tmp 74) 26 26 rfl b0 48 i4 (.agg #[.int .i64 0, .string ⟨#[]⟩, .slice none 0 0, .slice none 0 0]) 4 72 Tryd.underlying26 HI4.out HY0.out HY1.out HY2.out rfl (by decide) (.slice An ps1.length cn) ps1.length (ps1.flatMap PX.cells) rfl (HNR.out _ (bal B5.out _)) (.slice (some ⟨w5.heap.size, 0, none⟩) 1 1) 1 [.int .i64 t.kind, .string t.text, .slice A5 t.leads.length c5, .slice kA1 ks.length kc1] rfl (src_new w5 Tryd.underlying26 _ 4 1 1 48 rfl (one_node _ _ _ _ _ _ _ _)) HM1.out HM2.out HZ5.out ?_; intro v6 w6 ho6 hg6; obtain ⟨A6, c6, rfl, -, -⟩ := reads_of_owns ho6; have HO6 := Lib.hid ho6; have HG6 := Lib.hid hg6; have HS6 := Lib.hid (HKE.out _ _ _ _ B5.out hg6); have fz6 := (HBP6.out _ _ _ _ B5.out hg6).1.frozen 0; have c60 := HS6.out.2.2.2; have HS7 := Lib.hid (fun v => s7 (v := v) hlpb HS6.out); clear ho6 hg6) | (go_at_call 64; refine (HCL.out _ B0.out).mono ?_; rintro e w5 ⟨A5, c5, rfl, hr5, hb5⟩; have B5 := Lib.hid hb5; have c50 := (HCE.out _ hb5).2.2.2; have c5a := (HCE.out _ (bal hb5 (.cells #[.int .i64 t.kind, .string t.text, .slice A5 t.leads.length c5, .slice kA1 ks.length kc1] 48))).2.2.2; have HR5 := Lib.hid hr5; have HZ5 := Lib.hid (show b0 ≤ (w5.alloc (.cells #[.int .i64 t.kind, .string t.text, .slice A5 t.leads.length c5, .slice kA1 ks.length kc1] 48)).heap.size by have := hb5.size; simp; omega); clear hr5 hb5))
          all_goals
            have HE := Lib.hid (HEN.out _ _ _ _ _ _ B5.out HR5.out HG6.out HO6.out)
            clear c00 c50 c5a c60 fz6 HEN
            go_wp2_with fail
            go_ret
            exact HE.out
        · have hlk := look_yes HP8.out HGOOD.out hfx
          have HE : Hid (∀ n, NodePost w b0 pb bm nv rv ps R t.plain (.returned (.int .i64 (i : Int))) (w8.drewN n)) := fun n => by
            refine ⟨_, ps1, D1, R1, i, rfl, ?_, HP8.out.drewN n, ?_, ?_, ?_⟩
            · rw [HPUT.out]; unfold putN; rw [hfx]
            · exact (((Chg.of_new HBW.out _).trans HN.out.chg (fun _ _ x => x)).trans (Chg.of_new HB8.out _) (fun _ _ x => x)).drewN n
            · intro i hi
              rcases HN.out.newR i hi with h1 | h1
              · exact .inl h1
              · exact .inr (by omega)
            · intro g hg
              rcases HN.out.newN g hg with h1 | h1
              · exact .inl h1
              · exact .inr (by omega)
          unfold keyArr at hlk
          clear hfx
          go_wp2_with fail
          go_quiet (fail)
          clear hlk
          go_wp2_with fail
          go_ret
          exact HE.out _
end Go.Proofs.YtdabmjcpiblofaaDoor
