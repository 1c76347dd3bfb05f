/-
  Replace, the reference's. No condition.
-/
import Derived.Test.YthaepakpeamajaaTrR
namespace Go.Proofs.Ythaepakpeamajaa
open Go.RowKit
set_option linter.unusedVariables false

def RReplPost (w : World) (t u : TX) (o : Option T) (e : Ending) (w' : World) : Prop :=
  Below w.heap.size w w' ∧ match o with
  | none => e = .returned (.tuple #[.agg zeroArr, .bool false])
  | some T' => ∃ x : TX, e = .returned (.tuple #[x.val, .bool true]) ∧ x.plain = T' ∧ Tr w' w'.heap.size x ∧ ∀ S : Nat → Prop, InS S t → InS S u → InS (fun b => S b ∨ w.heap.size ≤ b) x
theorem RReplPost.none_ {w w' : World} {t u : TX} {o : Option T} (hb : Below w.heap.size w w') (ho : o = none) : RReplPost w t u o (.returned (.tuple #[.agg zeroArr, .bool false])) w' := by
  subst ho; exact ⟨hb, rfl⟩
theorem RReplPost.some_ {w w' : World} {t u : TX} {o : Option T} {x : TX} (hb : Below w.heap.size w w') (ho : o = some x.plain) (hx : Tr w' w'.heap.size x) (hs : ∀ S : Nat → Prop, InS S t → InS S u → InS (fun b => S b ∨ w.heap.size ≤ b) x) : RReplPost w t u o (.returned (.tuple #[x.val, .bool true])) w' := by
  subst ho; exact ⟨hb, x, rfl, rfl, hx, hs⟩
theorem owns_blk {w : World} {base : Nat} {e : TypeId} {size n : Nat} {v : Value} {xs : List Value} (h : w.ownsRow base e size v n xs) (hn : 0 < n) : ∃ g cap ex, v = .slice (some ⟨g, 0, none⟩) n cap ∧ base ≤ g ∧ n ≤ cap ∧ Blk w g e (xs ++ ex).toArray := by
  rcases h.2 with ⟨_, h0⟩ | ⟨g, cap, cur, rfl, hb, hh, hnc, hcm, hcs, htk⟩
  · omega
  · refine ⟨g, cap, cur.toList.drop (n * size), rfl, hb, hnc, ?_⟩
    rw [← htk, List.take_append_drop]
    exact hh
theorem repl_out {t : TX} {i : Int} {p : List Int} {u : T} (h : i < 0 ∨ (t.kids.length : Int) ≤ i) : t.plain.repl (i :: p) u = none := by
  rw [T.repl, plain_kids, List.length_map, if_pos h]
theorem repl_sub_none {t k : TX} {i : Int} {p : List Int} {u : T} (h0 : 0 ≤ i) (h1 : i < t.kids.length) (hk : t.kids[i.toNat]? = some k) (hr : k.plain.repl p u = none) : t.plain.repl (i :: p) u = none := by
  rw [T.repl, plain_kids, List.length_map, if_neg (by omega), List.getElem?_map, hk]
  simp [hr]
/-- a tree with another array of kids, in which one is changed -/
theorem new_kid {w1 w' : World} {t k x : TX} {g m cap B : Nat} {ex : List Value} (hk : t.kids[m]? = some k) (ht : Tr w1 B t) (hx : Tr w1 w1.heap.size x) (hB : Blk w' g 25 ((t.kids.set m x).flatMap TX.cells ++ ex).toArray) (hc : t.kids.length ≤ cap) {S : Nat → Prop} (hsx : InS S x) (htS : ∀ b, b < B → S b) (hsz : w1.heap.size ≤ w'.heap.size) (hB1 : B ≤ w1.heap.size)
    (hkeep : ∀ p : Addr, S p.block → p.block < w1.heap.size → w'.cell? p = w1.cell? p) : Tr w' w'.heap.size (.node t.kind t.text t.lA t.leads t.lc (some ⟨g, 0, none⟩) (t.kids.set m x) cap) := by
  have hin := ht.ins
  have ht' := ht.keepS hin (w' := w') (fun p h1 h2 => hkeep p (htS _ h1) (by omega))
  refine .mk _ ?_ ((ht'.rl).more (by omega)) (by show (t.kids.set m x).length * 72 ≤ _; rw [List.length_set]; exact ht.kbs) (by show (t.kids.set m x).length ≤ cap; rw [List.length_set]; exact hc) ht.lbs ht.kr (fun y hy => ?_)
  · show Reads w' _ 4 (some ⟨g, 0, none⟩) (t.kids.set m x).length ((t.kids.set m x).flatMap TX.cells)
    refine ⟨flat_len TX.cells_len _, fun _ => ⟨_, rfl, hB.lt, fun j u hu => ?_⟩⟩
    rw [Addr.add_lit, Nat.zero_add, hB.cell, List.getElem?_toArray, List.getElem?_append_left (List.getElem?_eq_some_iff.1 hu).1]
    exact hu
  · have hy' : y ∈ t.kids.set m x := hy
    rcases List.mem_or_eq_of_mem_set hy' with h | rfl
    · exact (ht'.sub y h).more (by omega)
    · exact (hx.keepS hsx hkeep).more hsz
theorem flat_set_ex {xs : List TX} {j : Nat} {x : TX} {ex : List Value} (h : xs[j]? = some x) (y : TX) : ((((((xs.flatMap TX.cells ++ ex).toArray.setIfInBounds (j * 4) (.int .i64 y.kind)).setIfInBounds (j * 4 + 1) (.string y.text)).setIfInBounds (j * 4 + 2) (.slice y.lA y.leads.length y.lc)).setIfInBounds (j * 4 + 3) (.slice y.kA y.kids.length y.kc))) = ((xs.set j y).flatMap TX.cells ++ ex).toArray := by
  have hl := (List.getElem?_eq_some_iff.1 h).1
  have hf := flat_len TX.cells_len xs
  rw [← flat_set h y]
  simp only [List.setIfInBounds_toArray]
  rw [List.set_append_left _ _ (by omega), List.set_append_left _ _ (by simp only [List.length_set]; omega), List.set_append_left _ _ (by simp only [List.length_set]; omega), List.set_append_left _ _ (by simp only [List.length_set]; omega)]

theorem RReplPost.get {w w' : World} {t u : TX} {o : Option T} {e : Ending} (h : RReplPost w t u o e w') : ∃ x : TX, e = .returned (.tuple #[x.val, .bool o.isSome]) ∧ Below w.heap.size w w' ∧ ∀ T', o = some T' → x.plain = T' ∧ Tr w' w'.heap.size x ∧ ∀ S : Nat → Prop, InS S t → InS S u → InS (fun b => S b ∨ w.heap.size ≤ b) x := by
  obtain ⟨hb, h⟩ := h
  cases o with
  | none => exact ⟨TX.zero, h, hb, fun T' h' => by cases h'⟩
  | some T0 =>
    obtain ⟨x, he, hp, ht, hs⟩ := h
    exact ⟨x, he, hb, fun T' h' => by cases h'; exact ⟨hp, ht, hs⟩⟩
/-- behind the inner call: the node that it returned lies in a box -/
structure RMid (V : World) (t u : TX) (o : Option T) (wr : World) (bx : Nat) (x : TX) : Prop where
  bel : Below V.heap.size V wr
  box : Blk wr bx 25 x.arr
  lo : V.heap.size ≤ bx
  got : ∀ T', o = some T' → x.plain = T' ∧ Tr wr wr.heap.size x ∧ ∀ S : Nat → Prop, InS S t → InS S u → InS (fun b => S b ∨ V.heap.size ≤ b) x
theorem RMid.a {V w1 w2 : World} {t u x : TX} {o : Option T} (h1 : Below V.heap.size V w1) (h2 : Below w1.heap.size w1 w2) (hg : ∀ T', o = some T' → x.plain = T' ∧ Tr w2 w2.heap.size x ∧ ∀ S : Nat → Prop, InS S t → InS S u → InS (fun b => S b ∨ w1.heap.size ≤ b) x) : RMid V t u o (w2.alloc (.cells x.arr 25)) w2.heap.size x := by
  have h3 := h1.trans (h2.mono h1.size)
  have hz := h1.size
  have hz2 := h2.size
  refine ⟨h3.alloc h3.size _, Blk.new w2 25 _, by omega, fun T' ho => ?_⟩
  obtain ⟨g1, g2, g3⟩ := hg T' ho
  exact ⟨g1, g2.up (Nat.le_refl _) ((Below.refl _ w2).alloc (Nat.le_refl _) _), fun S hs hu => (g3 S hs hu).mono (fun b hb => by rcases hb with h | h; exact .inl h; exact .inr (by omega))⟩
theorem four_of {cs : Array Value} (h : cs.size = 4) : ∃ a0 a1 a2 a3, cs = #[a0, a1, a2, a3] := by
  obtain ⟨l⟩ := cs
  match l, h with
  | [a0, a1, a2, a3], _ => exact ⟨a0, a1, a2, a3, rfl⟩
theorem RMid.b {V w1 w2 : World} {t u x : TX} {o : Option T} {cs : Array Value} {B : Nat} (h1 : Below V.heap.size V w1) (hcs : cs.size = 4) (h2 : Below (w1.alloc (.cells cs 25)).heap.size (w1.alloc (.cells cs 25)) w2) (hg : ∀ T', o = some T' → x.plain = T' ∧ Tr w2 w2.heap.size x ∧ ∀ S : Nat → Prop, InS S t → InS S u → InS (fun b => S b ∨ (w1.alloc (.cells cs 25)).heap.size ≤ b) x) (hB : B ≤ V.heap.size) (ht : InS (· < B) t) (hu : InS (· < B) u) :
    RMid V t u o ((((w2.setCell ⟨w1.heap.size, 0, none⟩ (.int .i64 x.kind)).setCell ⟨w1.heap.size, 1, none⟩ (.string x.text)).setCell ⟨w1.heap.size, 2, none⟩ (.slice x.lA x.leads.length x.lc)).setCell ⟨w1.heap.size, 3, none⟩ (.slice x.kA x.kids.length x.kc)) w1.heap.size x := by
  have hz := h1.size
  have hsz : (w1.alloc (.cells cs 25)).heap.size = w1.heap.size + 1 := by simp
  have h0 : Below w1.heap.size w1 (w1.alloc (.cells cs 25)) := (Below.refl _ w1).alloc (Nat.le_refl _) _
  have h3 : Below V.heap.size V w2 := h1.trans ((h0.trans (h2.mono h0.size)).mono hz)
  have hk : Blk w2 w1.heap.size 25 cs := (Blk.new w1 25 cs).below h2 (by omega)
  obtain ⟨a0, a1, a2, a3, rfl⟩ : ∃ a0 a1 a2 a3, cs = #[a0, a1, a2, a3] := four_of hcs
  have htc := tc_putV (S := fun b => b = w1.heap.size) hk rfl (.int .i64 x.kind) (.string x.text) (.slice x.lA x.leads.length x.lc) (.slice x.kA x.kids.length x.kc)
  refine ⟨h3.trans (htc.below h3.size (fun b h => by omega)), blk_putV hk _ _ _ _, hz, fun T' ho => ?_⟩
  obtain ⟨g1, g2, g3⟩ := hg T' ho
  have hx := g3 _ ht hu
  refine ⟨g1, (g2.keepS hx (fun p hp hp2 => World.cell?_of_block (htc.block p.block hp2 (by omega)))).more htc.size, fun S hs hu' => (g3 S hs hu').mono (fun b hb => by rcases hb with h | h; exact .inl h; exact .inr (by omega))⟩

theorem blk_under {V w2 : World} {cs : Array Value} (h : Below (V.drew.alloc (.cells cs 25)).heap.size (V.drew.alloc (.cells cs 25)) w2) : Blk w2 V.heap.size 25 cs := by
  have hsz : (V.drew.alloc (.cells cs 25)).heap.size = V.heap.size + 1 := by simp
  exact (Blk.new V.drew 25 cs).below h (by show V.heap.size < _; omega)

theorem cells_one {xs : List TX} : ∀ u ∈ xs.flatMap TX.cells, u.oneCell' = true := fun u hu => by
  obtain ⟨x, -, hx⟩ := List.mem_flatMap.1 hu
  simp [TX.cells] at hx
  rcases hx with rfl | rfl | rfl | rfl <;> rfl
theorem put_zone {w3 : World} {b0 b2 g m n cap : Nat} {a0 a1 a2 a3 : Value} {t x k : TX} {ex : List Value} (h0 : Blk w3 b0 25 t.arr) (h2 : Blk w3 b2 25 #[a0, a1, a2, a3]) (hg : Blk w3 g 25 (t.kids.flatMap TX.cells ++ ex).toArray) (hk : t.kids[m]? = some k) (n02 : b0 ≠ b2) (n0g : b0 ≠ g) (n2g : b2 ≠ g) (w4 w5 w6 : World)
    (e4 : (w3.setCell ⟨b0, 3, none⟩ (.slice (some ⟨g, 0, none⟩) n cap)).drew = w4)
    (e5 : ((((w4.setCell ⟨g, m * 4, none⟩ (.int .i64 x.kind)).setCell ⟨g, m * 4 + 1, none⟩ (.string x.text)).setCell ⟨g, m * 4 + 2, none⟩ (.slice x.lA x.leads.length x.lc)).setCell ⟨g, m * 4 + 3, none⟩ (.slice x.kA x.kids.length x.kc)) = w5)
    (e6 : ((((w5.setCell ⟨b2, 0, none⟩ (.int .i64 t.kind)).setCell ⟨b2, 1, none⟩ (.string t.text)).setCell ⟨b2, 2, none⟩ (.slice t.lA t.leads.length t.lc)).setCell ⟨b2, 3, none⟩ (.slice (some ⟨g, 0, none⟩) n cap)) = w6) :
    Blk w4 g 25 (t.kids.flatMap TX.cells ++ ex).toArray ∧ Blk w4 b0 25 #[.int .i64 t.kind, .string t.text, .slice t.lA t.leads.length t.lc, .slice (some ⟨g, 0, none⟩) n cap] ∧ Blk w5 b0 25 #[.int .i64 t.kind, .string t.text, .slice t.lA t.leads.length t.lc, .slice (some ⟨g, 0, none⟩) n cap] ∧ Blk w5 b2 25 #[a0, a1, a2, a3] ∧
    Blk w6 b2 25 #[.int .i64 t.kind, .string t.text, .slice t.lA t.leads.length t.lc, .slice (some ⟨g, 0, none⟩) n cap] ∧ Blk w6 g 25 ((t.kids.set m x).flatMap TX.cells ++ ex).toArray ∧ TC w3 w6 (fun b => b = b0 ∨ b = b2 ∨ b = g) := by
  have q0 : Blk w4 b0 25 #[.int .i64 t.kind, .string t.text, .slice t.lA t.leads.length t.lc, .slice (some ⟨g, 0, none⟩) n cap] := by rw [← e4]; exact h0.set_ 3 _
  have q2 : Blk w4 b2 25 #[a0, a1, a2, a3] := by rw [← e4]; exact h2.far (p := ⟨b0, 3, none⟩) (fun e => n02 e.symm) _
  have qg : Blk w4 g 25 (t.kids.flatMap TX.cells ++ ex).toArray := by rw [← e4]; exact hg.far (p := ⟨b0, 3, none⟩) (fun e => n0g e.symm) _
  have t4 : TC w3 w4 (fun b => b = b0 ∨ b = b2 ∨ b = g) := by rw [← e4]; exact (TC.set_ (S := fun b => b = b0 ∨ b = b2 ∨ b = g) h0 (by decide) (.inl rfl) _ _).drewN 1
  have r0 : Blk w5 b0 25 #[.int .i64 t.kind, .string t.text, .slice t.lA t.leads.length t.lc, .slice (some ⟨g, 0, none⟩) n cap] := by rw [← e5]; exact far_putA q0 n0g x
  have r2 : Blk w5 b2 25 #[a0, a1, a2, a3] := by rw [← e5]; exact far_putA q2 n2g x
  have rg : Blk w5 g 25 ((t.kids.set m x).flatMap TX.cells ++ ex).toArray := by rw [← e5, ← flat_set_ex hk x]; exact set_cells qg x
  have t5 : TC w4 w5 (fun b => b = b0 ∨ b = b2 ∨ b = g) := by rw [← e5]; exact tc_cells (S := fun b => b = b0 ∨ b = b2 ∨ b = g) qg (.inr (.inr rfl)) x
  have t6 : TC w5 w6 (fun b => b = b2) := by rw [← e6]; exact tc_putV (S := fun b => b = b2) r2 rfl _ _ _ _
  exact ⟨qg, q0, r0, r2, by rw [← e6]; exact blk_putV r2 _ _ _ _, t6.blk rg (fun e => n2g e.symm), (t4.trans t5).trans (t6.mono (fun b _ h => .inr (.inl h)))⟩

set_option maxRecDepth 100000 in
set_option maxHeartbeats 3200000 in
theorem rreplace_any (p : List Int) : ∀ (t u : TX) (A : Option Addr) (c : Nat) (w : World), Tr w w.heap.size t → Tr w w.heap.size u → Reads w w.heap.size 1 A p.length (p.map (Value.int .i64)) → p.length ≤ c → p.length ≤ 140737488351232 →
    Calls Try.prog 20 #[t.val, .slice A p.length c, u.val] w (RReplPost w t u (t.plain.repl p u.plain)) := by
  induction p with
  | nil =>
    intro t u A c w h hu hp hc hl
    obtain ⟨W, hW⟩ : ∃ W, ((w.alloc (.cells #[.int .i64 t.kind, .string t.text, .slice t.lA t.leads.length t.lc, .slice t.kA t.kids.length t.kc] 25)).alloc (.cells #[.int .i64 u.kind, .string u.text, .slice u.lA u.leads.length u.lc, .slice u.kA u.kids.length u.kc] 25)).alloc (.cells #[.int .i64 u.kind, .string u.text, .slice u.lA u.leads.length u.lc, .slice u.kA u.kids.length u.kc] 25) = W := ⟨_, rfl⟩
    have HBW : Hid (Below w.heap.size w W) := by subst hW; exact (((Below.refl _ w).alloc (Nat.le_refl _) _).alloc (by simp) _).alloc (by simp; omega) _
    have HZ : Hid (Blk W (w.heap.size + 1 + 1) 25 u.arr) := by subst hW; exact Blk.new' 25 _ (by simp)
    have x0 := HZ.out.cell 0
    have x1 := HZ.out.cell 1
    have x2 := HZ.out.cell 2
    have x3 := HZ.out.cell 3
    simp [TX.arr] at x0 x1 x2 x3
    have HE : Hid (t.plain.repl [] u.plain = some u.plain) := by unfold Hid; rw [T.repl]
    have HU := Lib.hid (hu.up (Nat.le_refl _) HBW.out)
    simp only [List.length_nil]
    unfold TX.val
    clear h hu hp
    go_enter Try.func20, Try.ntmps20
    go_wp2_with fail
    refine bodyPost_ret (v := .tuple #[u.val, .bool true]) (by simp [results, Try.results20, go_sem, x0, x1, x2, x3, TX.val]) rfl ?_
    exact RReplPost.some_ HBW.out HE.out HU.out (fun S _ hu => hu.mono (fun b h => .inl h))
  | cons i q ih =>
    intro t u A c w h hu hp hc hl
    simp only [List.length_cons] at hp hc hl ⊢
    obtain ⟨n, hn⟩ : ∃ n, q.length = n := ⟨_, rfl⟩
    rw [hn] at hp hc hl ih ⊢
    obtain ⟨W, hW⟩ : ∃ W, ((w.alloc (.cells #[.int .i64 t.kind, .string t.text, .slice t.lA t.leads.length t.lc, .slice t.kA t.kids.length t.kc] 25)).alloc (.cells #[.int .i64 u.kind, .string u.text, .slice u.lA u.leads.length u.lc, .slice u.kA u.kids.length u.kc] 25)).alloc (.cells #[.int .i64 0, .string ⟨#[]⟩, .slice none 0 0, .slice none 0 0] 25) = W := ⟨_, rfl⟩
    have HSZ : Hid (W.heap.size = w.heap.size + 1 + 1 + 1) := by subst hW; simp [Hid]
    have HBW : Hid (Below w.heap.size w W) := by subst hW; exact (((Below.refl _ w).alloc (Nat.le_refl _) _).alloc (by simp) _).alloc (by simp; omega) _
    have HX : Hid (Blk W w.heap.size 25 t.arr) := by subst hW; exact ((Blk.new w 25 _).alloc _).alloc _
    have HU : Hid (Blk W (w.heap.size + 1) 25 u.arr) := by subst hW; exact (Blk.new' 25 _ (by simp)).alloc _
    have HZ : Hid (Blk W (w.heap.size + 1 + 1) 25 #[.int .i64 0, .string ByteArray.empty, .slice none 0 0, .slice none 0 0]) := by subst hW; exact Blk.new' 25 zeroArr (by simp)
    have HT := Lib.hid h
    have HTU := Lib.hid hu
    have HP := Lib.hid hp
    have HIH := Lib.hid ih
    have HN := Lib.hid hn
    have d3 := HX.out.cell 3
    simp [TX.arr] at d3
    obtain ⟨b1, o1, u1, rfl, hb1, hu1, g1⟩ := (hp.below HBW.out).at1 (show 0 < n + 1 by omega)
    obtain rfl : u1 = .int .i64 i := by simpa using hu1.symm
    rw [Nat.add_zero] at g1
    have i1 : (0 : Int) < (n : Int) + 1 := by omega
    have i2 : (0 : Int) < ((n + 1 : Nat) : Int) := by omega
    have e10 : ((n : Int) + 1 == 0) = false := by simp; omega
    have e11 : (((n + 1 : Nat) : Int) == 0) = false := by simp; omega
    have e12 : (n + 1 == 0) = false := by simp
    unfold TX.val
    clear h hu hp ih hn hu1
    by_cases hin : 0 ≤ i ∧ i < t.kids.length
    · obtain ⟨h0, h1⟩ := hin
      obtain ⟨m, rfl⟩ : ∃ m : Nat, i = m := ⟨i.toNat, by omega⟩
      have n1 : decide ((m : Int) < 0) = false := by simp
      have n2 : decide (t.kids.length ≤ m) = false := by simp; omega
      have n3 : decide ((t.kids.length : Int) ≤ (m : Int)) = false := by simp; omega
      obtain ⟨k, hk⟩ : ∃ k, t.kids[m]? = some k := ⟨_, List.getElem?_eq_getElem (by omega)⟩
      obtain ⟨ab, ao, hA, hab, -⟩ := HT.out.at_ hk
      rw [hA] at d3
      have HA := Lib.hid hA
      have HK := Lib.hid hk
      clear hA hk
      go_enter Try.func20, Try.ntmps20
      go_wp2_with fail
      go_quiet (fail)
      go_wp2_with fail
      obtain ⟨V, hV⟩ : ∃ V, W.drewN nq = V := ⟨_, rfl⟩
      have HBV0 : Hid (Below W.heap.size W V) := by subst hV; exact below_drewN (Below.refl _ W) nq
      have HBV := Lib.hid (HBW.out.trans (HBV0.out.mono HBW.out.size))
      have HXV := Lib.hid (HX.out.below HBV0.out HX.out.lt)
      have HUV := Lib.hid (HU.out.below HBV0.out HU.out.lt)
      have HZV := Lib.hid (HZ.out.below HBV0.out HZ.out.lt)
      have HSV : Hid (V.heap.size = w.heap.size + 1 + 1 + 1) := by subst hV; exact HSZ.out
      have hP1 : Reads V V.heap.size 1 (some ⟨b1, o1, none⟩) (n + 1) (((m : Int) :: q).map (Value.int .i64)) := (HP.out.below HBV.out).more HBV.out.size
      have hPc := hP1.cut (k := 1) (cap := c) (by omega) (by omega)
      have HHQ : Hid (∃ A' : Option Addr, Reads V V.heap.size 1 A' n (q.map (Value.int .i64)) ∧ (c = 1 ∧ A' = some ⟨b1, o1, none⟩ ∨ c ≠ 1 ∧ A' = some ⟨b1, o1 + 1, none⟩)) := by
        by_cases hc1 : c = 1
        · rw [if_pos hc1] at hPc
          exact ⟨_, by simpa using hPc, .inl ⟨hc1, rfl⟩⟩
        · rw [if_neg hc1] at hPc
          exact ⟨_, by simpa [Addr.add] using hPc, .inr ⟨hc1, rfl⟩⟩
      have HG1 : Hid (V.cell? ⟨b1, o1, none⟩ = some (.int .i64 (m : Int))) := by subst hV; exact g1
      have HBL : Hid (b1 < V.heap.size) := by have := HBW.out.size; have := HBV0.out.size; unfold Hid; omega
      have HSK : Hid (∀ w' : World, Below V.heap.size V w' → w'.cell? ⟨w.heap.size, 3, none⟩ = some (.slice (some ⟨ab, ao, none⟩) t.kids.length t.kc) ∧ w'.cell? ⟨b1, o1, none⟩ = some (.int .i64 (m : Int)) ∧ w'.cell? ⟨ab, ao + m * 4, none⟩ = some (.int .i64 k.kind) ∧ w'.cell? ⟨ab, ao + m * 4 + 1, none⟩ = some (.string k.text) ∧ w'.cell? ⟨ab, ao + m * 4 + 2, none⟩ = some (.slice k.lA k.leads.length k.lc) ∧ w'.cell? ⟨ab, ao + m * 4 + 3, none⟩ = some (.slice k.kA k.kids.length k.kc) ∧ w'.cell? ⟨w.heap.size + 1, 0, none⟩ = some (.int .i64 u.kind) ∧ w'.cell? ⟨w.heap.size + 1, 1, none⟩ = some (.string u.text) ∧ w'.cell? ⟨w.heap.size + 1, 2, none⟩ = some (.slice u.lA u.leads.length u.lc) ∧ w'.cell? ⟨w.heap.size + 1, 3, none⟩ = some (.slice u.kA u.kids.length u.kc)) := fun w' hw => by
        have r1 := HXV.out.below hw HXV.out.lt
        have r2 := HUV.out.below hw HUV.out.lt
        have r3 := ((HT.out.low HBV.out).low (hw.mono HBV.out.size)).c4 HK.out HA.out
        exact ⟨by rw [r1.cell]; show some (Value.slice t.kA _ _) = _; rw [HA.out], (hw.cell (p := ⟨b1, o1, none⟩) HBL.out).trans HG1.out, r3.1, r3.2.1, r3.2.2.1, r3.2.2.2, by rw [r2.cell]; rfl, by rw [r2.cell]; rfl, by rw [r2.cell]; rfl, by rw [r2.cell]; rfl⟩
      have HD : Hid (Below V.heap.size V V.drew) := below_drewN (Below.refl _ _) 1
      have HDA : Hid (Below V.heap.size V (V.drew.alloc (.cells #[.int .i64 0, .string ⟨#[]⟩, .slice none 0 0, .slice none 0 0] 25))) := HD.out.alloc HD.out.size _
      clear hP1 hPc g1 d3 hW
      rw [hV]
      have HV := Lib.hid hV
      clear hV
      have s1 : (1 : Int) ≤ (n : Int) + 1 := by omega
      have s2 : (n : Int) + 1 ≤ (c : Int) := by omega
      have s3 : (1 : Int) ≤ (c : Int) := by omega
      go_cut [8, 9] (fun v8 v9 wr => ∃ (bx : Nat) (x : TX), v8 = .pointer (some ⟨bx, 0, none⟩) ∧ v9 = .bool (k.plain.repl q u.plain).isSome ∧ Hid (RMid V k u (k.plain.repl q u.plain) wr bx x))
      case first =>
        obtain ⟨A', hPA, hcc⟩ := HHQ.out
        have HCW : Hid (∀ w' : World, Below V.heap.size V w' → Calls Try.prog 20 #[.agg #[.int .i64 k.kind, .string k.text, .slice k.lA k.leads.length k.lc, .slice k.kA k.kids.length k.kc], .slice A' n (c - 1), .agg #[.int .i64 u.kind, .string u.text, .slice u.lA u.leads.length u.lc, .slice u.kA u.kids.length u.kc]] w' (RReplPost w' k u (k.plain.repl q u.plain))) := fun w' hw =>
          HIH.out k u A' (c - 1) w' ((HT.out.sub k (List.mem_of_getElem? HK.out)).up (Nat.le_refl _) (HBV.out.trans (hw.mono HBV.out.size))) (HTU.out.up (Nat.le_refl _) (HBV.out.trans (hw.mono HBV.out.size))) ((hPA.below hw).more hw.size) (by omega) (by omega)
        have HIK : Hid (InS (· < w.heap.size) k ∧ InS (· < w.heap.size) u) := ⟨(HT.out.sub k (List.mem_of_getElem? HK.out)).ins, HTU.out.ins⟩
        have HVZ : Hid (w.heap.size ≤ V.heap.size) := HBV.out.size
        have HVB : Hid (V.heap.size ≤ V.heap.size) := Nat.le_refl _
        rcases hcc with ⟨hc1, rfl⟩ | ⟨hc1, rfl⟩
        · subst hc1
          have hn0 : n = 0 := by omega
          subst hn0
          have HCX : Hid (∀ w' : World, Below V.heap.size V w' → Calls Try.prog 20 #[.agg #[.int .i64 k.kind, .string k.text, .slice k.lA k.leads.length k.lc, .slice k.kA k.kids.length k.kc], .slice (some ⟨b1, o1, none⟩) 0 0, .agg #[.int .i64 u.kind, .string u.text, .slice u.lA u.leads.length u.lc, .slice u.kA u.kids.length u.kc]] w' (RReplPost w' k u (k.plain.repl q u.plain))) := HCW.out
          clear HCW
          have HCW := HCX
          clear HHQ hPA HCX
          go_region_held3 (fun w' => w'.cell? ⟨w.heap.size, 3, none⟩ = some (.slice (some ⟨ab, ao, none⟩) t.kids.length t.kc) ∧ w'.cell? ⟨b1, o1, none⟩ = some (.int .i64 (m : Int)) ∧ w'.cell? ⟨ab, ao + m * 4, none⟩ = some (.int .i64 k.kind) ∧ w'.cell? ⟨ab, ao + m * 4 + 1, none⟩ = some (.string k.text) ∧ w'.cell? ⟨ab, ao + m * 4 + 2, none⟩ = some (.slice k.lA k.leads.length k.lc) ∧ w'.cell? ⟨ab, ao + m * 4 + 3, none⟩ = some (.slice k.kA k.kids.length k.kc) ∧ w'.cell? ⟨w.heap.size + 1, 0, none⟩ = some (.int .i64 u.kind) ∧ w'.cell? ⟨w.heap.size + 1, 1, none⟩ = some (.string u.text) ∧ w'.cell? ⟨w.heap.size + 1, 2, none⟩ = some (.slice u.lA u.leads.length u.lc) ∧ w'.cell? ⟨w.heap.size + 1, 3, none⟩ = some (.slice u.kA u.kids.length u.kc)) (first | exact HSK.out _ HD.out | exact HSK.out _ HDA.out | exact HSK.out _ HE1.out | exact HSK.out _ (HE1.out.alloc HE1.out.size _) | exact HSK.out _ (below_put4 HE1.out HVB.out x)) (first | (go_at_call 20; refine (HCW.out _ HD.out).mono ?_; intro e w2 hq; obtain ⟨x, rfl, hb2, hgx⟩ := hq.get; have HE1 := Lib.hid (HD.out.trans (hb2.mono HD.out.size)); have HGA := Lib.hid (RMid.a HD.out hb2 hgx); clear hq hb2 hgx; unfold TX.val) | (go_at_call 20; refine (HCW.out _ HDA.out).mono ?_; intro e w2 hq; obtain ⟨x, rfl, hb2, hgx⟩ := hq.get; have HE1 := Lib.hid (HDA.out.trans (hb2.mono HDA.out.size)); have HGB := Lib.hid (RMid.b HD.out rfl hb2 hgx HVZ.out HIK.out.1 HIK.out.2); have hkz := blk_under hb2; have z0 := hkz.frozen 0; have z1 := hkz.frozen 1; have z2 := hkz.frozen 2; have z3 := hkz.frozen 3; have y0 := hkz.cell 0; have y1 := hkz.cell 1; have y2 := hkz.cell 2; have y3 := hkz.cell 3; simp at y0 y1 y2 y3; clear hkz hq hb2 hgx; unfold TX.val))
          all_goals
            go_wp2_with fail
            go_meet
            first | exact ⟨_, _, rfl, rfl, HGA⟩ | exact ⟨_, _, rfl, rfl, HGB⟩
        · have hd1 : decide (c = 1) = false := by simpa using hc1
          clear HHQ hPA
          go_region_held3 (fun w' => w'.cell? ⟨w.heap.size, 3, none⟩ = some (.slice (some ⟨ab, ao, none⟩) t.kids.length t.kc) ∧ w'.cell? ⟨b1, o1, none⟩ = some (.int .i64 (m : Int)) ∧ w'.cell? ⟨ab, ao + m * 4, none⟩ = some (.int .i64 k.kind) ∧ w'.cell? ⟨ab, ao + m * 4 + 1, none⟩ = some (.string k.text) ∧ w'.cell? ⟨ab, ao + m * 4 + 2, none⟩ = some (.slice k.lA k.leads.length k.lc) ∧ w'.cell? ⟨ab, ao + m * 4 + 3, none⟩ = some (.slice k.kA k.kids.length k.kc) ∧ w'.cell? ⟨w.heap.size + 1, 0, none⟩ = some (.int .i64 u.kind) ∧ w'.cell? ⟨w.heap.size + 1, 1, none⟩ = some (.string u.text) ∧ w'.cell? ⟨w.heap.size + 1, 2, none⟩ = some (.slice u.lA u.leads.length u.lc) ∧ w'.cell? ⟨w.heap.size + 1, 3, none⟩ = some (.slice u.kA u.kids.length u.kc)) (first | exact HSK.out _ HD.out | exact HSK.out _ HDA.out | exact HSK.out _ HE1.out | exact HSK.out _ (HE1.out.alloc HE1.out.size _) | exact HSK.out _ (below_put4 HE1.out HVB.out x)) (first | (go_at_call 20; refine (HCW.out _ HD.out).mono ?_; intro e w2 hq; obtain ⟨x, rfl, hb2, hgx⟩ := hq.get; have HE1 := Lib.hid (HD.out.trans (hb2.mono HD.out.size)); have HGA := Lib.hid (RMid.a HD.out hb2 hgx); clear hq hb2 hgx; unfold TX.val) | (go_at_call 20; refine (HCW.out _ HDA.out).mono ?_; intro e w2 hq; obtain ⟨x, rfl, hb2, hgx⟩ := hq.get; have HE1 := Lib.hid (HDA.out.trans (hb2.mono HDA.out.size)); have HGB := Lib.hid (RMid.b HD.out rfl hb2 hgx HVZ.out HIK.out.1 HIK.out.2); have hkz := blk_under hb2; have z0 := hkz.frozen 0; have z1 := hkz.frozen 1; have z2 := hkz.frozen 2; have z3 := hkz.frozen 3; have y0 := hkz.cell 0; have y1 := hkz.cell 1; have y2 := hkz.cell 2; have y3 := hkz.cell 3; simp at y0 y1 y2 y3; clear hkz hq hb2 hgx; unfold TX.val))
          all_goals
            go_wp2_with fail
            go_meet
            first | exact ⟨_, _, rfl, rfl, HGA⟩ | exact ⟨_, _, rfl, rfl, HGB⟩
      case rest =>
        obtain ⟨bx, x, rfl, rfl, HM⟩ := hcut
        have HBc := Lib.hid (HBV.out.trans (HM.out.bel.mono HBV.out.size))
        have HXc := Lib.hid (HXV.out.below HM.out.bel HXV.out.lt)
        have HZc : Hid (Blk wc (w.heap.size + 1 + 1) 25 #[.int .i64 0, .string ByteArray.empty, .slice none 0 0, .slice none 0 0]) := HZV.out.below HM.out.bel HZV.out.lt
        cases ho : k.plain.repl q u.plain with
        | none =>
          have HNN : Hid (t.plain.repl ((m : Int) :: q) u.plain = none) := repl_sub_none h0 h1 (by simpa using HK.out) ho
          have HO := Lib.hid ho
          clear ho
          have z0 := HZc.out.frozen 0
          have z1 := HZc.out.frozen 1
          have z2 := HZc.out.frozen 2
          have z3 := HZc.out.frozen 3
          have y0 := HZc.out.cell 0
          have y1 := HZc.out.cell 1
          have y2 := HZc.out.cell 2
          have y3 := HZc.out.cell 3
          simp at y0 y1 y2 y3
          have HXE := Lib.hid (blk_putV HZc.out (.int .i64 0) (.string ⟨#[]⟩) (.slice none 0 0) (.slice none 0 0))
          have HTC := Lib.hid (tc_putV (S := fun b => b = w.heap.size + 1 + 1) HZc.out rfl (.int .i64 0) (.string ⟨#[]⟩) (.slice none 0 0) (.slice none 0 0))
          have x0 := HXE.out.cell 0
          have x1 := HXE.out.cell 1
          have x2 := HXE.out.cell 2
          have x3 := HXE.out.cell 3
          simp at x0 x1 x2 x3
          go_wp2_with fail
          refine bodyPost_ret (v := .tuple #[.agg zeroArr, .bool false]) (by simp [results, Try.results20, go_sem, x0, x1, x2, x3, zeroArr]; rfl) rfl ?_
          exact RReplPost.none_ (HBc.out.trans (HTC.out.below HBc.out.size (fun b h => by omega))) HNN.out
        | some T' =>
          obtain ⟨g1, g2, g3⟩ := HM.out.got T' ho
          have HRP : Hid (t.plain.repl ((m : Int) :: q) u.plain = some (.node t.plain.kind t.plain.text t.plain.leads (t.plain.kids.set m T'))) := by
            have := repl_cons (u := u.plain) h0 h1 (by simpa using HK.out) ho
            unfold Hid
            simpa using this
          have HO := Lib.hid ho
          have HG1' := HG1
          clear HG1
          have HG1 := Lib.hid g1
          have HG2 := Lib.hid g2
          have HG3 := Lib.hid g3
          obtain ⟨i0, HI0, HZ0⟩ := Option.map_eq_some_iff.1 tree_info
          have hz1 : i0.zero = some (.agg zeroArr) := by injection HZ0
          have hz2 : i0.size = 4 := by injection HZ0 with _ h; injection h
          have hz3 : i0.bytes = 72 := by injection HZ0 with _ h; injection h
          have HI := Lib.hid HI0
          have HZ1 := Lib.hid hz1
          have HZ2 := Lib.hid hz2
          have HZ3 := Lib.hid hz3
          clear ho g1 g2 g3 HI0 HZ0 hz1 hz2 hz3
          obtain ⟨we, hwe⟩ : ∃ we, wc.alloc (.cells #[] 25) = we := ⟨_, rfl⟩
          have HBe : Hid (Below wc.heap.size wc we) := by subst hwe; exact (Below.refl _ wc).alloc (Nat.le_refl _) _
          have HSe : Hid (we.heap.size = wc.heap.size + 1) := by subst hwe; simp [Hid]
          have HON : Hid (we.ownsRow wc.heap.size 25 4 (.slice (some ⟨wc.heap.size, 0, none⟩) 0 0) 0 []) := by subst hwe; exact ⟨rfl, .inr ⟨wc.heap.size, 0, #[], rfl, Nat.le_refl _, Blk.new wc 25 #[], Nat.le_refl _, Nat.zero_le _, rfl, rfl⟩⟩
          have HSR : Hid (Src Try.prog 4 23 (.slice t.kA t.kids.length t.kc) t.kids.length (t.kids.flatMap TX.cells) we) := src_reads we Try.underlying23 t.kc (HT.out.rk.below (HBc.out.trans (HBe.out.mono HBc.out.size))) cells_one
          rw [HA.out] at HSR
          have HLM : Hid (0 + t.kids.length ≤ maxLen) := by have := HT.out.kb; unfold Hid maxLen; omega
          have HLB : Hid ((0 + t.kids.length) * 72 ≤ 140737488355328) := by have := HT.out.kbs; unfold Hid; omega
          have HLE : Hid (wc.heap.size ≤ we.heap.size) := HBe.out.size
          have HXe := Lib.hid (HXc.out.below HBe.out HXc.out.lt)
          have c3 := HXe.out.cell 3
          simp [TX.arr] at c3
          rw [HA.out] at c3
          go_wp2_with (at_builtin; refine wpList_append_row _ rfl (.tmp 45) (.tmp 47) 23 23 rfl wc.heap.size 25 i0 (.agg zeroArr) 4 72 Try.underlying23 HI.out HZ1.out HZ2.out HZ3.out rfl (by decide) (.slice (some ⟨wc.heap.size, 0, none⟩) 0 0) 0 [] rfl HON.out (.slice (some ⟨ab, ao, none⟩) t.kids.length t.kc) t.kids.length (t.kids.flatMap TX.cells) rfl HSR.out HLM.out HLB.out HLE.out ?_)
          intro v3 w3 hown hgr
          have hml := (List.getElem?_eq_some_iff.1 HK.out).1
          obtain ⟨g, cap, ex, rfl, hg0, hcap, hBg⟩ := owns_blk hown (by omega)
          have hse := HSe.out
          have hb3 : Below wc.heap.size wc w3 := HBe.out.grown hgr.grown (by omega) (fun g' e => by simp [Value.ownBlock] at e; omega)
          have hx3 := HXc.out.below hb3 HXc.out.lt
          have hz3 := HZc.out.below hb3 HZc.out.lt
          have hbx3 := HM.out.box.below hb3 HM.out.box.lt
          have hsv := HSV.out
          have hbs := HM.out.bel.size
          obtain ⟨w4, hw4⟩ : ∃ w4, (w3.setCell ⟨w.heap.size, 3, none⟩ (.slice (some ⟨g, 0, none⟩) t.kids.length cap)).drew = w4 := ⟨_, rfl⟩
          obtain ⟨w5, hw5⟩ : ∃ w5, ((((w4.setCell ⟨g, m * 4, none⟩ (.int .i64 x.kind)).setCell ⟨g, m * 4 + 1, none⟩ (.string x.text)).setCell ⟨g, m * 4 + 2, none⟩ (.slice x.lA x.leads.length x.lc)).setCell ⟨g, m * 4 + 3, none⟩ (.slice x.kA x.kids.length x.kc)) = w5 := ⟨_, rfl⟩
          obtain ⟨w6, hw6⟩ : ∃ w6, ((((w5.setCell ⟨w.heap.size + 1 + 1, 0, none⟩ (.int .i64 t.kind)).setCell ⟨w.heap.size + 1 + 1, 1, none⟩ (.string t.text)).setCell ⟨w.heap.size + 1 + 1, 2, none⟩ (.slice t.lA t.leads.length t.lc)).setCell ⟨w.heap.size + 1 + 1, 3, none⟩ (.slice (some ⟨g, 0, none⟩) t.kids.length cap)) = w6 := ⟨_, rfl⟩
          have hzn := put_zone (x := x) hx3 hz3 hBg HK.out (by omega) (by omega) (by omega) w4 w5 w6 hw4 hw5 hw6
          obtain ⟨p1, p2, p3, p4, p5, p6, p7⟩ := hzn
          have hlo := HM.out.lo
          have hbxl := HM.out.box.lt
          have HBX4 : Hid (Blk w4 bx 25 x.arr) := by rw [← hw4]; exact (hbx3.far (p := ⟨w.heap.size, 3, none⟩) (by show bx ≠ w.heap.size; omega) _).drew
          have HP4 : Hid (w4.cell? ⟨b1, o1, none⟩ = some (.int .i64 (m : Int))) := by
            have hb1' := HBL.out
            rw [← hw4]
            refine (World.cell?_setCell_other w3 _ _ _ (fun e => ?_)).trans ((hb3.cell (p := ⟨b1, o1, none⟩) (by show b1 < _; omega)).trans ((HM.out.bel.cell (p := ⟨b1, o1, none⟩) HBL.out).trans HG1'.out))
            injection e with e
            omega
          have f3 := hx3.frozen 3
          have c3' := hx3.cell 3
          simp [TX.arr] at c3'
          have q0 := p2.cell 0
          have q1 := p2.cell 1
          have q2 := p2.cell 2
          have q3 := p2.cell 3
          simp at q0 q1 q2 q3
          have k0 := HBX4.out.cell 0
          have k1 := HBX4.out.cell 1
          have k2 := HBX4.out.cell 2
          have k3 := HBX4.out.cell 3
          simp [TX.arr] at k0 k1 k2 k3
          have hpp := HP4.out
          have z0 := p1.frozen (m * 4)
          have z1 := p1.frozen (m * 4 + 1)
          have z2 := p1.frozen (m * 4 + 2)
          have z3 := p1.frozen (m * 4 + 3)
          have fl := fun r (hr : r < 4) => flat_at TX.cells_len t.kids m r k HK.out hr
          have fll := flat_len TX.cells_len t.kids
          have y0 := p1.cell (m * 4)
          have y1 := p1.cell (m * 4 + 1)
          have y2 := p1.cell (m * 4 + 2)
          have y3 := p1.cell (m * 4 + 3)
          rw [List.getElem?_toArray, List.getElem?_append_left (by omega)] at y0 y1 y2 y3
          have fl0 := fl 0 (by omega)
          rw [Nat.add_zero] at fl0
          rw [fl0] at y0
          rw [fl 1 (by omega)] at y1
          rw [fl 2 (by omega)] at y2
          rw [fl 3 (by omega)] at y3
          simp [TX.cells] at y0 y1 y2 y3
          have r0 := p3.cell 0
          have r1 := p3.cell 1
          have r2 := p3.cell 2
          have r3 := p3.cell 3
          simp at r0 r1 r2 r3
          have a0 := p4.frozen 0
          have a1 := p4.frozen 1
          have a2 := p4.frozen 2
          have a3 := p4.frozen 3
          have e0 := p4.cell 0
          have e1 := p4.cell 1
          have e2 := p4.cell 2
          have e3 := p4.cell 3
          simp at e0 e1 e2 e3
          have x0 := p5.cell 0
          have x1 := p5.cell 1
          have x2 := p5.cell 2
          have x3 := p5.cell 3
          simp at x0 x1 x2 x3
          have HF : Hid (RReplPost w t u (t.plain.repl ((m : Int) :: q) u.plain) (.returned (.tuple #[.agg #[.int .i64 t.kind, .string t.text, .slice t.lA t.leads.length t.lc, .slice (some ⟨g, 0, none⟩) t.kids.length cap], .bool true])) w6) := by
            have hxw := HBc.out.size
            have h36 : TC wc w6 (fun b => b = w.heap.size ∨ b = w.heap.size + 1 + 1 ∨ b = g) := (TC.of_below hb3 _).trans p7
            have htr := new_kid (w1 := wc) (w' := w6) (S := fun b => b < w.heap.size ∨ V.heap.size ≤ b) HK.out (HT.out.low HBc.out) HG2.out p6 hcap (HG3.out _ (HT.out.sub k (List.mem_of_getElem? HK.out)).ins HTU.out.ins) (fun b h => .inl h) h36.size hxw (fun p hp hp2 => World.cell?_of_block (h36.block p.block hp2 (by omega)))
            have := RReplPost.some_ (w := w) (t := t) (u := u) (o := t.plain.repl ((m : Int) :: q) u.plain) (HBc.out.trans (h36.below hxw (fun b h => by omega))) (x := .node t.kind t.text t.lA t.leads t.lc (some ⟨g, 0, none⟩) (t.kids.set m x) cap) (by
              rw [HRP.out, TX.plain_eq (TX.node t.kind t.text t.lA t.leads t.lc (some ⟨g, 0, none⟩) (t.kids.set m x) cap)]
              show some (T.node t.plain.kind t.plain.text t.plain.leads (t.plain.kids.set m T')) = some (T.node t.kind t.text t.leads ((t.kids.set m x).map TX.plain))
              rw [plain_kind, plain_text', plain_leads, plain_kids, List.map_set, HG1.out]) htr (fun S hs hu => ?_)
            · have e : (TX.node t.kind t.text t.lA t.leads t.lc (some ⟨g, 0, none⟩) (t.kids.set m x) cap).val = .agg #[.int .i64 t.kind, .string t.text, .slice t.lA t.leads.length t.lc, .slice (some ⟨g, 0, none⟩) (t.kids.set m x).length cap] := rfl
              rw [e, List.length_set] at this
              exact this
            · cases hs with
              | mk _ s1 s2 s3 =>
                refine .mk _ (fun ad e _ => .inr ?_) (fun ad e hn => .inl (s2 ad e hn)) (fun y hy => ?_)
                · have : some (⟨g, 0, none⟩ : Addr) = some ad := e
                  injection this with this
                  subst this
                  show w.heap.size ≤ g
                  omega
                · have hy' : y ∈ t.kids.set m x := hy
                  rcases List.mem_or_eq_of_mem_set hy' with h | rfl
                  · exact (s3 y h).mono (fun b hb => .inl hb)
                  · exact (HG3.out S (s3 k (List.mem_of_getElem? HK.out)) hu).mono (fun b hb => by rcases hb with hb | hb; exact .inl hb; exact .inr (by omega))
          clear hown hgr hBg hb3 hx3 hz3 hbx3 p1 p2 p3 p4 p5 p6 p7 fl fl0 fll hse hsv hbs hlo hbxl c3
          go_wp2_with fail
          refine region_tail 7 (by kernel_rfl) (by kernel_rfl) w4 hw4 ?_
          simp only [List.take_succ_cons, List.take_zero, List.drop_succ_cons, List.drop_zero]
          repeat (go_big_quiet_step (fail))
          refine wpQuiet_nil ?_
          go_wp2_with fail
          refine bodyPost_ret (v := .tuple #[.agg #[.int .i64 t.kind, .string t.text, .slice t.lA t.leads.length t.lc, .slice (some ⟨g, 0, none⟩) t.kids.length cap], .bool true]) (by simp [results, Try.results20, go_sem, x0, x1, x2, x3]) rfl ?_
          exact HF.out
    · have HNN : Hid (t.plain.repl (i :: q) u.plain = none) := repl_out (by omega)
      have HD : Hid (decide (i < 0) = true ∨ (decide (i < 0) = false ∧ decide ((t.kids.length : Int) ≤ i) = true)) := by unfold Hid; simp; omega
      have z0 := HZ.out.frozen 0
      have z1 := HZ.out.frozen 1
      have z2 := HZ.out.frozen 2
      have z3 := HZ.out.frozen 3
      have y0 := HZ.out.cell 0
      have y1 := HZ.out.cell 1
      have y2 := HZ.out.cell 2
      have y3 := HZ.out.cell 3
      simp at y0 y1 y2 y3
      clear hin
      rcases HD.out with q1 | ⟨q1, q2⟩
      all_goals
        go_enter Try.func20, Try.ntmps20
        go_wp2_with fail
        go_quiet (fail)
        have HXE := Lib.hid (blk_putV (HZ.out.drewN nq) (.int .i64 0) (.string ⟨#[]⟩) (.slice none 0 0) (.slice none 0 0))
        have HTC := Lib.hid (tc_putV (S := fun b => b = w.heap.size + 1 + 1) (HZ.out.drewN nq) rfl (.int .i64 0) (.string ⟨#[]⟩) (.slice none 0 0) (.slice none 0 0))
        have x0 := HXE.out.cell 0
        have x1 := HXE.out.cell 1
        have x2 := HXE.out.cell 2
        have x3 := HXE.out.cell 3
        simp at x0 x1 x2 x3
        go_wp2_with fail
        refine bodyPost_ret (v := .tuple #[.agg zeroArr, .bool false]) (by simp [results, Try.results20, go_sem, x0, x1, x2, x3, zeroArr]; rfl) rfl ?_
        exact RReplPost.none_ ((below_drewN HBW.out nq).trans (HTC.out.below HBW.out.size (fun b h => by omega))) HNN.out
end Go.Proofs.Ythaepakpeamajaa
