/-
  Replace, the program's. No condition.
-/
import Derived.Test.YthaepakpeamajaaTrQ
namespace Go.Proofs.Ythaepakpeamajaa
open Go.RowKit
set_option linter.unusedVariables false

def ReplPost (w : World) (o : Option T) (e : Ending) (w' : World) : Prop :=
  Below w.heap.size w w' ∧ match o with
  | none => e = .returned (.tuple #[.agg zeroArr, .bool false])
  | some u => ∃ x : TX, e = .returned (.tuple #[x.val, .bool true]) ∧ x.plain = u ∧ Tr w' w'.heap.size x
theorem ReplPost.none_ {w w' : World} {o : Option T} (hb : Below w.heap.size w w') (ho : o = none) : ReplPost w o (.returned (.tuple #[.agg zeroArr, .bool false])) w' := by
  subst ho; exact ⟨hb, rfl⟩
theorem ReplPost.some_ {w w' : World} {o : Option T} {x : TX} (hb : Below w.heap.size w w') (ho : o = some x.plain) (hx : Tr w' w'.heap.size x) : ReplPost w o (.returned (.tuple #[x.val, .bool true])) w' := by
  subst ho; exact ⟨hb, x, rfl, rfl, hx⟩
/-- the tree that is returned reads as it does whatever becomes of older blocks -/
def ReplPostS (w : World) (o : Option T) (e : Ending) (w' : World) : Prop :=
  Below w.heap.size w w' ∧ match o with
  | none => e = .returned (.tuple #[.agg zeroArr, .bool false])
  | some u => ∃ x : TX, e = .returned (.tuple #[x.val, .bool true]) ∧ x.plain = u ∧ ∀ w7, TC w' w7 (· < w.heap.size) → Tr w7 w7.heap.size x
theorem ReplPostS.none_ {w w' : World} {o : Option T} (hb : Below w.heap.size w w') (ho : o = none) : ReplPostS w o (.returned (.tuple #[.agg zeroArr, .bool false])) w' := by
  subst ho; exact ⟨hb, rfl⟩
theorem ReplPostS.some_ {w w' : World} {o : Option T} {x : TX} (hb : Below w.heap.size w w') (ho : o = some x.plain) (hx : ∀ w7, TC w' w7 (· < w.heap.size) → Tr w7 w7.heap.size x) : ReplPostS w o (.returned (.tuple #[x.val, .bool true])) w' := by
  subst ho; exact ⟨hb, x, rfl, rfl, hx⟩
theorem ReplPostS.weak {w w' : World} {o : Option T} {e : Ending} (h : ReplPostS w o e w') : ReplPost w o e w' := by
  obtain ⟨hb, h⟩ := h
  cases o with
  | none => exact ⟨hb, h⟩
  | some T' =>
    obtain ⟨x, he, hp, ht⟩ := h
    exact ⟨hb, x, he, hp, ht w' (TC.of_below (Below.refl _ _) _)⟩
theorem some_of {o : Option Value} (h : o.isSome = true) : ∃ v, o = some v := Option.isSome_iff_exists.1 h
theorem Fr.kid {w : World} {lo hi : Nat} {s k : TX} {m : Nat} (h : Fr w lo hi s) (hk : s.kids[m]? = some k) : ∃ kb lo' hi', s.kA = some ⟨kb, 0, none⟩ ∧ Fr w lo' hi' k ∧ w.cell? ⟨kb, m * 4 + 3, none⟩ = some (.slice k.kA k.kids.length k.kc) := by
  cases h with
  | leaf _ _ _ hk0 hl lb kr => rw [hk0] at hk; simp at hk
  | node _ _ _ kb f hA hB hl kbd kc lb kr f0 f1 f2 f3 sub =>
    refine ⟨kb, _, _, hA, sub m k hk, ?_⟩
    rw [hB.cell, List.getElem?_toArray, flat_at TX.cells_len s.kids m 3 k hk (by omega)]
    rfl

set_option maxRecDepth 100000 in
set_option maxHeartbeats 3200000 in
theorem replace_anyS (t u : TX) (A : Option Addr) (c : Nat) (p : List Int) (w : World) (h : Tr w w.heap.size t) (hu : Tr w w.heap.size u) (hp : Reads w w.heap.size 1 A p.length (p.map (Value.int .i64))) (hl : p.length ≤ 140737488351232) (hb : ∀ x ∈ p, -9223372036854775808 ≤ x ∧ x ≤ 9223372036854775807) :
    Calls Try.prog 19 #[t.val, .slice A p.length c, u.val] w (ReplPostS w (t.plain.repl p u.plain)) := by
  obtain ⟨W, hW⟩ : ∃ W, ((w.alloc (.cells #[.int .i64 t.kind, .string t.text, .slice t.lA t.leads.length t.lc, .slice t.kA t.kids.length t.kc] 25)).alloc (.cells #[.int .i64 u.kind, .string u.text, .slice u.lA u.leads.length u.lc, .slice u.kA u.kids.length u.kc] 25)).alloc (.cells #[.int .i64 0, .string ⟨#[]⟩, .slice none 0 0, .slice none 0 0] 25) = W := ⟨_, rfl⟩
  have HSZ : Hid (W.heap.size = w.heap.size + 1 + 1 + 1) := by subst hW; simp [Hid]
  have HBW : Hid (Below w.heap.size w W) := by subst hW; exact (((Below.refl _ w).alloc (Nat.le_refl _) _).alloc (by simp) _).alloc (by simp; omega) _
  have HX : Hid (Blk W w.heap.size 25 t.arr) := by subst hW; exact ((Blk.new w 25 _).alloc _).alloc _
  have HU : Hid (Blk W (w.heap.size + 1) 25 u.arr) := by subst hW; exact (Blk.new' 25 _ (by simp)).alloc _
  have HZ : Hid (Blk W (w.heap.size + 1 + 1) 25 #[.int .i64 0, .string ByteArray.empty, .slice none 0 0, .slice none 0 0]) := by subst hW; exact Blk.new' 25 zeroArr (by simp)
  have d0 := HX.out.cell 0
  have d1 := HX.out.cell 1
  have d2 := HX.out.cell 2
  have d3 := HX.out.cell 3
  simp [TX.arr] at d0 d1 d2 d3
  have ht0 : Tr W W.heap.size t := h.up (Nat.le_refl _) HBW.out
  have hp0 : Reads W W.heap.size 1 A p.length (p.map (Value.int .i64)) := (hp.below HBW.out).more HBW.out.size
  cases hf : t.find p with
  | none =>
    have HC := Lib.hid (find_none (c := c) ht0 hp0 hl hb hf)
    have HN : Hid (t.plain.repl p u.plain = none) := repl_none p _ _ (by rw [← find_plain, hf]; rfl)
    unfold TX.val at HC
    unfold TX.val
    clear h hp hb ht0 hp0 hf hu
    go_enter Try.func19, Try.ntmps19
    go_wp2_with fail
    refine (HC.out).mono ?_
    rintro e w1 ⟨rfl, hb1⟩
    have HB1 := Lib.hid (HBW.out.trans (hb1.mono HBW.out.size))
    have HZ0 := Lib.hid (HZ.out.below hb1 HZ.out.lt)
    have hlt := HZ0.out.lt
    have z0 := HZ0.out.frozen 0
    have z1 := HZ0.out.frozen 1
    have z2 := HZ0.out.frozen 2
    have z3 := HZ0.out.frozen 3
    have y0 := HZ0.out.cell 0
    have y1 := HZ0.out.cell 1
    have y2 := HZ0.out.cell 2
    have y3 := HZ0.out.cell 3
    simp at y0 y1 y2 y3
    have HXE := Lib.hid ((blk_putV HZ0.out (.int .i64 0) (.string ⟨#[]⟩) (.slice none 0 0) (.slice none 0 0)).alloc (.cells #[.int .i64 0, .string ⟨#[]⟩, .slice none 0 0, .slice none 0 0] 25))
    have HTC := Lib.hid (tc_putV (S := fun b => b = w.heap.size + 1 + 1) HZ0.out rfl (.int .i64 0) (.string ⟨#[]⟩) (.slice none 0 0) (.slice none 0 0))
    clear hb1
    have e0 : zeroArr = #[.int .i64 0, .string ⟨#[]⟩, .slice none 0 0, .slice none 0 0] := rfl
    rw [e0]
    clear e0
    go_wp2_with fail
    have x0 := HXE.out.cell 0
    have x1 := HXE.out.cell 1
    have x2 := HXE.out.cell 2
    have x3 := HXE.out.cell 3
    refine bodyPost_ret (v := .tuple #[.agg zeroArr, .bool false]) (by simp [results, Try.results19, go_sem, x0, x1, x2, x3, zeroArr]; rfl) rfl ?_
    have hb5 := HB1.out.trans (HTC.out.below HB1.out.size (fun b h => by omega))
    exact ReplPostS.none_ (hb5.alloc hb5.size _) HN.out
  | some s =>
    have HC := Lib.hid (find_some (c := c) ht0 hp0 hl hb hf)
    have H := Lib.hid h
    have HUU := Lib.hid hu
    have HP := Lib.hid hp
    have HF := Lib.hid hf
    unfold TX.val at HC
    unfold TX.val
    clear h hp hb ht0 hp0 hf hu
    go_enter Try.func19, Try.ntmps19
    go_wp2_with fail
    refine (HC.out).mono ?_
    rintro e w1 ⟨rfl, hb1⟩
    obtain ⟨w2, hw2⟩ : ∃ w2, w1.alloc (.cells #[.int .i64 s.kind, .string s.text, .slice s.lA s.leads.length s.lc, .slice s.kA s.kids.length s.kc] 25) = w2 := ⟨_, rfl⟩
    have HB2 : Hid (Below W.heap.size W w2) := by subst hw2; exact hb1.alloc hb1.size _
    have HX2 := Lib.hid (HX.out.below HB2.out HX.out.lt)
    have e0 := HX2.out.cell 0
    have e1 := HX2.out.cell 1
    have e2 := HX2.out.cell 2
    have e3 := HX2.out.cell 3
    simp [TX.arr] at e0 e1 e2 e3
    have HC2 := Lib.hid (replica_any t w2 (H.out.up (Nat.le_refl _) (HBW.out.trans (HB2.out.mono HBW.out.size))))
    unfold TX.val at HC2
    clear hb1 d0 d1 d2 d3
    go_wp2_with fail
    refine (HC2.out).mono ?_
    rintro e w3 ⟨r, rfl, hr1, hr2, hb3⟩
    have hb3' := hb3.size
    obtain ⟨w4, hw4⟩ : ∃ w4, w3.alloc (.cells #[.int .i64 r.kind, .string r.text, .slice r.lA r.leads.length r.lc, .slice r.kA r.kids.length r.kc] 25) = w4 := ⟨_, rfl⟩
    have HN4 : Hid (Below w3.heap.size w3 w4) := by subst hw4; exact (Below.refl _ w3).alloc (Nat.le_refl _) _
    have HS4 : Hid (w4.heap.size = w3.heap.size + 1) := by subst hw4; simp [Hid]
    have HB4 : Hid (Below W.heap.size W w4) := HB2.out.trans ((hb3.trans (HN4.out.mono hb3')).mono HB2.out.size)
    have HG4 : Hid (Blk w4 w3.heap.size 25 r.arr) := by subst hw4; exact Blk.new w3 25 _
    have HFR : Hid (Fr w4 w2.heap.size w3.heap.size r) := hr2.tc (TC.of_below HN4.out (fun _ => False)) (fun _ _ _ h => h)
    have HL2 : Hid (W.heap.size ≤ w2.heap.size ∧ w2.heap.size ≤ w3.heap.size) := ⟨HB2.out.size, hb3'⟩
    have HRT := Lib.hid hr1
    have HRF : Hid (∃ s', r.find p = some s') := by
      have h1 := find_plain p t
      have h2 := find_plain p r
      rw [hr1, ← h1, HF.out] at h2
      cases hq : r.find p with
      | none => rw [hq] at h2; cases h2
      | some s' => exact ⟨s', rfl⟩
    have HP4 : Hid (Reads w4 w4.heap.size 1 A p.length (p.map (Value.int .i64))) := (HP.out.below (HBW.out.trans (HB4.out.mono HBW.out.size))).more (Nat.le_trans HBW.out.size HB4.out.size)
    have g3 := HG4.out.cell 3
    simp [TX.arr] at g3
    have HG3 := Lib.hid g3
    unfold TX.val
    clear hb3 hr1 hr2 e0 e1 e2 e3 g3 hb3'
    go_wp2_with fail
    have HWs := Lib.hid (And.intro hW (And.intro hw2 hw4))
    clear hW hw2 hw4
    go_loop [11, 27] (fun a i => ∃ (j ab ao lo hi : Nat) (s : TX), j ≤ p.length ∧ i = .int .i64 (j : Int) ∧ a = .pointer (some ⟨ab, ao, none⟩) ∧ Hid (r.find p = s.find (p.drop j)) ∧ Hid (r.addr (w3.heap.size, 0) p = s.addr (ab, ao) (p.drop j)) ∧ Hid (Fr w4 lo hi s) ∧ Hid (w4.cell? ⟨ab, ao + 3, none⟩ = some (.slice s.kA s.kids.length s.kc))) (fun _ i => p.length - (intOf i).toNat)
    case atStart => exact ⟨0, w3.heap.size, 0, _, _, r, by omega, rfl, rfl, rfl, rfl, HFR, HG3⟩
    case round =>
      obtain ⟨j, ab, ao, lo, hi, s1, hj, rfl, rfl, HFJ, HAJ, HFS, HC3⟩ := hrel
      by_cases hlt : j < p.length
      · obtain ⟨x, hx⟩ : ∃ x, p[j]? = some x := ⟨_, List.getElem?_eq_getElem hlt⟩
        obtain ⟨b1, o1, u1, rfl, -, hu1, g1⟩ := HP4.out.at1 hlt
        obtain rfl : u1 = .int .i64 x := by rw [List.getElem?_map, hx] at hu1; simpa using hu1.symm
        by_cases hin : 0 ≤ x ∧ x < s1.kids.length
        rotate_left
        · have := HFJ.out.trans (find_out hx (s := s1) (by omega))
          obtain ⟨s', hs'⟩ := HRF.out
          rw [hs'] at this
          cases this
        obtain ⟨h0, h1⟩ := hin
        obtain ⟨m, rfl⟩ : ∃ m : Nat, x = m := ⟨x.toNat, by omega⟩
        obtain ⟨k, hk⟩ : ∃ k, s1.kids[m]? = some k := ⟨_, List.getElem?_eq_getElem (by omega)⟩
        obtain ⟨kb, lo', hi', hA, hfk, hck⟩ := HFS.out.kid hk
        have c3 := HC3.out
        rw [hA] at c3
        have HFJ2 := Lib.hid (HFJ.out.trans (find_step hx hk))
        have HAJ2 := Lib.hid (HAJ.out.trans (addr_step (a := (ab, ao)) hx hk hA))
        have HFK := Lib.hid hfk
        have HCK := Lib.hid hck
        clear hu1 hx hA hk hfk hck
        go_wp2_with fail
        go_round
        case rel => exact ⟨j + 1, kb, m * 4, lo', hi', k, by omega, by go_num, rfl, HFJ2, HAJ2, HFK, HCK⟩
        case measure => simp [intOf]; omega
      · have hdn : p.drop j = [] := List.drop_eq_nil_of_le (by omega)
        have haj := HAJ.out
        rw [hdn, TX.addr] at haj
        obtain ⟨s', hs'⟩ := HRF.out
        have hl2 := HL2.out
        have hs4 := HS4.out
        obtain ⟨k1, k2, cs, k3, k4, k5⟩ := put_ok HFR.out HG4.out (by omega) (by omega) hs' haj
        have HK5 := Lib.hid k5
        have HK3 := Lib.hid k3
        obtain ⟨v0, hv0⟩ := some_of (k4 0 (by omega))
        obtain ⟨v1, hv1⟩ := some_of (k4 1 (by omega))
        obtain ⟨v2, hv2⟩ := some_of (k4 2 (by omega))
        obtain ⟨v3, hv3⟩ := some_of (k4 3 (by omega))
        rw [Nat.add_zero] at hv0
        have HV := Lib.hid (And.intro hv0 (And.intro hv1 (And.intro hv2 hv3)))
        have HU4 := Lib.hid (HU.out.below HB4.out HU.out.lt)
        have e0 := HU4.out.cell 0
        have e1 := HU4.out.cell 1
        have e2 := HU4.out.cell 2
        have e3 := HU4.out.cell 3
        simp [TX.arr] at e0 e1 e2 e3
        have HC4 := Lib.hid (replica_any u w4 (HUU.out.up (Nat.le_refl _) (HBW.out.trans (HB4.out.mono HBW.out.size))))
        unfold TX.val at HC4
        have HK2 := Lib.hid k2
        have HK1 := Lib.hid k1
        clear hdn haj hs' hl2 hs4 k1 k2 k3 k4 k5 hv0 hv1 hv2 hv3
        go_wp2_with fail
        refine (HC4.out).mono ?_
        rintro e w5 ⟨y, rfl, hy1, hy2, hb5⟩
        have hq5 := HK3.out.below hb5 HK1.out
        have f0 := hq5.frozen ao
        have f1 := hq5.frozen (ao + 1)
        have f2 := hq5.frozen (ao + 2)
        have f3 := hq5.frozen (ao + 3)
        have q0 := hq5.cell ao
        have q1 := hq5.cell (ao + 1)
        have q2 := hq5.cell (ao + 2)
        have q3 := hq5.cell (ao + 3)
        rw [HV.out.1] at q0
        rw [HV.out.2.1] at q1
        rw [HV.out.2.2.1] at q2
        rw [HV.out.2.2.2] at q3
        obtain ⟨w6, hw6⟩ : ∃ w6, ((((w5.setCell ⟨ab, ao, none⟩ (.int .i64 y.kind)).setCell ⟨ab, ao + 1, none⟩ (.string y.text)).setCell ⟨ab, ao + 2, none⟩ (.slice y.lA y.leads.length y.lc)).setCell ⟨ab, ao + 3, none⟩ (.slice y.kA y.kids.length y.kc)) = w6 := ⟨_, rfl⟩
        have hsz := HSZ.out
        have hl2 := HL2.out
        have hs4 := HS4.out
        have hk2 := HK2.out
        obtain ⟨htc, x, hx1, hx2, hx3⟩ := HK5.out w5 w6 y (fun b => b = w.heap.size + 1 + 1 ∨ b < w.heap.size) hb5 hy2 (fun b hb => by omega) hw6.symm
        have hbs := hb5.size
        have HZ6 : Hid (Blk w6 (w.heap.size + 1 + 1) 25 #[.int .i64 0, .string ByteArray.empty, .slice none 0 0, .slice none 0 0]) := htc.blk ((HZ.out.below HB4.out HZ.out.lt).below hb5 (HZ.out.below HB4.out HZ.out.lt).lt) (by omega)
        have HB6 : Hid (Below w.heap.size w w6) := (HBW.out.trans ((HB4.out.trans (hb5.mono HB4.out.size)).mono HBW.out.size)).trans (htc.below (by have := HBW.out.size; have := HB4.out.size; omega) (fun b h => by have := HBW.out.size; omega))
        have HX1 := Lib.hid hx1
        have HX2 : Hid (t.plain.repl p u.plain = some x.plain) := by unfold Hid; rw [← HRT.out, ← hy1]; exact hx2
        have HX3 := Lib.hid hx3
        clear hq5 hy1 hy2 hb5 hsz hl2 hs4 hk2 htc hx1 hx2 hx3 hbs
        have b0 := HX1.out.cell 0
        have b1 := HX1.out.cell 1
        have b2 := HX1.out.cell 2
        have b3 := HX1.out.cell 3
        simp [TX.arr] at b0 b1 b2 b3
        have z0 := HZ6.out.frozen 0
        have z1 := HZ6.out.frozen 1
        have z2 := HZ6.out.frozen 2
        have z3 := HZ6.out.frozen 3
        have y0 := HZ6.out.cell 0
        have y1 := HZ6.out.cell 1
        have y2 := HZ6.out.cell 2
        have y3 := HZ6.out.cell 3
        simp at y0 y1 y2 y3
        have HXE := Lib.hid (blk_putV HZ6.out (.int .i64 x.kind) (.string x.text) (.slice x.lA x.leads.length x.lc) (.slice x.kA x.kids.length x.kc))
        have HTC := Lib.hid (tc_putV (S := fun b => b = w.heap.size + 1 + 1) HZ6.out rfl (.int .i64 x.kind) (.string x.text) (.slice x.lA x.leads.length x.lc) (.slice x.kA x.kids.length x.kc))
        have x0 := HXE.out.cell 0
        have x1 := HXE.out.cell 1
        have x2 := HXE.out.cell 2
        have x3 := HXE.out.cell 3
        simp at x0 x1 x2 x3
        unfold TX.val
        go_wp2_with fail
        refine bodyPost_ret (v := .tuple #[x.val, .bool true]) (by simp [results, Try.results19, go_sem, x0, x1, x2, x3, TX.val]) rfl ?_
        exact ReplPostS.some_ (HB6.out.trans (HTC.out.below HB6.out.size (fun b h => by omega))) HX2.out (fun w7 h7 => HX3.out _ ((HTC.out.mono (fun b _ h => .inl h)).trans (h7.mono (fun b _ h => .inr h))))
theorem replace_any (t u : TX) (A : Option Addr) (c : Nat) (p : List Int) (w : World) (h : Tr w w.heap.size t) (hu : Tr w w.heap.size u) (hp : Reads w w.heap.size 1 A p.length (p.map (Value.int .i64))) (hl : p.length ≤ 140737488351232) (hb : ∀ x ∈ p, -9223372036854775808 ≤ x ∧ x ≤ 9223372036854775807) :
    Calls Try.prog 19 #[t.val, .slice A p.length c, u.val] w (ReplPost w (t.plain.repl p u.plain)) :=
  (replace_anyS t u A c p w h hu hp hl hb).mono fun _ _ h => h.weak
end Go.Proofs.Ythaepakpeamajaa
