/-
  Equal nodes of packs, the program's and the reference's; equal lists of trees. No condition.
-/
import Derived.Test.YtdabmjcpiblofaaDoorPkSa
namespace Go.Proofs.YtdabmjcpiblofaaDoor
open Go.RowKit
set_option linter.unusedVariables false

theorem pl_ne {a b : PX} (h : a.plain = b.plain) : a.kind = b.kind ∧ a.text = b.text ∧ a.leads = b.leads ∧ a.kids = b.kids := by
  unfold PX.plain at h
  injection h with h1 h
  injection h with h2 h
  injection h with h3 h4
  exact ⟨h1, h2, h3, h4⟩
theorem pl_eq {a b : PX} (h1 : a.kind = b.kind) (h2 : a.text = b.text) (h3 : a.leads = b.leads) (h4 : a.kids = b.kids) : a.plain = b.plain := by
  unfold PX.plain; rw [h1, h2, h3, h4]

set_option maxRecDepth 100000 in
set_option maxHeartbeats 3200000 in
theorem same1_any (a b : PX) (w : World) (ha : a.ok w w.heap.size) (hb : b.ok w w.heap.size) : Calls Tryd.prog 67 #[.agg #[.int .i64 a.kind, .string a.text, .slice a.lA a.leads.length a.lc, .slice a.kA a.kids.length a.kc], .agg #[.int .i64 b.kind, .string b.text, .slice b.lA b.leads.length b.lc, .slice b.kA b.kids.length b.kc]] w (RetB w (a.plain = b.plain)) := by
  obtain ⟨W, hW⟩ : ∃ W, (w.alloc (.cells #[.int .i64 a.kind, .string a.text, .slice a.lA a.leads.length a.lc, .slice a.kA a.kids.length a.kc] 48)).alloc (.cells #[.int .i64 b.kind, .string b.text, .slice b.lA b.leads.length b.lc, .slice b.kA b.kids.length b.kc] 48) = W := ⟨_, rfl⟩
  have HBW : Hid (Below w.heap.size w W) := by subst hW; exact ((Below.refl _ w).alloc (Nat.le_refl _) _).alloc (by simp) _
  have HX1 : Hid (Blk W w.heap.size 48 #[.int .i64 a.kind, .string a.text, .slice a.lA a.leads.length a.lc, .slice a.kA a.kids.length a.kc]) := by subst hW; exact (Blk.new w _ _).alloc _
  have HX2 : Hid (Blk W (w.heap.size + 1) 48 #[.int .i64 b.kind, .string b.text, .slice b.lA b.leads.length b.lc, .slice b.kA b.kids.length b.kc]) := by
    subst hW
    have := Blk.new (w.alloc (.cells #[.int .i64 a.kind, .string a.text, .slice a.lA a.leads.length a.lc, .slice a.kA a.kids.length a.kc] 48)) 48 #[.int .i64 b.kind, .string b.text, .slice b.lA b.leads.length b.lc, .slice b.kA b.kids.length b.kc]
    have e : (w.alloc (.cells #[.int .i64 a.kind, .string a.text, .slice a.lA a.leads.length a.lc, .slice a.kA a.kids.length a.kc] 48)).heap.size = w.heap.size + 1 := by simp
    rw [e] at this
    exact this
  have c0 := HX1.out.cell 0
  have c1 := HX1.out.cell 1
  have c2 := HX1.out.cell 2
  have c3 := HX1.out.cell 3
  have d0 := HX2.out.cell 0
  have d1 := HX2.out.cell 1
  have d2 := HX2.out.cell 2
  have d3 := HX2.out.cell 3
  simp at c0 c1 c2 c3 d0 d1 d2 d3
  have hla := ha.ll
  have hlb := hb.ll
  have hka := ha.kl
  have hkb := hb.kl
  have HE1 := Lib.hid (equal_any a.lA b.lA a.lc b.lc _ _ a.leads b.leads W (ha.leads.below HBW.out) (hb.leads.below HBW.out) (by omega) (by omega))
  have HE2 := Lib.hid (fun q : Nat => equalI_any a.kA b.kA a.kc b.kc _ _ a.kids b.kids (W.drewN q) (ha.kids.below (below_drewN HBW.out q)) (hb.kids.below (below_drewN HBW.out q)) (by omega) (by omega))
  have HBR := HBW
  clear ha hb
  by_cases ek : a.kind = b.kind
  rotate_left
  · have HN : Hid (false = true ↔ a.plain = b.plain) := ⟨(fun h => by cases h), fun h => absurd ((pl_ne h).1) ek⟩
    have n2 : (a.kind == b.kind) = false := by simpa using ek
    clear ek
    go_enter Tryd.func67, Tryd.ntmps67
    go_wp2_with fail
    go_ret
    exact ⟨false, HN.out, rfl, HBR.out⟩
  have k2 : (a.kind == b.kind) = true := by simpa using ek
  have HEK := Lib.hid ek
  clear ek
  by_cases et : a.text = b.text
  rotate_left
  · have HN : Hid (false = true ↔ a.plain = b.plain) := ⟨(fun h => by cases h), fun h => absurd ((pl_ne h).2.1) et⟩
    have n1 : (a.text.toList == b.text.toList) = false := by simpa using (fun h => et (ba_eq h))
    clear et
    go_enter Tryd.func67, Tryd.ntmps67
    go_wp2_with fail
    go_ret
    exact ⟨false, HN.out, rfl, HBR.out⟩
  have t1 : (a.text.toList == b.text.toList) = true := by simp [et]
  have HET := Lib.hid et
  clear et
  by_cases es : a.leads = b.leads
  rotate_left
  · have HN : Hid (false = true ↔ a.plain = b.plain) := ⟨(fun h => by cases h), fun h => absurd ((pl_ne h).2.2.1) es⟩
    rw [decide_eq_false es] at HE1
    clear es
    go_enter Tryd.func67, Tryd.ntmps67
    go_wp2_with fail
    refine (HE1.out).mono ?_
    rintro e w1 ⟨rfl, q, rfl⟩
    go_wp2_with fail
    go_ret
    exact ⟨false, HN.out, rfl, below_drewN HBR.out q⟩
  rw [decide_eq_true es] at HE1
  have HES := Lib.hid es
  clear es
  have HN : Hid (decide (a.kids = b.kids) = true ↔ a.plain = b.plain) := by
    unfold Hid
    rw [decide_eq_true_iff]
    exact ⟨fun h => pl_eq HEK.out HET.out HES.out h, fun h => (pl_ne h).2.2.2⟩
  generalize decide (a.kids = b.kids) = bk at HE2 HN
  go_enter Tryd.func67, Tryd.ntmps67
  go_wp2_with fail
  refine (HE1.out).mono ?_
  rintro e w1 ⟨rfl, q, rfl⟩
  go_wp2_with fail
  refine (HE2.out q).mono ?_
  rintro e w1 ⟨rfl, q2, rfl⟩
  go_wp2_with fail
  go_ret
  exact ⟨bk, HN.out, rfl, below_drewN HBR.out (q + q2)⟩

set_option maxRecDepth 100000 in
set_option maxHeartbeats 3200000 in
theorem sameNode_any (a b : PX) (w : World) (ha : a.ok w w.heap.size) (hb : b.ok w w.heap.size) : Calls Tryd.prog 37 #[.agg #[.int .i64 a.kind, .string a.text, .slice a.lA a.leads.length a.lc, .slice a.kA a.kids.length a.kc], .agg #[.int .i64 b.kind, .string b.text, .slice b.lA b.leads.length b.lc, .slice b.kA b.kids.length b.kc]] w (RetB w (a.plain = b.plain)) := by
  obtain ⟨W, hW⟩ : ∃ W, (w.alloc (.cells #[.int .i64 a.kind, .string a.text, .slice a.lA a.leads.length a.lc, .slice a.kA a.kids.length a.kc] 48)).alloc (.cells #[.int .i64 b.kind, .string b.text, .slice b.lA b.leads.length b.lc, .slice b.kA b.kids.length b.kc] 48) = W := ⟨_, rfl⟩
  have HBW : Hid (Below w.heap.size w W) := by subst hW; exact ((Below.refl _ w).alloc (Nat.le_refl _) _).alloc (by simp) _
  have HX1 : Hid (Blk W w.heap.size 48 #[.int .i64 a.kind, .string a.text, .slice a.lA a.leads.length a.lc, .slice a.kA a.kids.length a.kc]) := by subst hW; exact (Blk.new w _ _).alloc _
  have HX2 : Hid (Blk W (w.heap.size + 1) 48 #[.int .i64 b.kind, .string b.text, .slice b.lA b.leads.length b.lc, .slice b.kA b.kids.length b.kc]) := by
    subst hW
    have := Blk.new (w.alloc (.cells #[.int .i64 a.kind, .string a.text, .slice a.lA a.leads.length a.lc, .slice a.kA a.kids.length a.kc] 48)) 48 #[.int .i64 b.kind, .string b.text, .slice b.lA b.leads.length b.lc, .slice b.kA b.kids.length b.kc]
    have e : (w.alloc (.cells #[.int .i64 a.kind, .string a.text, .slice a.lA a.leads.length a.lc, .slice a.kA a.kids.length a.kc] 48)).heap.size = w.heap.size + 1 := by simp
    rw [e] at this
    exact this
  have c0 := HX1.out.cell 0
  have c1 := HX1.out.cell 1
  have c2 := HX1.out.cell 2
  have c3 := HX1.out.cell 3
  have d0 := HX2.out.cell 0
  have d1 := HX2.out.cell 1
  have d2 := HX2.out.cell 2
  have d3 := HX2.out.cell 3
  simp at c0 c1 c2 c3 d0 d1 d2 d3
  have hla := ha.ll
  have hlb := hb.ll
  have hka := ha.kl
  have hkb := hb.kl
  have HE2 := Lib.hid (sameInts_any a.kA b.kA a.kc b.kc _ _ a.kids b.kids W (ha.kids.below HBW.out) (hb.kids.below HBW.out) (by omega) (by omega))
  have HBR := HBW
  have HA := Lib.hid ha
  have HB := Lib.hid hb
  clear ha hb
  by_cases ek : a.kind = b.kind
  rotate_left
  · have HN : Hid (false = true ↔ a.plain = b.plain) := ⟨(fun h => by cases h), fun h => absurd ((pl_ne h).1) ek⟩
    have n1 : (a.kind != b.kind) = true := by simpa using ek
    have n2 : (a.kind == b.kind) = false := by simpa using ek
    clear ek
    go_enter Tryd.func37, Tryd.ntmps37
    go_wp2_with fail
    go_ret
    exact ⟨false, HN.out, rfl, HBR.out⟩
  have k1 : (a.kind != b.kind) = false := by simpa using ek
  have k2 : (a.kind == b.kind) = true := by simpa using ek
  have HEK := Lib.hid ek
  clear ek
  by_cases et : a.text = b.text
  rotate_left
  · have HN : Hid (false = true ↔ a.plain = b.plain) := ⟨(fun h => by cases h), fun h => absurd ((pl_ne h).2.1) et⟩
    have n1 : (a.text.toList == b.text.toList) = false := by simpa using (fun h => et (ba_eq h))
    clear et
    go_enter Tryd.func37, Tryd.ntmps37
    go_wp2_with fail
    go_ret
    exact ⟨false, HN.out, rfl, HBR.out⟩
  have t1 : (a.text.toList == b.text.toList) = true := by simp [et]
  have HET := Lib.hid et
  clear et
  by_cases el : a.leads.length = b.leads.length
  rotate_left
  · have HN : Hid (false = true ↔ a.plain = b.plain) := ⟨(fun h => by cases h), fun h => absurd (by rw [(pl_ne h).2.2.1]) el⟩
    have n1 : ((a.leads.length : Int) != (b.leads.length : Int)) = true := by simp; omega
    have n2 : ((a.leads.length : Int) == (b.leads.length : Int)) = false := by simp; omega
    have n3 : (a.leads.length == b.leads.length) = false := by simp; omega
    have n4 : (a.leads.length != b.leads.length) = true := by simp; omega
    clear el
    go_enter Tryd.func37, Tryd.ntmps37
    go_wp2_with fail
    go_ret
    exact ⟨false, HN.out, rfl, HBR.out⟩
  obtain ⟨n, hn⟩ : ∃ n, a.leads.length = n := ⟨_, rfl⟩
  have hn' : b.leads.length = n := by omega
  rw [hn] at HX1 c2 hla hW
  rw [hn'] at HX2 d2 hlb hW
  rw [hn, hn']
  have HN1 := Lib.hid hn
  have HN2 := Lib.hid hn'
  clear hn hn' el
  by_cases es : a.kids = b.kids
  rotate_left
  · have HN : Hid (false = true ↔ a.plain = b.plain) := ⟨(fun h => by cases h), fun h => absurd ((pl_ne h).2.2.2) es⟩
    rw [decide_eq_false es] at HE2
    clear es
    go_enter Tryd.func37, Tryd.ntmps37
    go_wp2_with fail
    refine (HE2.out).mono ?_
    rintro e w1 ⟨rfl, q, rfl⟩
    go_wp2_with fail
    go_ret
    exact ⟨false, HN.out, rfl, below_drewN HBR.out q⟩
  rw [decide_eq_true es] at HE2
  have HES := Lib.hid es
  clear es
  go_enter Tryd.func37, Tryd.ntmps37
  go_wp2_with fail
  refine (HE2.out).mono ?_
  rintro e w1 ⟨rfl, q, rfl⟩
  go_wp2_with fail
  have HW := Lib.hid hW
  clear hW c0 c1 c2 c3 d0 d1 d2 d3 k1 k2 t1
  go_loopw [5] (fun i wr => ∃ j q : Nat, j ≤ n ∧ i = .int .i64 (j : Int) ∧ Hid (a.leads.take j = b.leads.take j) ∧ wr = W.drewN q) (fun i _ => n - (intOf i).toNat)
  case atStart => exact ⟨0, q, by omega, rfl, rfl, rfl⟩
  case round =>
    obtain ⟨j, q2, hj, rfl, HT, rfl⟩ := hrel
    have c2 := (HX1.out.drewN q2).cell 2
    have d2 := (HX2.out.drewN q2).cell 2
    simp at c2 d2
    by_cases hlt : j < n
    · obtain ⟨x, hx⟩ : ∃ x, a.leads[j]? = some x := ⟨_, List.getElem?_eq_getElem (by rw [HN1.out]; exact hlt)⟩
      obtain ⟨y, hy⟩ : ∃ y, b.leads[j]? = some y := ⟨_, List.getElem?_eq_getElem (by rw [HN2.out]; exact hlt)⟩
      have hra := HA.out.leads.below (below_drewN HBW.out q2)
      have hrb := HB.out.leads.below (below_drewN HBW.out q2)
      rw [HN1.out] at hra
      rw [HN2.out] at hrb
      obtain ⟨b1, o1, u1, hA1, -, hu1, g1⟩ := hra.at1 hlt
      obtain rfl : u1 = Value.string x := by rw [List.getElem?_map, hx] at hu1; simpa using hu1.symm
      obtain ⟨b2, o2, u2, hB1, -, hu2, g2⟩ := hrb.at1 hlt
      obtain rfl : u2 = Value.string y := by rw [List.getElem?_map, hy] at hu2; simpa using hu2.symm
      rw [hA1] at c2
      rw [hB1] at d2
      have i0 : (0 : Int) ≤ (j : Int) := by omega
      have i1 : (j : Int) < (n : Int) := by omega
      have c2' : W.cell? ⟨w.heap.size, 2, none⟩ = some (.slice (some ⟨b1, o1, none⟩) n a.lc) := c2
      have d2' : W.cell? ⟨w.heap.size + 1, 2, none⟩ = some (.slice (some ⟨b2, o2, none⟩) n b.lc) := d2
      have g1' : W.cell? ⟨b1, o1 + j, none⟩ = some (.string x) := g1
      have g2' : W.cell? ⟨b2, o2 + j, none⟩ = some (.string y) := g2
      by_cases hxy : x = y
      · subst hxy
        have HT2 := Lib.hid (take_eq_succ HT.out hx hy)
        have dd : (x.toList == x.toList) = true := by simp
        clear hx hy hu1 hu2 hA1 hB1
        go_wp2_with fail
        go_quiet (fail)
        go_wp2_with fail
        go_roundw
        case rel => exact ⟨j + 1, q2 + nq, by omega, by go_num, HT2, rfl⟩
        case measure => simp [intOf]; omega
      · have HNO : Hid (false = true ↔ a.plain = b.plain) := ⟨(fun h => by cases h), fun h => absurd (pl_ne h).2.2.1 (ne_at hx hy hxy)⟩
        have dd : (x.toList == y.toList) = false := by simpa using (fun h => hxy (ba_eq h))
        clear hx hy hu1 hu2 hA1 hB1 hxy
        go_wp2_with fail
        go_quiet (fail)
        go_wp2_with fail
        go_ret
        exact ⟨false, HNO.out, rfl, below_drewN (below_drewN HBR.out q2) nq⟩
    · have HYE : Hid (a.plain = b.plain) := pl_eq HEK.out HET.out (by
        have h := HT.out
        rw [List.take_of_length_le (by rw [HN1.out]; omega), List.take_of_length_le (by rw [HN2.out]; omega)] at h
        exact h) HES.out
      go_wp2_with fail
      go_ret
      exact ⟨true, ⟨fun _ => HYE.out, fun _ => rfl⟩, rfl, below_drewN HBR.out q2⟩
end Go.Proofs.YtdabmjcpiblofaaDoor
