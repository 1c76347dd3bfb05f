/-
  Equal packs, the reference's and the program's; equal lists of trees. No condition.
-/
import Derived.Test.YtdabmjcpiblofaaDoorPkSb
namespace Go.Proofs.YtdabmjcpiblofaaDoor
open Go.RowKit
set_option linter.unusedVariables false

theorem PkV.ok.c4 {w : World} {B ab ao : Nat} {v : PkV} {p : PX} (h : v.ok w B) {i : Nat} (hi : v.ps[i]? = some p) (hA : v.nA = some ⟨ab, ao, none⟩) : w.cell? ⟨ab, ao + i * 4, none⟩ = some (.int .i64 p.kind) ∧ w.cell? ⟨ab, ao + i * 4 + 1, none⟩ = some (.string p.text) ∧ w.cell? ⟨ab, ao + i * 4 + 2, none⟩ = some (.slice p.lA p.leads.length p.lc) ∧ w.cell? ⟨ab, ao + i * 4 + 3, none⟩ = some (.slice p.kA p.kids.length p.kc) := by
  obtain ⟨ab', ao', e, -, h'⟩ := h.at_ hi
  rw [hA] at e
  injection e with e
  injection e with e1 e2
  subst e1 e2
  exact h'
def eqPk (a b : PkV) : Prop := a.ns = b.ns ∧ a.rs = b.rs

set_option maxRecDepth 100000 in
set_option maxHeartbeats 3200000 in
theorem refSame_any (a b : PkV) (w : World) (ha : a.ok w w.heap.size) (hb : b.ok w w.heap.size) : Calls Tryd.prog 12 #[a.val, b.val] w (RetB w (eqPk a b)) := by
  unfold PkV.val
  obtain ⟨kA, hkA⟩ : ∃ x, a.nA = x := ⟨_, rfl⟩
  obtain ⟨kB, hkB⟩ : ∃ x, b.nA = x := ⟨_, rfl⟩
  have HKA := Lib.hid hkA
  have HKB := Lib.hid hkB
  rw [hkA, hkB]
  obtain ⟨W, hW⟩ : ∃ W, (w.alloc (.cells #[.slice kA a.ps.length a.nc, .slice a.rA a.rs.length a.rc] 29)).alloc (.cells #[.slice kB b.ps.length b.nc, .slice b.rA b.rs.length b.rc] 29) = W := ⟨_, rfl⟩
  have HBW : Hid (Below w.heap.size w W) := by subst hW; exact ((Below.refl _ w).alloc (Nat.le_refl _) _).alloc (by simp) _
  have HX1 : Hid (Blk W w.heap.size 29 #[.slice kA a.ps.length a.nc, .slice a.rA a.rs.length a.rc]) := by subst hW; exact (Blk.new w _ _).alloc _
  have HX2 : Hid (Blk W (w.heap.size + 1) 29 #[.slice kB b.ps.length b.nc, .slice b.rA b.rs.length b.rc]) := by
    subst hW
    have := Blk.new (w.alloc (.cells #[.slice kA a.ps.length a.nc, .slice a.rA a.rs.length a.rc] 29)) 29 #[.slice kB b.ps.length b.nc, .slice b.rA b.rs.length b.rc]
    have e : (w.alloc (.cells #[.slice kA a.ps.length a.nc, .slice a.rA a.rs.length a.rc] 29)).heap.size = w.heap.size + 1 := by simp
    rw [e] at this
    exact this
  have c0 := HX1.out.cell 0
  have c1 := HX1.out.cell 1
  have d0 := HX2.out.cell 0
  have d1 := HX2.out.cell 1
  simp at c0 c1 d0 d1
  have hna := ha.nl
  have hnb := hb.nl
  have hra := ha.rl
  have hrb := hb.rl
  have HE2 := Lib.hid (sameInts_any a.rA b.rA a.rc b.rc _ _ a.rs b.rs W (ha.roots.below HBW.out) (hb.roots.below HBW.out) (by omega) (by omega))
  have HA := Lib.hid ha
  have HB := Lib.hid hb
  clear ha hb hkA hkB
  by_cases el : a.ps.length = b.ps.length
  rotate_left
  · have HN : Hid (false = true ↔ eqPk a b) := ⟨(fun h => by cases h), fun h => absurd (by have := congrArg List.length h.1; rwa [a.ns_len, b.ns_len] at this) el⟩
    have n1 : ((a.ps.length : Int) != (b.ps.length : Int)) = true := by simp; omega
    have n2 : ((a.ps.length : Int) == (b.ps.length : Int)) = false := by simp; omega
    have n3 : (a.ps.length == b.ps.length) = false := by simp; omega
    have n4 : (a.ps.length != b.ps.length) = true := by simp; omega
    clear el
    go_enter Tryd.func12, Tryd.ntmps12
    go_wp2_with fail
    go_ret
    exact ⟨false, HN.out, rfl, HBW.out⟩
  obtain ⟨n, hn⟩ : ∃ n, a.ps.length = n := ⟨_, rfl⟩
  have hn' : b.ps.length = n := by omega
  rw [hn] at HX1 c0 hna hW
  rw [hn'] at HX2 d0 hnb hW
  rw [hn, hn']
  have HN1 := Lib.hid hn
  have HN2 := Lib.hid hn'
  clear hn hn' el
  by_cases es : a.rs = b.rs
  rotate_left
  · have HN : Hid (false = true ↔ eqPk a b) := ⟨(fun h => by cases h), fun h => absurd h.2 es⟩
    rw [decide_eq_false es] at HE2
    clear es
    go_enter Tryd.func12, Tryd.ntmps12
    go_wp2_with fail
    refine (HE2.out).mono ?_
    rintro e w1 ⟨rfl, q, rfl⟩
    go_wp2_with fail
    go_ret
    exact ⟨false, HN.out, rfl, below_drewN HBW.out q⟩
  rw [decide_eq_true es] at HE2
  have HES := Lib.hid es
  clear es
  go_enter Tryd.func12, Tryd.ntmps12
  go_wp2_with fail
  refine (HE2.out).mono ?_
  rintro e w1 ⟨rfl, q, rfl⟩
  go_wp2_with fail
  have HW := Lib.hid hW
  have HBQ : Hid (Below W.heap.size W (W.drewN q)) := below_drewN (Below.refl _ W) q
  clear hW c0 c1 d0 d1 HE2
  go_loopw [5] (fun i wr => ∃ j : Nat, j ≤ n ∧ i = .int .i64 (j : Int) ∧ Hid (a.ns.take j = b.ns.take j) ∧ Hid (Below W.heap.size W wr)) (fun i _ => n - (intOf i).toNat)
  case atStart => exact ⟨0, by omega, rfl, rfl, HBQ⟩
  case round =>
    obtain ⟨j, hj, rfl, HT, HBR⟩ := hrel
    have HL1 := Lib.hid HX1.out.lt
    have HL2 := Lib.hid HX2.out.lt
    have HBB : Hid (Below w.heap.size w wr) := HBW.out.trans (HBR.out.mono HBW.out.size)
    have c0 := (HX1.out.below HBR.out HL1.out).cell 0
    have d0 := (HX2.out.below HBR.out HL2.out).cell 0
    simp at c0 d0
    by_cases hlt : j < n
    · obtain ⟨k, hk⟩ : ∃ k, a.ps[j]? = some k := ⟨_, List.getElem?_eq_getElem (by rw [HN1.out]; exact hlt)⟩
      obtain ⟨l, hl⟩ : ∃ l, b.ps[j]? = some l := ⟨_, List.getElem?_eq_getElem (by rw [HN2.out]; exact hlt)⟩
      obtain ⟨ab, ao, hA, hab, -⟩ := HA.out.at_ hk
      obtain ⟨bb, bo, hB, hbb, -⟩ := HB.out.at_ hl
      obtain rfl : kA = some ⟨ab, ao, none⟩ := HKA.out.symm.trans hA
      obtain rfl : kB = some ⟨bb, bo, none⟩ := HKB.out.symm.trans hB
      have HSK : Hid (∀ w' : World, Below W.heap.size W w' → w'.cell? ⟨w.heap.size, 0, none⟩ = some (.slice (some ⟨ab, ao, none⟩) n a.nc) ∧ w'.cell? ⟨w.heap.size + 1, 0, none⟩ = some (.slice (some ⟨bb, bo, none⟩) n b.nc) ∧ w'.cell? ⟨ab, ao + j * 4, none⟩ = some (.int .i64 k.kind) ∧ w'.cell? ⟨ab, ao + j * 4 + 1, none⟩ = some (.string k.text) ∧ w'.cell? ⟨ab, ao + j * 4 + 2, none⟩ = some (.slice k.lA k.leads.length k.lc) ∧ w'.cell? ⟨ab, ao + j * 4 + 3, none⟩ = some (.slice k.kA k.kids.length k.kc) ∧ w'.cell? ⟨bb, bo + j * 4, none⟩ = some (.int .i64 l.kind) ∧ w'.cell? ⟨bb, bo + j * 4 + 1, none⟩ = some (.string l.text) ∧ w'.cell? ⟨bb, bo + j * 4 + 2, none⟩ = some (.slice l.lA l.leads.length l.lc) ∧ w'.cell? ⟨bb, bo + j * 4 + 3, none⟩ = some (.slice l.kA l.kids.length l.kc)) := fun w' hw => by
        have hww := HBW.out.trans (hw.mono HBW.out.size)
        obtain ⟨p0, p1, p2, p3⟩ := (HA.out.low hww).c4 hk HKA.out
        obtain ⟨q0, q1, q2, q3⟩ := (HB.out.low hww).c4 hl HKB.out
        exact ⟨by rw [(HX1.out.below hw HL1.out).cell]; rfl, by rw [(HX2.out.below hw HL2.out).cell]; rfl, p0, p1, p2, p3, q0, q1, q2, q3⟩
      have HBD : Hid (Below W.heap.size W wr.drew) := below_drewN HBR.out 1
      have HBD0 : Hid (Below w.heap.size w wr.drew) := below_drewN HBB.out 1
      have HC := Lib.hid (sameNode_any k l wr.drew (((HA.out.each k (List.mem_of_getElem? hk)).low HBD0.out).more HBD0.out.size) (((HB.out.each l (List.mem_of_getElem? hl)).low HBD0.out).more HBD0.out.size))
      have i0 : (0 : Int) ≤ (j : Int) := by omega
      have i1 : (j : Int) < (n : Int) := by omega
      have HK1 := Lib.hid hk
      have HK2 := Lib.hid hl
      clear hk hl hA hB
      go_wp2_with fail
      go_region_held3 (fun w' => w'.cell? ⟨w.heap.size, 0, none⟩ = some (.slice (some ⟨ab, ao, none⟩) n a.nc) ∧ w'.cell? ⟨w.heap.size + 1, 0, none⟩ = some (.slice (some ⟨bb, bo, none⟩) n b.nc) ∧ w'.cell? ⟨ab, ao + j * 4, none⟩ = some (.int .i64 k.kind) ∧ w'.cell? ⟨ab, ao + j * 4 + 1, none⟩ = some (.string k.text) ∧ w'.cell? ⟨ab, ao + j * 4 + 2, none⟩ = some (.slice k.lA k.leads.length k.lc) ∧ w'.cell? ⟨ab, ao + j * 4 + 3, none⟩ = some (.slice k.kA k.kids.length k.kc) ∧ w'.cell? ⟨bb, bo + j * 4, none⟩ = some (.int .i64 l.kind) ∧ w'.cell? ⟨bb, bo + j * 4 + 1, none⟩ = some (.string l.text) ∧ w'.cell? ⟨bb, bo + j * 4 + 2, none⟩ = some (.slice l.lA l.leads.length l.lc) ∧ w'.cell? ⟨bb, bo + j * 4 + 3, none⟩ = some (.slice l.kA l.kids.length l.kc))
        (first | (with_reducible exact HSK.out _ HBD.out) | (with_reducible exact HSK.out _ HB1.out))
        ((go_at_call 37; refine (HC.out).mono ?_; rintro e w1 ⟨bv, hv, rfl, hb1⟩; have HB1 := Lib.hid (HBD.out.trans (hb1.mono HBD.out.size)); have HV := Lib.hid hv; clear hb1 hv))
      clear c0 d0
      rcases bv with _ | _
      · have HN : Hid (false = true ↔ eqPk a b) := ⟨(fun h => by cases h), fun h => absurd h.1 (ne_at (a.ns_at HK1.out) (b.ns_at HK2.out) (fun e => by have := HV.out.2 e; cases this))⟩
        go_wp2_with fail
        go_ret
        exact ⟨false, HN.out, rfl, HBW.out.trans (HB1.out.mono HBW.out.size)⟩
      · have HT2 : Hid (a.ns.take (j + 1) = b.ns.take (j + 1)) := take_eq_succ HT.out (a.ns_at HK1.out) (by rw [b.ns_at HK2.out, HV.out.1 rfl])
        go_wp2_with fail
        go_roundw
        case rel => exact ⟨j + 1, by omega, by go_num, HT2, HB1⟩
        case measure => simp [intOf]; omega
    · have HYE : Hid (eqPk a b) := ⟨by
        have h := HT.out
        rw [List.take_of_length_le (by rw [a.ns_len, HN1.out]; omega), List.take_of_length_le (by rw [b.ns_len, HN2.out]; omega)] at h
        exact h, HES.out⟩
      go_wp2_with fail
      go_ret
      exact ⟨true, ⟨fun _ => HYE.out, fun _ => rfl⟩, rfl, HBB.out⟩

set_option maxRecDepth 100000 in
set_option maxHeartbeats 3200000 in
theorem sameTrees_any (kA kB : Option Addr) (ca cb : Nat) (a b : List TX) (w : World) (ha : LT w kA a) (hb : LT w kB b) (hla : a.length ≤ 1000000) (hlb : b.length ≤ 1000000) :
    Calls Tryd.prog 20 #[.slice kA a.length ca, .slice kB b.length cb] w (RetB w (a.map TX.plain = b.map TX.plain)) := by
  have HA := Lib.hid ha
  have HB := Lib.hid hb
  clear ha hb
  by_cases el : a.length = b.length
  rotate_left
  · have HN : Hid (false = true ↔ a.map TX.plain = b.map TX.plain) := ⟨(fun h => by cases h), fun h => absurd (by have := congrArg List.length h; simpa using this) el⟩
    have n1 : ((a.length : Int) != (b.length : Int)) = true := by simp; omega
    have n2 : ((a.length : Int) == (b.length : Int)) = false := by simp; omega
    have n3 : (a.length == b.length) = false := by simp; omega
    have n4 : (a.length != b.length) = true := by simp; omega
    clear el
    go_enter Tryd.func20, Tryd.ntmps20
    go_wp2_with fail
    go_ret
    exact ⟨false, HN.out, rfl, Below.refl _ _⟩
  obtain ⟨n, hn⟩ : ∃ n, a.length = n := ⟨_, rfl⟩
  have hn' : b.length = n := by omega
  rw [hn] at hla
  rw [hn'] at hlb
  rw [hn, hn']
  have HN1 := Lib.hid hn
  have HN2 := Lib.hid hn'
  clear hn hn' el
  go_enter Tryd.func20, Tryd.ntmps20
  go_wp2_with fail
  go_loopw [5] (fun i wr => ∃ j : Nat, j ≤ n ∧ i = .int .i64 (j : Int) ∧ Hid ((a.map TX.plain).take j = (b.map TX.plain).take j) ∧ Hid (Below w.heap.size w wr)) (fun i _ => n - (intOf i).toNat)
  case atStart => exact ⟨0, by omega, rfl, rfl, Below.refl _ _⟩
  case round =>
    obtain ⟨j, hj, rfl, HT, HBR⟩ := hrel
    by_cases hlt : j < n
    · obtain ⟨k, hk⟩ : ∃ k, a[j]? = some k := ⟨_, List.getElem?_eq_getElem (by rw [HN1.out]; exact hlt)⟩
      obtain ⟨l, hl⟩ : ∃ l, b[j]? = some l := ⟨_, List.getElem?_eq_getElem (by rw [HN2.out]; exact hlt)⟩
      have hra := HA.out.1
      have hrb := HB.out.1
      rw [HN1.out] at hra
      rw [HN2.out] at hrb
      obtain ⟨ab, ao, rfl, hab, hca⟩ := hra.head (by omega) (by omega)
      obtain ⟨bb, bo, rfl, hbb, hcb⟩ := hrb.head (by omega) (by omega)
      have HSK : Hid (∀ w' : World, Below w.heap.size w w' → w'.cell? ⟨ab, ao + j * 4, none⟩ = some (.int .i64 k.kind) ∧ w'.cell? ⟨ab, ao + j * 4 + 1, none⟩ = some (.string k.text) ∧ w'.cell? ⟨ab, ao + j * 4 + 2, none⟩ = some (.slice k.lA k.leads.length k.lc) ∧ w'.cell? ⟨ab, ao + j * 4 + 3, none⟩ = some (.slice k.kA k.kids.length k.kc) ∧ w'.cell? ⟨bb, bo + j * 4, none⟩ = some (.int .i64 l.kind) ∧ w'.cell? ⟨bb, bo + j * 4 + 1, none⟩ = some (.string l.text) ∧ w'.cell? ⟨bb, bo + j * 4 + 2, none⟩ = some (.slice l.lA l.leads.length l.lc) ∧ w'.cell? ⟨bb, bo + j * 4 + 3, none⟩ = some (.slice l.kA l.kids.length l.kc)) := fun w' hw => by
        have p0 := hca (j * 4) _ (flat_at TX.cells_len a j 0 k hk (by omega))
        have p1 := hca (j * 4 + 1) _ (flat_at TX.cells_len a j 1 k hk (by omega))
        have p2 := hca (j * 4 + 2) _ (flat_at TX.cells_len a j 2 k hk (by omega))
        have p3 := hca (j * 4 + 3) _ (flat_at TX.cells_len a j 3 k hk (by omega))
        have q0 := hcb (j * 4) _ (flat_at TX.cells_len b j 0 l hl (by omega))
        have q1 := hcb (j * 4 + 1) _ (flat_at TX.cells_len b j 1 l hl (by omega))
        have q2 := hcb (j * 4 + 2) _ (flat_at TX.cells_len b j 2 l hl (by omega))
        have q3 := hcb (j * 4 + 3) _ (flat_at TX.cells_len b j 3 l hl (by omega))
        rw [← Nat.add_assoc] at p1 p2 p3 q1 q2 q3
        exact ⟨(hw.cell hab).trans p0, (hw.cell hab).trans p1, (hw.cell hab).trans p2, (hw.cell hab).trans p3, (hw.cell hbb).trans q0, (hw.cell hbb).trans q1, (hw.cell hbb).trans q2, (hw.cell hbb).trans q3⟩
      have HBD : Hid (Below w.heap.size w wr.drew) := below_drewN HBR.out 1
      have HC := Lib.hid (rsame_any k l wr.drew ((HA.out.2 k (List.mem_of_getElem? hk)).1.up (Nat.le_refl _) HBD.out) ((HB.out.2 l (List.mem_of_getElem? hl)).1.up (Nat.le_refl _) HBD.out))
      unfold SameAt TX.val at HC
      have i0 : (0 : Int) ≤ (j : Int) := by omega
      have i1 : (j : Int) < (n : Int) := by omega
      have HK1 := Lib.hid hk
      have HK2 := Lib.hid hl
      clear hk hl hca hcb hra hrb
      go_wp2_with fail
      go_region_held3 (fun w' => w'.cell? ⟨ab, ao + j * 4, none⟩ = some (.int .i64 k.kind) ∧ w'.cell? ⟨ab, ao + j * 4 + 1, none⟩ = some (.string k.text) ∧ w'.cell? ⟨ab, ao + j * 4 + 2, none⟩ = some (.slice k.lA k.leads.length k.lc) ∧ w'.cell? ⟨ab, ao + j * 4 + 3, none⟩ = some (.slice k.kA k.kids.length k.kc) ∧ w'.cell? ⟨bb, bo + j * 4, none⟩ = some (.int .i64 l.kind) ∧ w'.cell? ⟨bb, bo + j * 4 + 1, none⟩ = some (.string l.text) ∧ w'.cell? ⟨bb, bo + j * 4 + 2, none⟩ = some (.slice l.lA l.leads.length l.lc) ∧ w'.cell? ⟨bb, bo + j * 4 + 3, none⟩ = some (.slice l.kA l.kids.length l.kc))
        (first | (with_reducible exact HSK.out _ HBD.out) | (with_reducible exact HSK.out _ HB1.out))
        ((go_at_call 25; refine (HC.out).mono ?_; rintro e w1 ⟨bv, hv, rfl, hb1⟩; have HB1 := Lib.hid (HBD.out.trans (hb1.mono HBD.out.size)); have HV := Lib.hid hv; clear hb1 hv))
      rcases bv with _ | _
      · have HN : Hid (false = true ↔ a.map TX.plain = b.map TX.plain) := ⟨(fun h => by cases h), fun h => absurd h (ne_at (map_at HK1.out) (map_at HK2.out) (fun e => by have := HV.out.2 e; cases this))⟩
        go_wp2_with fail
        go_ret
        exact ⟨false, HN.out, rfl, HB1.out⟩
      · have HT2 : Hid ((a.map TX.plain).take (j + 1) = (b.map TX.plain).take (j + 1)) := take_eq_succ HT.out (map_at HK1.out) (by rw [map_at HK2.out, HV.out.1 rfl])
        go_wp2_with fail
        go_roundw
        case rel => exact ⟨j + 1, by omega, by go_num, HT2, HB1⟩
        case measure => simp [intOf]; omega
    · have HYE : Hid (a.map TX.plain = b.map TX.plain) := by
        have h := HT.out
        rw [List.take_of_length_le (by rw [List.length_map, HN1.out]; omega), List.take_of_length_le (by rw [List.length_map, HN2.out]; omega)] at h
        exact h
      go_wp2_with fail
      go_ret
      exact ⟨true, ⟨fun _ => HYE.out, fun _ => rfl⟩, rfl, HBR.out⟩
end Go.Proofs.YtdabmjcpiblofaaDoor
