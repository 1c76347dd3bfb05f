/-
  Trees: the trees of a pack. No condition.
-/
import Derived.Test.YtdabmjcpiblofaaDoorPkJ
namespace Go.Proofs.YtdabmjcpiblofaaDoor
open Go.RowKit
set_option linter.unusedVariables false

open Classical in
/-- what a pack's trees are refused with: 0 nothing, 3 too long, 13 no form -/
noncomputable def errP (ns : List PN) (rs : List Int) : Int := if formN ns ∧ rootsN ns rs then (if T.sizes (treesP ns rs) ≤ 20000 then 0 else 3) else 13
theorem errP_form {ns : List PN} {rs : List Int} (h : ¬ (formN ns ∧ rootsN ns rs)) : errP ns rs = 13 := by unfold errP; rw [if_neg h]
theorem errP_long {ns : List PN} {rs : List Int} (h : formN ns ∧ rootsN ns rs) (h2 : ¬ T.sizes (treesP ns rs) ≤ 20000) : errP ns rs = 3 := by unfold errP; rw [if_pos h, if_neg h2]
theorem errP_ok {ns : List PN} {rs : List Int} (h : formN ns ∧ rootsN ns rs) (h2 : T.sizes (treesP ns rs) ≤ 20000) : errP ns rs = 0 := by unfold errP; rw [if_pos h, if_pos h2]
theorem errP_zero {ns : List PN} {rs : List Int} (h : errP ns rs = 0) : formN ns ∧ rootsN ns rs ∧ T.sizes (treesP ns rs) ≤ 20000 := by
  unfold errP at h
  split at h
  · rename_i h1
    split at h
    · rename_i h2; exact ⟨h1.1, h1.2, h2⟩
    · cases h
  · cases h
/-- a list of trees that can be read -/
def TreesPost (w : World) (v : PkV) (e : Ending) (w' : World) : Prop :=
  ∃ (A : Option Addr) (c : Nat) (ts : List TX), e = .returned (.tuple #[.slice A ts.length c, .int .i64 (errP v.ns v.rs)]) ∧ TL w' w.heap.size w.heap.size (.slice A ts.length c) ts ∧ (errP v.ns v.rs = 0 → ts.map TX.plain = treesP v.ns v.rs) ∧ (errP v.ns v.rs ≠ 0 → ts = []) ∧ Below w.heap.size w w'
theorem TreesPost.no {w wr : World} {v : PkV} (h : errP v.ns v.rs ≠ 0) (hb : Below w.heap.size w wr) : TreesPost w v (.returned (.tuple #[.slice none 0 0, .int .i64 (errP v.ns v.rs)])) wr :=
  ⟨none, 0, [], rfl, TL.nil _ _ _, fun e => absurd e h, fun _ => rfl, hb⟩
structure TRel (w wr : World) (v : PkV) (HB j : Nat) (lv : Value) (ts : List TX) : Prop where
  bel : Below w.heap.size w wr
  box : Blk wr w.heap.size 29 v.arr
  tl : TL wr w.heap.size HB lv ts
  len : ts.length = j
  pl : ts.map TX.plain = (v.rs.take j).map fun r => trA v.ns r.toNat
  hb : w.heap.size < HB
  hr : HB ≤ wr.heap.size
theorem TRel.step {w wr w1 w3 : World} {v : PkV} {HB j : Nat} {lv v3 : Value} {ts : List TX} {y : Int} {r : TX} (h : TRel w wr v HB j lv ts) (hy : v.rs[j]? = some y) (hb : Below wr.heap.size wr w1) (hp : r.plain = trA v.ns y.toNat) (hr : Tr w1 w1.heap.size r) (hi : InS (wr.heap.size ≤ ·) r) (hf : Fine r) (o : Obj)
    (ho : w3.ownsRow HB 42 4 v3 (j + 1) (ts.flatMap TX.cells ++ r.cells)) (hg : Grows (w1.alloc o) w3 lv v3) : TRel w w3 v HB (j + 1) v3 (ts ++ [r]) := by
  have hz1 := hb.size
  have hz := h.bel.size
  have hvg := own_from h.tl.row
  have hvl := own_lt h.tl.row
  have hgs := hg.size
  have hsz : (w1.alloc o).heap.size = w1.heap.size + 1 := by simp
  have hbo : Below wr.heap.size wr (w1.alloc o) := hb.alloc hz1 _
  have hln := h.len
  have h1 := h.hb
  have h2 := h.hr
  refine ⟨?_, ?_, ?_, by simp [hln], ?_, h1, by omega⟩
  · exact (h.bel.trans (hbo.mono hz)).grown hg.grown (by omega) (fun g hg' => by have := hvg g hg'; omega)
  · exact hg.blk (h.box.below hbo h.box.lt) (fun e => by have := hvg _ e; omega)
  · refine (h.tl.below hb).step hr (hi.mono (fun b hb' => ⟨by omega, fun e => by have := hvl b e; omega⟩)) hf o ?_ hg
    rw [hln]; exact ho
  · rw [List.map_append, h.pl, take_snoc' hy]
    simp [hp]
set_option maxRecDepth 100000 in
set_option maxHeartbeats 3200000 in
theorem trees_any (v : PkV) (w : World) (h : v.ok w w.heap.size) : Calls Tryd.prog 18 #[v.val] w (TreesPost w v) := by
  obtain ⟨n, hn⟩ : ∃ n, v.ps.length = n := ⟨_, rfl⟩
  obtain ⟨m, hm⟩ : ∃ m, v.rs.length = m := ⟨_, rfl⟩
  obtain ⟨nA, hnA⟩ : ∃ a, v.nA = a := ⟨_, rfl⟩
  obtain ⟨rA, hrA⟩ : ∃ a, v.rA = a := ⟨_, rfl⟩
  have hnl := h.nl
  have hrl := h.rl
  rw [hn] at hnl
  rw [hm] at hrl
  have hval : v.val = .agg #[.slice nA n v.nc, .slice rA m v.rc] := by unfold PkV.val; rw [hn, hm, hnA, hrA]
  have harr : v.arr = #[.slice nA n v.nc, .slice rA m v.rc] := by unfold PkV.arr; rw [hn, hm, hnA, hrA]
  obtain ⟨W, hW⟩ : ∃ W, w.alloc (.cells #[.slice nA n v.nc, .slice rA m v.rc] 29) = W := ⟨_, rfl⟩
  have HBX : Hid (Blk W w.heap.size 29 #[.slice nA n v.nc, .slice rA m v.rc]) := by subst hW; exact Blk.new w _ _
  have HBW : Hid (Below w.heap.size w W) := by subst hW; exact (Below.refl _ w).alloc (Nat.le_refl _) _
  have hsW : w.heap.size < W.heap.size := HBX.out.lt
  have HC := Lib.hid (sizes_any v W (h.up (Nat.le_refl _) HBW.out))
  rw [hval] at HC ⊢
  have H := Lib.hid h
  have HN := Lib.hid hn
  have HM := Lib.hid hm
  have HNA := Lib.hid hnA
  have HRA := Lib.hid hrA
  have HARR := Lib.hid harr
  have c0 := HBX.out.cell 0
  have c1 := HBX.out.cell 1
  simp at c0 c1
  clear h hn hm hnA hrA harr hval
  go_enter Tryd.func18, Tryd.ntmps18
  go_wp2_with fail
  refine (HC.out).mono ?_
  rintro e w1 hs
  have HW := Lib.hid hW
  clear hW c0 c1
  rcases hs with ⟨hf, hr, A, c, rfl, hA, hb⟩ | ⟨hno, rfl, hb⟩
  · have HF := Lib.hid hf
    have HR := Lib.hid hr
    have HB1 : Hid (Below w.heap.size w w1) := HBW.out.trans (hb.mono HBW.out.size)
    have HSZ := Lib.hid (sizes_roots hf hr)
    have hlr : (rootSz v.ns v.rs).length = m := by unfold rootSz; rw [List.length_map, HM.out]
    have hsum := sum_any A c w1.heap.size (rootSz v.ns v.rs) w1 (by rw [hlr]; have := hA; rw [HM.out] at this; exact this) (fun x hx => by
      unfold rootSz at hx
      obtain ⟨r, -, rfl⟩ := List.mem_map.1 hx
      exact szA_le _ _) (by rw [hlr]; omega)
    rw [hlr] at hsum
    have hcs : capSum (rootSz v.ns v.rs) = capS (T.sizes (treesP v.ns v.rs)) := sizes_roots hf hr
    rw [hcs] at hsum
    have HS := Lib.hid hsum
    have HBX1 : Hid (Blk w1 w.heap.size 29 #[.slice nA n v.nc, .slice rA m v.rc]) := HBX.out.below hb hsW
    have c0 := HBX1.out.cell 0
    have c1 := HBX1.out.cell 1
    simp at c0 c1
    have hbz := hb.size
    rw [HM.out]
    clear hf hr hA hb hsum hcs hlr HSZ
    by_cases hlong : T.sizes (treesP v.ns v.rs) ≤ 20000
    · have he : capS (T.sizes (treesP v.ns v.rs)) = T.sizes (treesP v.ns v.rs) := by unfold capS; omega
      rw [he] at HS
      obtain ⟨sz, hsz⟩ : ∃ s, T.sizes (treesP v.ns v.rs) = s := ⟨_, rfl⟩
      rw [hsz] at HS
      have d0 : decide ((20000 : Int) < (sz : Int)) = false := decide_eq_false (by omega)
      have HE0 := Lib.hid (errP_ok ⟨HF.out, HR.out⟩ hlong)
      obtain ⟨i0', hi', hz0, hz1, hz2⟩ := info_parts tree_info
      have HI := Lib.hid hi'
      have HZ0 := Lib.hid hz0
      have HZ1 := Lib.hid hz1
      have HZ2 := Lib.hid hz2
      have HT0 : Hid (TRel w w1 v w1.heap.size 0 (.slice none 0 0) []) := ⟨HB1.out, by rw [HARR.out]; exact HBX1.out, TL.nil _ _ _, rfl, by simp, by omega, Nat.le_refl _⟩
      obtain ⟨HB, hHB⟩ : ∃ HB, w1.heap.size = HB := ⟨_, rfl⟩
      rw [hHB] at HT0
      clear he hsz hlong hi' hz0 hz1 hz2 hHB
      go_wp2_with fail
      refine (HS.out).mono ?_
      rintro e w2 ⟨rfl, rfl⟩
      go_wp2_with fail
      clear c0 c1
      go_loopw [6, 23] (fun l i wr => ∃ (j : Nat) (lA : Option Addr) (lc : Nat) (ts : List TX), j ≤ m ∧ i = .int .i64 (j : Int) ∧ l = .slice lA j lc ∧ Hid (TRel w wr v HB j (.slice lA j lc) ts)) (fun _ i _ => m - (intOf i).toNat)
      case atStart => exact ⟨0, none, 0, [], by omega, rfl, rfl, HT0⟩
      case round =>
        obtain ⟨j, lA, lc, ts, hj, rfl, rfl, HT⟩ := hrel
        have HBX2 : Hid (Blk wr w.heap.size 29 #[.slice nA n v.nc, .slice rA m v.rc]) := by have := HT.out.box; rw [HARR.out] at this; exact this
        have c0 := HBX2.out.cell 0
        have c1 := HBX2.out.cell 1
        simp at c0 c1
        by_cases hlt : j < m
        · obtain ⟨y, hy⟩ : ∃ y, v.rs[j]? = some y := ⟨_, List.getElem?_eq_getElem (by rw [HM.out]; exact hlt)⟩
          have hrr := H.out.roots.below HT.out.bel
          rw [HM.out] at hrr
          obtain ⟨b1, o1, u1, hrA', -, hu1, g1⟩ := hrr.at1 hlt
          obtain rfl : u1 = .int .i64 y := by rw [List.getElem?_map, hy] at hu1; simpa using hu1.symm
          obtain rfl : rA = some ⟨b1, o1, none⟩ := HRA.out.symm.trans hrA'
          have hyr := HR.out y (List.mem_of_getElem? hy)
          rw [v.ns_len, HN.out] at hyr
          obtain ⟨yn, rfl⟩ : ∃ yn : Nat, y = (yn : Int) := ⟨y.toNat, by omega⟩
          have HU := Lib.hid (unpack_any v HF.out yn wr (H.out.up (Nat.le_refl _) HT.out.bel) (by rw [HN.out]; omega))
          rw [HN.out, HNA.out] at HU
          have HLN := Lib.hid HT.out.len
          have HY := Lib.hid hy
          have hhr := HT.out.hr
          clear hy hu1 hrA' hyr
          go_wp2_with fail
          refine (HU.out).mono ?_
          rintro e w5 ⟨r5, rfl, hp5, ht5, hi5, hf5, hb5⟩
          unfold TX.val
          have HP5 := Lib.hid hp5
          have HT5 := Lib.hid ht5
          have HI5 := Lib.hid hi5
          have HF5 := Lib.hid hf5
          have HB5 := Lib.hid hb5
          have hz5 := hb5.size
          have HOW : Hid (w5.ownsRow HB 42 4 (.slice lA j lc) j (ts.flatMap TX.cells)) := by
            have := owns_below HT.out.tl.row hb5 (own_lt HT.out.tl.row)
            rw [HLN.out] at this
            exact this
          clear hp5 ht5 hi5 hf5 hb5
          go_wp2_with (at_builtin; refine wpList_append_row _ rfl (.tmp 27) (.tmp 32) 23 23 rfl HB 42 i0' (.agg #[.int .i64 0, .string ⟨#[]⟩, .slice none 0 0, .slice none 0 0]) 4 72 Tryd.underlying23 HI.out HZ0.out HZ1.out HZ2.out rfl (by decide) (.slice lA j lc) j (ts.flatMap TX.cells) rfl (HOW.out.alloc _) (.slice (some ⟨w5.heap.size, 0, none⟩) 1 1) 1 r5.cells rfl (src_new w5 Tryd.underlying23 r5.cells 4 1 1 42 rfl (tree_one r5)) ?c1 ?c2 ?c3 ?_)
          case c1 => unfold maxLen; omega
          case c2 => omega
          case c3 => simp; omega
          intro v6 w6 ho6 hg6
          obtain ⟨A6, c6, rfl, -, -⟩ := reads_of_owns ho6
          have HS6 := Lib.hid (HT.out.step HY.out HB5.out HP5.out HT5.out HI5.out HF5.out _ ho6 hg6)
          clear ho6 hg6
          go_wp2_with fail
          go_roundw
          case rel => exact ⟨j + 1, _, _, _, by omega, by go_num, rfl, HS6⟩
          case measure => simp [intOf]; omega
        · obtain rfl : j = m := by omega
          have HE : Hid (TreesPost w v (.returned (.tuple #[.slice lA j lc, .int .i64 0])) wr) := by
            have hln := HT.out.len
            refine ⟨lA, lc, ts, by rw [HE0.out, hln], ?_, fun _ => ?_, fun h => absurd HE0.out h, HT.out.bel⟩
            · rw [hln]
              have := HT.out.tl
              have h0 := HT.out.hb
              exact ⟨owns_up this.row (fun g hg => by have := own_from this.row g hg; omega), this.kid⟩
            · rw [HT.out.pl, List.take_of_length_le (by rw [HM.out]; exact Nat.le_refl _)]; rfl
          go_wp2_with fail
          go_ret2
          exact HE.out
    · have he : capS (T.sizes (treesP v.ns v.rs)) = 20001 := by unfold capS; omega
      rw [he] at HS
      have HE0 := Lib.hid (errP_long ⟨HF.out, HR.out⟩ hlong)
      have HE : Hid (TreesPost w v (.returned (.tuple #[.slice none 0 0, .int .i64 3])) w1) := by
        have := TreesPost.no (v := v) (by rw [HE0.out]; decide) HB1.out
        rw [HE0.out] at this
        exact this
      clear he hlong
      go_wp2_with fail
      refine (HS.out).mono ?_
      rintro e w2 ⟨rfl, rfl⟩
      go_wp2_with fail
      go_ret2
      exact HE.out
  · have HE0 := Lib.hid (errP_form hno)
    have HE : Hid (TreesPost w v (.returned (.tuple #[.slice none 0 0, .int .i64 13])) w1) := by
      have := TreesPost.no (v := v) (by rw [HE0.out]; decide) (HBW.out.trans (hb.mono HBW.out.size))
      rw [HE0.out] at this
      exact this
    clear hno hb
    go_wp2_with fail
    go_ret2
    exact HE.out
end Go.Proofs.YtdabmjcpiblofaaDoor
