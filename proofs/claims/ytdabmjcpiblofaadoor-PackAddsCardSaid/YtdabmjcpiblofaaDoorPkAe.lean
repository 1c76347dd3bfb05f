/-
  Add, the program's. No condition.
-/
import Derived.Test.YtdabmjcpiblofaaDoorPkAd
namespace Go.Proofs.YtdabmjcpiblofaaDoor
open Go.RowKit
set_option linter.unusedVariables false

set_option maxRecDepth 100000 in
set_option maxHeartbeats 4000000 in
theorem add_any (v : PkV) (L : Option Addr) (lc : Nat) (ls : List TX) (w : World) (h : v.ok w w.heap.size) (ht : Tab w) (hl : LT w L ls) (hls : T.sizes (ls.map TX.plain) ≤ 20000) :
    Calls Tryd.prog 29 #[v.val, .slice L ls.length lc] w (AddPost w v (ls.map TX.plain)) := by
  obtain ⟨n, hn⟩ : ∃ n, ls.length = n := ⟨_, rfl⟩
  have hlen := len_sizes (ls.map TX.plain)
  rw [List.length_map, hn] at hlen
  have hn2 : n ≤ 20000 := by omega
  obtain ⟨W0, hW0⟩ : ∃ W, w.alloc (.cells #[.slice v.nA v.ps.length v.nc, .slice v.rA v.rs.length v.rc] 29) = W := ⟨_, rfl⟩
  obtain ⟨W1, hW1⟩ : ∃ W, W0.alloc (.cells #[.slice none 0 0, .slice none 0 0] 29) = W := ⟨_, rfl⟩
  have hs0 : W0.heap.size = w.heap.size + 1 := by subst hW0; simp
  have HBX : Hid (Blk W1 w.heap.size 29 #[.slice v.nA v.ps.length v.nc, .slice v.rA v.rs.length v.rc]) := by subst hW1 hW0; exact (Blk.new w _ _).alloc _
  have HRX : Hid (Blk W1 (w.heap.size + 1) 29 #[.slice none 0 0, .slice none 0 0]) := by subst hW1; rw [← hs0]; exact Blk.new W0 _ _
  have HBW : Hid (Below w.heap.size w W1) := by subst hW1 hW0; exact bal (bal (Below.refl _ w) _) _
  have c0 := HBX.out.cell 0
  have c1 := HBX.out.cell 1
  simp at c0 c1
  have HC := Lib.hid (trees_any v W1 (h.up (Nat.le_refl _) HBW.out))
  have HL := Lib.hid hl
  have HLS := Lib.hid hls
  have HN := Lib.hid hn
  have HT := Lib.hid ht
  obtain ⟨i0', hi', hz0, hz1, hz2⟩ := info_parts tree_info
  have HI := Lib.hid hi'
  have HZ0 := Lib.hid hz0
  have HZ1 := Lib.hid hz1
  have HZ2 := Lib.hid hz2
  rw [hn]
  unfold PkV.val at HC ⊢
  clear h hl hls hn ht hi' hz0 hz1 hz2
  go_enter Tryd.func29, Tryd.ntmps29
  go_wp2_with fail
  refine (HC.out).mono ?_
  rintro e w1 ⟨A, c, ts, rfl, htl, hpl, hno, hb⟩
  have HB1 : Hid (Below w.heap.size w w1) := HBW.out.trans (hb.mono HBW.out.size)
  have HRX1 : Hid (Blk w1 (w.heap.size + 1) 29 #[.slice none 0 0, .slice none 0 0]) := HRX.out.below hb HRX.out.lt
  have HW0 := Lib.hid hW0
  have HW1 := Lib.hid hW1
  clear hW0 hW1 c0 c1 HC
  by_cases h0 : errP v.ns v.rs = 0
  rotate_left
  · obtain ⟨er, her⟩ : ∃ er, errP v.ns v.rs = er := ⟨_, rfl⟩
    have HE := Lib.hid (addE_err (ls := ls.map TX.plain) h0)
    rw [her] at h0 HE ⊢
    have d1 : (er != 0) = true := by simpa using h0
    have d2 : (er == 0) = false := by simpa using h0
    have HNZ := Lib.hid h0
    have o0 := HRX1.out.cell 0
    have o1 := HRX1.out.cell 1
    have f0 := HRX1.out.frozen 0
    have f1 := HRX1.out.frozen 1
    simp at o0 o1
    clear htl hpl hno hb h0 her
    go_wp2_with fail
    have FM := (HRX1.out.set_ 0 (.slice none 0 0)).set_ 1 (.slice none 0 0)
    refine bodyPost_ret (results_cell_row2 (P := Tryd.prog) rfl _ _ (w.heap.size + 1) 29 #[.slice none 0 0, .slice none 0 0] (0, 0) _ rfl FM Tryd.underlying29 rfl (by kernel_rfl)) rfl ?_
    exact AddPost.no HE.out HNZ.out ((HB1.out.setCell (p := ⟨w.heap.size + 1, 0, none⟩) (Nat.le_succ _) _).setCell (p := ⟨w.heap.size + 1, 1, none⟩) (Nat.le_succ _) _)
  have HE0 := Lib.hid h0
  have hz20 := (errP_zero h0).2.2
  obtain ⟨m, hm⟩ : ∃ m, ts.length = m := ⟨_, rfl⟩
  have hml := len_sizes (ts.map TX.plain)
  have hpl0 := hpl h0
  rw [List.length_map, hm, hpl0] at hml
  have hm20 : m ≤ 20000 := by omega
  have HTL := Lib.hid htl
  have HM := Lib.hid hm
  have HLT := Lib.hid htl.lt
  have HL1 := Lib.hid (HL.out.up HB1.out)
  have hzb := hb.size
  have HZB := Lib.hid hzb
  obtain ⟨KT, hKT⟩ : ∃ l, treesP v.ns v.rs ++ ls.map TX.plain = l := ⟨_, rfl⟩
  have HKTE := Lib.hid hKT
  have HKT : Hid (∀ (j : Nat) (t : TX), ts[j]? = some t → KT[j]? = some t.plain) := fun j t htj => by
    rw [← hKT, ← hpl0, List.getElem?_append_left (by rw [List.length_map]; exact (List.getElem?_eq_some_iff.1 htj).1), List.getElem?_map, htj]; rfl
  have HKT' : Hid (∀ (j : Nat) (t : TX), ls[j]? = some t → KT[m + j]? = some t.plain) := fun j t htj => by
    have e : (ts.map TX.plain).length = m := by rw [List.length_map, hm]
    rw [← hKT, ← hpl0, List.getElem?_append_right (by omega), e, Nat.add_sub_cancel_left, List.getElem?_map, htj]; rfl
  have HS20 : Hid (∀ t ∈ ts, t.plain.size ≤ 20000) := fun t hm' => by
    have h1 := size_mem (ts := treesP v.ns v.rs) (by rw [← hpl0]; exact List.mem_map_of_mem hm')
    omega
  have HS20' : Hid (∀ t ∈ ls, t.plain.size ≤ 20000) := fun t hm' => by
    have h1 := size_mem (ts := ls.map TX.plain) (List.mem_map_of_mem hm')
    have := HLS.out
    omega
  have HKL : Hid (KT.length = m + n) := by
    unfold Hid
    rw [← hKT, ← hpl0, List.length_append, List.length_map, List.length_map, hm, HN.out]
  have HPM := Lib.hid hpl0
  rw [h0, hm]
  clear htl hpl hno hb h0 hm hKT hpl0 hz20
  go_wp2_with fail
  go_loopw [8, 24] (fun s i wr => ∃ j : Nat, j ≤ m ∧ i = .int .i64 (j : Int) ∧ s = .int .i64 (totK KT j : Int) ∧ Hid (Below w1.heap.size w1 wr)) (fun _ i _ => m - (intOf i).toNat)
  case atStart => exact ⟨0, by omega, rfl, by simp [totK, capSum], Below.refl _ _⟩
  case round =>
    obtain ⟨j, hj, rfl, rfl, HQ⟩ := hrel
    obtain ⟨tot, htot⟩ : ∃ x, totK KT j = x := ⟨_, rfl⟩
    have htle := totK_le KT j
    rw [htot] at htle ⊢
    have HTOT := Lib.hid htot
    clear htot
    by_cases hlt : j < m
    · obtain ⟨t, htk⟩ : ∃ t, ts[j]? = some t := ⟨_, List.getElem?_eq_getElem (by rw [HM.out]; exact hlt)⟩
      have hts := hmem htk
      have ht20 : t.plain.size ≤ 20000 := HS20.out t hts
      have HKAT : Hid (KT[j]? = some t.plain) := HKT.out j t htk
      have HNX := Lib.hid (totK_succ HKAT.out)
      rw [HTOT.out] at HNX
      obtain ⟨ab, ao, rfl, hab, hcells⟩ := HLT.out.at_ htk
      have HCE := Lib.hid hcells
      obtain ⟨p0, p1, p2, p3⟩ := hcells wr HQ.out
      obtain ⟨wk, hwk⟩ : ∃ wk, wr.alloc (.cells #[.int .i64 t.kind, .string t.text, .slice t.lA t.leads.length t.lc, .slice t.kA t.kids.length t.kc] 42) = wk := ⟨_, rfl⟩
      have HKB : Hid (Blk wk wr.heap.size 42 #[.int .i64 t.kind, .string t.text, .slice t.lA t.leads.length t.lc, .slice t.kA t.kids.length t.kc]) := by subst hwk; exact Blk.new wr _ _
      have HBK : Hid (Below wr.heap.size wr wk) := by subst hwk; exact bal (Below.refl _ _) _
      have HQK : Hid (Below w1.heap.size w1 wk) := HQ.out.trans (HBK.out.mono HQ.out.size)
      have HTT := Lib.hid (HLT.out.2 t hts)
      have hsz := size_any t wk (HTT.out.1.up (Nat.le_refl _) HQK.out)
      have hwr : wrap64 (t.plain.size : Int) = (t.plain.size : Int) := IntWalk.wrap64_in _ (by omega)
      obtain ⟨ss, hss⟩ : ∃ x, t.plain.size = x := ⟨_, rfl⟩
      unfold SizeAt TX.val at hsz
      rw [hwr, hss] at hsz
      rw [hss] at HNX ht20
      have HSZ := Lib.hid hsz
      have f0 := HKB.out.cell 0
      have f1 := HKB.out.cell 1
      have f2 := HKB.out.cell 2
      have f3 := HKB.out.cell 3
      simp at f0 f1 f2 f3
      clear htk hts hcells hsz hwr hss
      go_wp2_with fail
      refine (HSZ.out).mono ?_
      rintro e w5 ⟨rfl, hb5⟩
      have HB5 : Hid (Below w1.heap.size w1 w5) := HQK.out.trans (hb5.mono HQK.out.size)
      obtain ⟨wA, hwA⟩ : ∃ wA, w5.alloc (.cells #[.int .i64 (tot : Int), .int .i64 (ss : Int)] 3) = wA := ⟨_, rfl⟩
      have HSUM : Hid (Calls Tryd.prog 42 #[.slice (some ⟨w5.heap.size, 0, none⟩) 2 2] wA fun e w' => e = .returned (.int .i64 ((min (tot + ss) 20001 : Nat) : Int)) ∧ wA = w') := by
        have h1 : Blk wA w5.heap.size 3 #[.int .i64 (tot : Int), .int .i64 (ss : Int)] := by subst hwA; exact Blk.new w5 _ _
        have h2 := sum_any (some ⟨w5.heap.size, 0, none⟩) 2 wA.heap.size [tot, ss] wA (blk_reads (xs := [.int .i64 (tot : Int), .int .i64 (ss : Int)]) h1 rfl) (fun x hx => by simp at hx; omega) (by simp)
        have e : capSum [tot, ss] = min (tot + ss) 20001 := by simp [capSum]; omega
        rw [e] at h2
        exact h2
      have HBA : Hid (Below w1.heap.size w1 wA) := by subst hwA; exact bal HB5.out _
      have HWK := Lib.hid hwk
      clear hb5 p0 p1 p2 p3 f0 f1 f2 f3 hwk
      go_wp2_with fail
      refine (HSUM.out).mono ?_
      rintro e w6 ⟨rfl, rfl⟩
      have HWA := Lib.hid hwA
      clear hwA
      go_wp2_with fail
      go_roundw
      case rel => exact ⟨j + 1, by omega, by go_num, by rw [HNX.out], HBA⟩
      case measure => simp [intOf] <;> omega
    · obtain rfl : j = m := by omega
      have HT0 : Hid (totK KT (j + 0) = tot) := HTOT.out
      go_wp2_with fail
      go_loopw [8, 36] (fun s i wr => ∃ k : Nat, k ≤ n ∧ i = .int .i64 (k : Int) ∧ s = .int .i64 (totK KT (j + k) : Int) ∧ Hid (Below w1.heap.size w1 wr)) (fun _ i _ => n - (intOf i).toNat)
      case atStart => exact ⟨0, by omega, rfl, by rw [HT0.out], HQ⟩
      case round =>
        clear HTOT HT0 htle
        obtain ⟨k, hk, rfl, rfl, HQ⟩ := hrel
        obtain ⟨tot, htot⟩ : ∃ x, totK KT (j + k) = x := ⟨_, rfl⟩
        have htle := totK_le KT (j + k)
        rw [htot] at htle ⊢
        have HTOT := Lib.hid htot
        clear htot
        by_cases hlt : k < n
        · obtain ⟨t, htk⟩ : ∃ t, ls[k]? = some t := ⟨_, List.getElem?_eq_getElem (by rw [HN.out]; exact hlt)⟩
          have hts := hmem htk
          have ht20 : t.plain.size ≤ 20000 := HS20'.out t hts
          have HKAT : Hid (KT[(j + k)]? = some t.plain) := HKT'.out k t htk
          have HNX := Lib.hid (totK_succ HKAT.out)
          rw [HTOT.out] at HNX
          obtain ⟨ab, ao, rfl, hab, hcells⟩ := HL1.out.at_ htk
          have HCE := Lib.hid hcells
          obtain ⟨p0, p1, p2, p3⟩ := hcells wr HQ.out
          obtain ⟨wk, hwk⟩ : ∃ wk, wr.alloc (.cells #[.int .i64 t.kind, .string t.text, .slice t.lA t.leads.length t.lc, .slice t.kA t.kids.length t.kc] 42) = wk := ⟨_, rfl⟩
          have HKB : Hid (Blk wk wr.heap.size 42 #[.int .i64 t.kind, .string t.text, .slice t.lA t.leads.length t.lc, .slice t.kA t.kids.length t.kc]) := by subst hwk; exact Blk.new wr _ _
          have HBK : Hid (Below wr.heap.size wr wk) := by subst hwk; exact bal (Below.refl _ _) _
          have HQK : Hid (Below w1.heap.size w1 wk) := HQ.out.trans (HBK.out.mono HQ.out.size)
          have HTT := Lib.hid (HL1.out.2 t hts)
          have hsz := size_any t wk (HTT.out.1.up (Nat.le_refl _) HQK.out)
          have hwr : wrap64 (t.plain.size : Int) = (t.plain.size : Int) := IntWalk.wrap64_in _ (by omega)
          obtain ⟨ss, hss⟩ : ∃ x, t.plain.size = x := ⟨_, rfl⟩
          unfold SizeAt TX.val at hsz
          rw [hwr, hss] at hsz
          rw [hss] at HNX ht20
          have HSZ := Lib.hid hsz
          have f0 := HKB.out.cell 0
          have f1 := HKB.out.cell 1
          have f2 := HKB.out.cell 2
          have f3 := HKB.out.cell 3
          simp at f0 f1 f2 f3
          clear htk hts hcells hsz hwr hss
          go_wp2_with fail
          refine (HSZ.out).mono ?_
          rintro e w5 ⟨rfl, hb5⟩
          have HB5 : Hid (Below w1.heap.size w1 w5) := HQK.out.trans (hb5.mono HQK.out.size)
          obtain ⟨wA, hwA⟩ : ∃ wA, w5.alloc (.cells #[.int .i64 (tot : Int), .int .i64 (ss : Int)] 3) = wA := ⟨_, rfl⟩
          have HSUM : Hid (Calls Tryd.prog 42 #[.slice (some ⟨w5.heap.size, 0, none⟩) 2 2] wA fun e w' => e = .returned (.int .i64 ((min (tot + ss) 20001 : Nat) : Int)) ∧ wA = w') := by
            have h1 : Blk wA w5.heap.size 3 #[.int .i64 (tot : Int), .int .i64 (ss : Int)] := by subst hwA; exact Blk.new w5 _ _
            have h2 := sum_any (some ⟨w5.heap.size, 0, none⟩) 2 wA.heap.size [tot, ss] wA (blk_reads (xs := [.int .i64 (tot : Int), .int .i64 (ss : Int)]) h1 rfl) (fun x hx => by simp at hx; omega) (by simp)
            have e : capSum [tot, ss] = min (tot + ss) 20001 := by simp [capSum]; omega
            rw [e] at h2
            exact h2
          have HBA : Hid (Below w1.heap.size w1 wA) := by subst hwA; exact bal HB5.out _
          have HWK := Lib.hid hwk
          clear hb5 p0 p1 p2 p3 f0 f1 f2 f3 hwk
          go_wp2_with fail
          refine (HSUM.out).mono ?_
          rintro e w6 ⟨rfl, rfl⟩
          have HWA := Lib.hid hwA
          clear hwA
          go_wp2_with fail
          go_roundw
          case rel => exact ⟨k + 1, by omega, by go_num, by rw [show j + (k + 1) = j + k + 1 from rfl, HNX.out], HBA⟩
          case measure => simp [intOf] <;> omega
        · obtain rfl : k = n := by omega
          have HBR : Hid (Below w.heap.size w wr) := HB1.out.trans (HQ.out.mono HB1.out.size)
          have HRX9 : Hid (Blk wr (w.heap.size + 1) 29 #[.slice none 0 0, .slice none 0 0]) := HRX1.out.below HQ.out HRX1.out.lt
          by_cases hov : 20000 < tot
          · have d1 : decide ((20000 : Int) < (tot : Int)) = true := decide_eq_true (by omega)
            have HE := Lib.hid (addE_long (ls := ls.map TX.plain) HE0.out (by rw [HKTE.out]; exact totK_over (j := j + k) (by rw [HTOT.out]; exact hov)))
            have o0 := HRX9.out.cell 0
            have o1 := HRX9.out.cell 1
            have f0 := HRX9.out.frozen 0
            have f1 := HRX9.out.frozen 1
            simp at o0 o1
            go_wp2_with fail
            have FM := (HRX9.out.set_ 0 (.slice none 0 0)).set_ 1 (.slice none 0 0)
            refine bodyPost_ret (results_cell_row2 (P := Tryd.prog) rfl _ _ (w.heap.size + 1) 29 #[.slice none 0 0, .slice none 0 0] (0, 0) _ rfl FM Tryd.underlying29 rfl (by kernel_rfl)) rfl ?_
            exact AddPost.no HE.out (by decide) ((HBR.out.setCell (p := ⟨w.heap.size + 1, 0, none⟩) (Nat.le_succ _) _).setCell (p := ⟨w.heap.size + 1, 1, none⟩) (Nat.le_succ _) _)
          have d1 : decide ((20000 : Int) < (tot : Int)) = false := decide_eq_false (by omega)
          have HSK : Hid (T.sizes KT ≤ 20000) := totK_all (j := j + k) (by rw [HTOT.out]; exact hov) (by rw [HKL.out]; exact Nat.le_refl _)
          have HE := Lib.hid (addE_ok (ls := ls.map TX.plain) HE0.out (by rw [HKTE.out]; exact HSK.out))
          have htl := HTL.out.below HQ.out
          have HTL9 := Lib.hid htl
          have HROW : Hid (wr.ownsRow W1.heap.size 42 4 (.slice A j c) j (ts.flatMap TX.cells)) := by have := htl.row; rw [HM.out] at this; exact this
          have hz9 := HQ.out.size
          have HRD : Hid (Reads wr W1.heap.size 4 L k (ls.flatMap TX.cells)) := by
            have h1 := ((HL.out.1.below HBR.out).more HBW.out.size)
            rw [HN.out] at h1
            exact h1
          have HONE : Hid (∀ u ∈ ls.flatMap TX.cells, u.oneCell' = true) := fun u hu => by
            obtain ⟨t, -, ht⟩ := List.mem_flatMap.1 hu
            exact tree_one t u ht
          clear htl
          go_wp2_with (at_builtin; refine wpList_append_row _ rfl (.tmp 49) (.tmp 50) 23 23 rfl W1.heap.size 42 i0' (.agg #[.int .i64 0, .string ⟨#[]⟩, .slice none 0 0, .slice none 0 0]) 4 72 Tryd.underlying23 HI.out HZ0.out HZ1.out HZ2.out rfl (by decide) (.slice A j c) j (ts.flatMap TX.cells) rfl HROW.out (.slice L k lc) k (ls.flatMap TX.cells) rfl (src_reads _ Tryd.underlying23 lc HRD.out HONE.out) ?c1 ?c2 ?c3 ?_)
          case c1 => unfold maxLen; omega
          case c2 => omega
          case c3 => omega
          intro v6 w6 ho6 hg6
          obtain ⟨A6, c6, rfl, hr6, -⟩ := reads_of_owns ho6
          have hall := HTL9.out.app (ls := ls) (fun t ht => ⟨((HL.out.2 t ht).1.low HBR.out).more HBW.out.size, (HL.out.2 t ht).2⟩) (Nat.le_trans HZB.out hz9) (by rw [HM.out]; exact hg6)
          have HLT6 : Hid (LT w6 A6 (ts ++ ls)) := by
            refine ⟨?_, hall⟩
            rw [List.length_append, List.flatMap_append, HM.out, HN.out]
            exact hr6
          have HB6 : Hid (Below w.heap.size w w6) := HBR.out.grown hg6.grown HBR.out.size (fun g hg => by have := own_from HROW.out g hg; have := HBW.out.size; omega)
          have HRX6 : Hid (Blk w6 (w.heap.size + 1) 29 #[.slice none 0 0, .slice none 0 0]) := hg6.blk HRX9.out (fun e => by have := own_from HROW.out _ e; have := HRX.out.lt; omega)
          have hpe : (ts ++ ls).map TX.plain = KT := by rw [List.map_append, HPM.out]; exact HKTE.out
          have hmk := make_any A6 c6 (ts ++ ls) w6 HLT6.out (by rw [hpe]; have := HSK.out; omega) (HT.out.below HB6.out)
          have hlen2 : (ts ++ ls).length = j + k := by rw [List.length_append, HM.out, HN.out]
          rw [hpe, hlen2] at hmk
          have HMK := Lib.hid hmk
          clear ho6 hg6 hr6 hall hpe hmk hlen2
          go_wp2_with fail
          refine (HMK.out).mono ?_
          rintro e w7 ⟨u, rfl, hun, hur, huk, hb7⟩
          have HRX7 := Lib.hid (HRX6.out.below hb7 HRX6.out.lt)
          have HB7 : Hid (Below w.heap.size w w7) := HB6.out.trans (hb7.mono HB6.out.size)
          have HU := Lib.hid huk
          have HUP : Hid ((u.ns, u.rs) = addP v.ns v.rs (ls.map TX.plain)) := by unfold Hid; rw [addP_ok HE.out, HKTE.out, hun, hur]
          have o0 := HRX7.out.cell 0
          have o1' := HRX7.out.cell 1
          have f0 := HRX7.out.frozen 0
          have f1 := HRX7.out.frozen 1
          simp at o0 o1'
          unfold PkV.val
          clear hun hur huk hb7
          go_wp2_with fail
          have FM := (HRX7.out.set_ 0 (.slice u.nA u.ps.length u.nc)).set_ 1 (.slice u.rA u.rs.length u.rc)
          refine bodyPost_ret (results_cell_row2 (P := Tryd.prog) rfl _ _ (w.heap.size + 1) 29 #[.slice u.nA u.ps.length u.nc, .slice u.rA u.rs.length u.rc] (0, 0) _ rfl FM Tryd.underlying29 rfl (by kernel_rfl)) rfl ?_
          exact AddPost.yes HE.out HUP.out HU.out HRX7.out HB7.out
end Go.Proofs.YtdabmjcpiblofaaDoor
