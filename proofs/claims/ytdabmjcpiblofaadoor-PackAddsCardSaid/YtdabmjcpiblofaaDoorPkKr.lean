/-
  Keep, the reference's. No condition.
-/
import Derived.Test.YtdabmjcpiblofaaDoorPkKp
namespace Go.Proofs.YtdabmjcpiblofaaDoor
open Go.RowKit
set_option linter.unusedVariables false

theorem sz_kept {ns : List PN} {rs ks : List Int} {j kn rn : Nat} {t : T} (hf : formN ns) (hr : rootsN ns rs) (h20 : ∀ t ∈ treesP ns rs, t.size ≤ 20000) (hk : ks[j]? = some (kn : Int)) (hrk : rs[kn]? = some (rn : Int)) (ht : (keptT ns rs ks)[j]? = some t) : (szA ns).getD rn 0 = t.size := by
  have h1 := hr _ (List.mem_of_getElem? hrk)
  have hT : (treesP ns rs)[kn]? = some (trA ns rn) := by unfold treesP; rw [List.getElem?_map, hrk]; simp
  have e : t = trA ns rn := by
    unfold keptT at ht
    rw [List.getElem?_map, hk] at ht
    simp [List.getD, hT] at ht
    exact ht.symm
  rw [szA_at hf (by omega), e]
  have := h20 _ (List.mem_of_getElem? hT)
  unfold capS
  omega

set_option maxRecDepth 100000 in
set_option maxHeartbeats 4000000 in
theorem rkeep_any (v : PkV) (R : Option Addr) (rc : Nat) (ks : List Int) (w : World) (h : v.ok w w.heap.size) (hr : Reads w w.heap.size 1 R ks.length (ks.map (Value.int .i64))) (hkl : ks.length ≤ 1000000) (hk64 : ∀ k ∈ ks, i64 k) :
    Calls Tryd.prog 28 #[v.val, .slice R ks.length rc] w (KeepPost w v ks) := by
  obtain ⟨n, hn⟩ : ∃ n, ks.length = n := ⟨_, rfl⟩
  obtain ⟨nn, hnn⟩ : ∃ n, v.ps.length = n := ⟨_, rfl⟩
  obtain ⟨mm, hmm⟩ : ∃ n, v.rs.length = n := ⟨_, rfl⟩
  obtain ⟨rA, hrA⟩ : ∃ a, v.rA = a := ⟨_, rfl⟩
  have hrl := h.rl
  have hnl := h.nl
  rw [hmm] at hrl
  rw [hnn] at hnl
  rw [hn] at hkl hr ⊢
  have hval : v.val = .agg #[.slice v.nA nn v.nc, .slice rA mm v.rc] := by unfold PkV.val; rw [hnn, hmm, hrA]
  obtain ⟨W0, hW0⟩ : ∃ W, w.alloc (.cells #[.slice v.nA nn v.nc, .slice rA mm v.rc] 29) = W := ⟨_, rfl⟩
  obtain ⟨W1, hW1⟩ : ∃ W, W0.alloc (.cells #[.slice none 0 0, .slice none 0 0] 29) = W := ⟨_, rfl⟩
  have hs0 : W0.heap.size = w.heap.size + 1 := by subst hW0; simp
  have HBX : Hid (Blk W1 w.heap.size 29 #[.slice v.nA nn v.nc, .slice rA mm v.rc]) := by subst hW1 hW0; exact (Blk.new w _ _).alloc _
  have HRX : Hid (Blk W1 (w.heap.size + 1) 29 #[.slice none 0 0, .slice none 0 0]) := by subst hW1; rw [← hs0]; exact Blk.new W0 _ _
  have HBW : Hid (Below w.heap.size w W1) := by subst hW1 hW0; exact bal (bal (Below.refl _ w) _) _
  have c0 := HBX.out.cell 0
  have c1 := HBX.out.cell 1
  simp at c0 c1
  have HC := Lib.hid (rtrees_any v W1 (h.up (Nat.le_refl _) HBW.out))
  rw [hval] at HC ⊢
  have HR : Hid (∀ wr, Below w.heap.size w wr → Reads wr w.heap.size 1 R n (ks.map (Value.int .i64))) := fun wr hb => hr.below hb
  have H := Lib.hid h
  have HVAL := Lib.hid hval
  have HN := Lib.hid hn
  have HNN := Lib.hid hnn
  have HMM := Lib.hid hmm
  have HRA := Lib.hid hrA
  obtain ⟨i0', hi', hz0, hz1, hz2⟩ := info_parts tree_info
  have HI := Lib.hid hi'
  have HZ0 := Lib.hid hz0
  have HZ1 := Lib.hid hz1
  have HZ2 := Lib.hid hz2
  clear h hr hn hnn hmm hrA hval hi' hz0 hz1 hz2
  go_enter Tryd.func28, Tryd.ntmps28
  go_wp2_with fail
  refine (HC.out).mono ?_
  rintro e w1 ⟨A, c, ts, rfl, htl, hpl, hno, hb⟩
  have HB1 : Hid (Below w.heap.size w w1) := HBW.out.trans (hb.mono HBW.out.size)
  have HBX1 : Hid (Blk w1 w.heap.size 29 #[.slice v.nA nn v.nc, .slice rA mm v.rc]) := HBX.out.below hb HBX.out.lt
  have HRX1 : Hid (Blk w1 (w.heap.size + 1) 29 #[.slice none 0 0, .slice none 0 0]) := HRX.out.below hb HRX.out.lt
  have HW0 := Lib.hid hW0
  have HW1 := Lib.hid hW1
  clear hW0 hW1 c0 c1 HC
  by_cases h0 : errP v.ns v.rs = 0
  rotate_left
  · obtain ⟨er, her⟩ : ∃ er, errP v.ns v.rs = er := ⟨_, rfl⟩
    have HE := Lib.hid (keepE_err (ks := ks) h0)
    rw [her] at h0 HE ⊢
    have d1 : (er != 0) = true := by simpa using h0
    have d2 : (er == 0) = false := by simpa using h0
    have HNZ := Lib.hid h0
    have o0 := HRX1.out.cell 0
    have o1 := HRX1.out.cell 1
    have f0 := HRX1.out.frozen 0
    have f1 := HRX1.out.frozen 1
    simp at o0 o1
    clear htl hpl hno hb h0 her
    go_wp2_with fail
    have FM := (HRX1.out.set_ 0 (.slice none 0 0)).set_ 1 (.slice none 0 0)
    refine bodyPost_ret (results_cell_row2 (P := Tryd.prog) rfl _ _ (w.heap.size + 1) 29 #[.slice none 0 0, .slice none 0 0] (0, 0) _ rfl FM Tryd.underlying29 rfl (by kernel_rfl)) rfl ?_
    exact KeepPost.no HE.out HNZ.out ((HB1.out.setCell (p := ⟨w.heap.size + 1, 0, none⟩) (Nat.le_succ _) _).setCell (p := ⟨w.heap.size + 1, 1, none⟩) (Nat.le_succ _) _)
  have HPL := Lib.hid (hpl h0)
  have HLT := Lib.hid htl.lt
  have HE0 := Lib.hid h0
  have hmts : ts.length = mm := by
    have := congrArg List.length (hpl h0)
    unfold treesP at this
    simp at this
    rw [this]; exact HMM.out
  rw [h0, hmts]
  have HTL := Lib.hid hmts
  clear htl hpl hno hb h0 hmts
  go_wp2_with fail
  go_loop [8] (fun i => ∃ j : Nat, j ≤ n ∧ i = .int .i64 (j : Int) ∧ Hid (∀ k ∈ ks.take j, 0 ≤ k ∧ k < (mm : Int))) (fun i => n - (intOf i).toNat)
  case atStart => exact ⟨0, by omega, rfl, (fun k hk => by simp at hk)⟩
  case round =>
    obtain ⟨j, hj, rfl, HK⟩ := hrel
    by_cases hlt : j < n
    · obtain ⟨k, hk⟩ : ∃ k, ks[j]? = some k := ⟨_, List.getElem?_eq_getElem (by rw [HN.out]; exact hlt)⟩
      obtain ⟨b1, o1, u1, rfl, -, hu1, g1⟩ := (HR.out _ HB1.out).at1 hlt
      obtain rfl : u1 = .int .i64 k := by rw [List.getElem?_map, hk] at hu1; simpa using hu1.symm
      by_cases hkr : 0 ≤ k ∧ k < (mm : Int)
      · have d1 : decide (k < 0) = false := decide_eq_false (by omega)
        have d2 : decide ((mm : Int) ≤ k) = false := decide_eq_false (by omega)
        have HY3 : Hid (∀ y ∈ ks.take (j + 1), 0 ≤ y ∧ y < (mm : Int)) := by
          rw [take_snoc' hk]
          intro y' hy'
          rcases List.mem_append.1 hy' with h' | h'
          · exact HK.out y' h'
          · simp at h'; omega
        clear hk hu1 hkr
        go_wp2_with fail
        go_round
        case rel => exact ⟨j + 1, by omega, by go_num, HY3⟩
        case measure => simp [intOf]; omega
      · have HE := Lib.hid (keepE_arg (ks := ks) HE0.out (fun hin => by have := hin k (List.mem_of_getElem? hk); rw [HMM.out] at this; exact hkr this))
        have o0 := HRX1.out.cell 0
        have o1' := HRX1.out.cell 1
        have f0 := HRX1.out.frozen 0
        have f1 := HRX1.out.frozen 1
        simp at o0 o1'
        by_cases hy0 : k < 0
        · have d1 : decide (k < 0) = true := decide_eq_true hy0
          clear hk hu1 hkr
          go_wp2_with fail
          have FM := (HRX1.out.set_ 0 (.slice none 0 0)).set_ 1 (.slice none 0 0)
          refine bodyPost_ret (results_cell_row2 (P := Tryd.prog) rfl _ _ (w.heap.size + 1) 29 #[.slice none 0 0, .slice none 0 0] (0, 0) _ rfl FM Tryd.underlying29 rfl (by kernel_rfl)) rfl ?_
          exact KeepPost.no HE.out (by decide) ((HB1.out.setCell (p := ⟨w.heap.size + 1, 0, none⟩) (Nat.le_succ _) _).setCell (p := ⟨w.heap.size + 1, 1, none⟩) (Nat.le_succ _) _)
        · have d1 : decide (k < 0) = false := decide_eq_false hy0
          have d2 : decide ((mm : Int) ≤ k) = true := decide_eq_true (by omega)
          clear hk hu1 hkr
          go_wp2_with fail
          have FM := (HRX1.out.set_ 0 (.slice none 0 0)).set_ 1 (.slice none 0 0)
          refine bodyPost_ret (results_cell_row2 (P := Tryd.prog) rfl _ _ (w.heap.size + 1) 29 #[.slice none 0 0, .slice none 0 0] (0, 0) _ rfl FM Tryd.underlying29 rfl (by kernel_rfl)) rfl ?_
          exact KeepPost.no HE.out (by decide) ((HB1.out.setCell (p := ⟨w.heap.size + 1, 0, none⟩) (Nat.le_succ _) _).setCell (p := ⟨w.heap.size + 1, 1, none⟩) (Nat.le_succ _) _)
    · obtain rfl : j = n := by omega
      have HIN : Hid (∀ k ∈ ks, 0 ≤ k ∧ k < (mm : Int)) := by
        have h2 := HK.out
        rw [List.take_of_length_le (by rw [HN.out]; exact Nat.le_refl _)] at h2
        exact h2
      have HS20 : Hid (∀ t ∈ treesP v.ns v.rs, t.size ≤ 20000) := fun t hm => by
        have h1 := size_mem (ts := treesP v.ns v.rs) hm
        have := (errP_zero HE0.out).2.2
        omega
      have HIK : Hid (inK v.rs ks) := fun k hk => by have := HIN.out k hk; rw [HMM.out]; exact this
      obtain ⟨KT, hKT⟩ : ∃ l, keptT v.ns v.rs ks = l := ⟨_, rfl⟩
      have HKT := Lib.hid hKT
      have HKL : Hid (KT.length = j) := by unfold Hid; rw [← hKT, keptT_len, HN.out]
      have HC2 := Lib.hid (rsizes_any v w1 (H.out.up (Nat.le_refl _) HB1.out) (errP_zero HE0.out).1)
      rw [HVAL.out] at HC2
      have q0 := HBX1.out.cell 0
      have q1 := HBX1.out.cell 1
      simp at q0 q1
      clear hKT
      go_wp2_with fail
      refine (HC2.out).mono ?_
      rintro e w2 ⟨Z, zc, rfl, hZ, hb2⟩
      rw [HNN.out] at hZ ⊢
      have HZ := Lib.hid hZ
      have HB2 : Hid (Below w.heap.size w w2) := HB1.out.trans (hb2.mono HB1.out.size)
      have HBX2 := Lib.hid (HBX1.out.below hb2 HBX1.out.lt)
      have HRX2 := Lib.hid (HRX1.out.below hb2 HRX1.out.lt)
      have HLT2 := Lib.hid (HLT.out.up hb2)
      clear hZ hb2 HC2 q0 q1
      go_wp2_with fail
      go_loopw [10, 11] (fun s i wr => ∃ a : Nat, a ≤ j ∧ i = .int .i64 (a : Int) ∧ s = .int .i64 (totK KT a : Int) ∧ Hid (∃ q, wr = w2.drewN q)) (fun _ i _ => j - (intOf i).toNat)
      case atStart => exact ⟨0, by omega, rfl, by simp [totK, capSum], ⟨0, rfl⟩⟩
      case round =>
        obtain ⟨a, ha, rfl, rfl, HQ⟩ := hrel
        obtain ⟨q, rfl⟩ := HQ.out
        have HB3 : Hid (Below w.heap.size w (w2.drewN q)) := below_drewN HB2.out q
        have HD3 : Hid (Below w2.heap.size w2 (w2.drewN q)) := below_drewN (Below.refl _ _) q
        have q0 := (HBX2.out.below HD3.out HBX2.out.lt).cell 0
        have q1 := (HBX2.out.below HD3.out HBX2.out.lt).cell 1
        simp at q0 q1
        obtain ⟨tot, htot⟩ : ∃ x, totK KT a = x := ⟨_, rfl⟩
        have htl := totK_le KT a
        rw [htot] at htl ⊢
        have HTOT := Lib.hid htot
        clear htot
        by_cases hla : a < j
        · obtain ⟨k, hk⟩ : ∃ k, ks[a]? = some k := ⟨_, List.getElem?_eq_getElem (by rw [HN.out]; exact hla)⟩
          obtain ⟨b1, o1, u1, rfl, -, hu1, g1⟩ := (HR.out _ HB2.out).at1 hla
          obtain rfl : u1 = .int .i64 k := by rw [List.getElem?_map, hk] at hu1; simpa using hu1.symm
          have hkr := HIN.out k (List.mem_of_getElem? hk)
          obtain ⟨kn, rfl⟩ : ∃ kn : Nat, k = (kn : Int) := ⟨k.toNat, by omega⟩
          obtain ⟨r, hrk⟩ : ∃ r, v.rs[kn]? = some r := ⟨_, List.getElem?_eq_getElem (by rw [HMM.out]; omega)⟩
          have hrr := H.out.roots.below HB2.out
          rw [HMM.out] at hrr
          obtain ⟨b2, o2, u2, hrA', -, hu2, g2⟩ := hrr.at1 (k := kn) (by omega)
          obtain rfl : u2 = .int .i64 r := by rw [List.getElem?_map, hrk] at hu2; simpa using hu2.symm
          obtain rfl : rA = some ⟨b2, o2, none⟩ := HRA.out.symm.trans hrA'
          have hrb := (errP_zero HE0.out).2.1 r (List.mem_of_getElem? hrk)
          rw [v.ns_len, HNN.out] at hrb
          obtain ⟨rn, rfl⟩ : ∃ rn : Nat, r = (rn : Int) := ⟨r.toNat, by omega⟩
          obtain ⟨b3, o3, u3, hZA, -, hu3, g3⟩ := HZ.out.at1 (k := rn) (by omega)
          have hns : rn < (szA v.ns).length := by rw [szA_len, v.ns_len, HNN.out]; omega
          obtain rfl : u3 = natV ((szA v.ns).getD rn 0) := by
            rw [List.getElem?_map, List.getElem?_eq_getElem hns] at hu3
            simp [List.getD, List.getElem?_eq_getElem hns] at hu3 ⊢
            exact hu3.symm
          obtain ⟨t, hKat⟩ : ∃ t, KT[a]? = some t := ⟨_, List.getElem?_eq_getElem (by rw [HKL.out]; exact hla)⟩
          have hsk := sz_kept (errP_zero HE0.out).1 (errP_zero HE0.out).2.1 HS20.out hk hrk (by rw [HKT.out]; exact hKat)
          have HNX := Lib.hid (totK_succ hKat)
          rw [HTOT.out] at HNX
          rw [hsk] at g3
          have hs2 : t.size ≤ 20001 := by rw [← hsk]; exact szA_le _ _
          obtain ⟨ss, hss⟩ : ∃ x, t.size = x := ⟨_, rfl⟩
          rw [hss] at g3 HNX hs2
          unfold natV at g3
          have k0 : (0 : Int) ≤ (kn : Int) := by omega
          have k1 : (kn : Int) < (mm : Int) := by omega
          have k2 : (0 : Int) ≤ (rn : Int) := by omega
          have k3 : (rn : Int) < (nn : Int) := by omega
          have k4 : (0 : Int) ≤ (a : Int) := by omega
          have k5 : (a : Int) < (j : Int) := by omega
          subst hZA
          have HMN : Hid (((min (tot + ss) 20001 : Nat) : Int) = if (tot : Int) + (ss : Int) < 20001 then (tot : Int) + (ss : Int) else 20001) := by unfold Hid; split <;> omega
          clear hk hu1 hu2 hu3 hkr hrr hrb hrk hsk hss hKat hns hrA'
          go_wp2_with fail
          go_quiet (fail)
          go_wp2_with fail
          go_roundw
          case rel => exact ⟨a + 1, by omega, by go_num, by rw [HNX.out]; first | rfl | (congr 1; omega), ⟨_, rfl⟩⟩
          case measure => simp [intOf]; omega
        · obtain rfl : a = j := by omega
          obtain ⟨w3, hw3⟩ : ∃ w3, w2.drewN q = w3 := ⟨_, rfl⟩
          rw [hw3] at HB3 HD3
          have HW3 := Lib.hid hw3
          have HRX3 := Lib.hid (HRX2.out.below HD3.out HRX2.out.lt)
          have HLT3 := Lib.hid (HLT2.out.up HD3.out)
          by_cases hov : 20000 < tot
          · have d1 : decide ((20000 : Int) < (tot : Int)) = true := decide_eq_true (by omega)
            have HE := Lib.hid (keepE_long HE0.out HIK.out (by rw [HKT.out]; exact totK_over (j := a) (by rw [HTOT.out]; exact hov)))
            have o0 := HRX3.out.cell 0
            have o1' := HRX3.out.cell 1
            have f0 := HRX3.out.frozen 0
            have f1 := HRX3.out.frozen 1
            simp at o0 o1'
            go_wp2_with fail
            have FM := (HRX3.out.set_ 0 (.slice none 0 0)).set_ 1 (.slice none 0 0)
            refine bodyPost_ret (results_cell_row2 (P := Tryd.prog) rfl _ _ (w.heap.size + 1) 29 #[.slice none 0 0, .slice none 0 0] (0, 0) _ rfl FM Tryd.underlying29 rfl (by kernel_rfl)) rfl ?_
            exact KeepPost.no HE.out (by decide) ((HB3.out.setCell (p := ⟨w.heap.size + 1, 0, none⟩) (Nat.le_succ _) _).setCell (p := ⟨w.heap.size + 1, 1, none⟩) (Nat.le_succ _) _)
          have d1 : decide ((20000 : Int) < (tot : Int)) = false := decide_eq_false (by omega)
          have HSK : Hid (T.sizes KT ≤ 20000) := totK_all (j := a) (by rw [HTOT.out]; exact hov) (by rw [HKL.out]; exact Nat.le_refl _)
          have HE := Lib.hid (keepE_ok HE0.out HIK.out (by rw [HKT.out]; exact HSK.out))
          have HR0 : Hid (KRel w3 w3 ts [] KT 0 (.slice none 0 0)) := KRel.start w3 ts KT
          clear q0 q1
          go_wp2_with fail
          clear hw3
          go_loopw [12, 13] (fun l i wr => ∃ (x : Nat) (lA : Option Addr) (lc : Nat) (kept : List TX), x ≤ a ∧ i = .int .i64 (x : Int) ∧ l = .slice lA x lc ∧ Hid (KRel w3 wr ts kept KT x (.slice lA x lc))) (fun _ i _ => a - (intOf i).toNat)
          case atStart => exact ⟨0, none, 0, [], by omega, rfl, rfl, HR0⟩
          case round =>
            obtain ⟨x, lA, lc, kept, hx, rfl, rfl, HQ⟩ := hrel
            have HBR : Hid (Below w.heap.size w wr) := HB3.out.trans (HQ.out.bel.mono HB3.out.size)
            have hzr := HQ.out.bel.size
            by_cases hla : x < a
            · obtain ⟨k, hk⟩ : ∃ k, ks[x]? = some k := ⟨_, List.getElem?_eq_getElem (by rw [HN.out]; exact hla)⟩
              obtain ⟨b1, o1, u1, rfl, -, hu1, g1⟩ := (HR.out _ HBR.out).at1 hla
              obtain rfl : u1 = .int .i64 k := by rw [List.getElem?_map, hk] at hu1; simpa using hu1.symm
              have hkr := HIN.out k (List.mem_of_getElem? hk)
              obtain ⟨kn, rfl⟩ : ∃ kn : Nat, k = (kn : Int) := ⟨k.toNat, by omega⟩
              obtain ⟨t, htk⟩ : ∃ t, ts[kn]? = some t := ⟨_, List.getElem?_eq_getElem (by rw [HTL.out]; omega)⟩
              have HTS := Lib.hid (hmem htk)
              have HKAT : Hid (KT[x]? = some t.plain) := by unfold Hid; rw [← HKT.out]; exact kept_at HPL.out hk htk
              obtain ⟨ab, ao, rfl, hab, hcells⟩ := HLT3.out.at_ htk
              obtain ⟨p0, p1, p2, p3⟩ := hcells wr HQ.out.bel
              have k0 : (0 : Int) ≤ (kn : Int) := by omega
              have k1 : (kn : Int) < (mm : Int) := by omega
              clear hk hu1 hkr htk hcells
              go_wp2_with (at_builtin; refine wpList_append_row _ rfl (.tmp 75) (.tmp 83) 23 23 rfl w3.heap.size 42 i0' (.agg #[.int .i64 0, .string ⟨#[]⟩, .slice none 0 0, .slice none 0 0]) 4 72 Tryd.underlying23 HI.out HZ0.out HZ1.out HZ2.out rfl (by decide) (.slice lA x lc) x (kept.flatMap TX.cells) rfl (HQ.out.own.alloc _) (.slice (some ⟨wr.heap.size, 0, none⟩) 1 1) 1 t.cells rfl (src_new wr Tryd.underlying23 t.cells 4 1 1 42 rfl (tree_one t)) ?c1 ?c2 ?c3 ?_)
              case c1 => unfold maxLen; omega
              case c2 => omega
              case c3 => simp; omega
              intro v6 w6 ho6 hg6
              obtain ⟨A6, c6, rfl, -, -⟩ := reads_of_owns ho6
              have HQ6 := Lib.hid (HQ.out.step (Below.refl _ _) HKAT.out HTS.out _ ho6 hg6)
              clear ho6 hg6 p0 p1 p2 p3
              go_wp2_with fail
              go_roundw
              case rel => exact ⟨x + 1, A6, c6, _, by omega, by go_num, rfl, HQ6⟩
              case measure => simp [intOf]; omega
            · obtain rfl : x = a := by omega
              have hpk : kept.map TX.plain = KT := by rw [HQ.out.pl, List.take_of_length_le (by rw [HKL.out]; exact Nat.le_refl _)]
              have hln := HQ.out.len
              have hmk := refMake_any lA lc kept wr (HQ.out.lt HLT3.out.2) (by rw [hpk]; have := HSK.out; omega)
              rw [hpk, hln] at hmk
              have HMK := Lib.hid hmk
              have HRX9 : Hid (Blk wr (w.heap.size + 1) 29 #[.slice none 0 0, .slice none 0 0]) := HRX3.out.below HQ.out.bel HRX3.out.lt
              clear hpk hmk hln
              go_wp2_with fail
              refine (HMK.out).mono ?_
              rintro e w7 ⟨u, rfl, hun, hur, huk, hb7⟩
              have HRX7 := Lib.hid (HRX9.out.below hb7 HRX9.out.lt)
              have HB7 : Hid (Below w.heap.size w w7) := HBR.out.trans (hb7.mono HBR.out.size)
              have HU := Lib.hid huk
              have HUP : Hid ((u.ns, u.rs) = keepP v.ns v.rs ks) := by unfold Hid; rw [keepP_ok HE.out, HKT.out, hun, hur]
              have o0 := HRX7.out.cell 0
              have o1' := HRX7.out.cell 1
              have f0 := HRX7.out.frozen 0
              have f1 := HRX7.out.frozen 1
              simp at o0 o1'
              unfold PkV.val
              clear hun hur huk hb7
              go_wp2_with fail
              have FM := (HRX7.out.set_ 0 (.slice u.nA u.ps.length u.nc)).set_ 1 (.slice u.rA u.rs.length u.rc)
              refine bodyPost_ret (results_cell_row2 (P := Tryd.prog) rfl _ _ (w.heap.size + 1) 29 #[.slice u.nA u.ps.length u.nc, .slice u.rA u.rs.length u.rc] (0, 0) _ rfl FM Tryd.underlying29 rfl (by kernel_rfl)) rfl ?_
              exact KeepPost.yes HE.out HUP.out HU.out HRX7.out HB7.out
end Go.Proofs.YtdabmjcpiblofaaDoor
