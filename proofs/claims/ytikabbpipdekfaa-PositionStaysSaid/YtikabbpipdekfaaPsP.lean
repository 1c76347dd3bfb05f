/-
  The reference's Keep. No condition.
-/
import Derived.Test.YtikabbpipdekfaaPsO
namespace Go.Proofs.Ytikabbpipdekfaa
open Go.RowKit
set_option linter.unusedVariables false

theorem rep_skip {ns : List Nat} {m : Nat} (h : ns[m]? = some 0) : List.replicate (m + 1) 0 ++ best (ns.drop (m + 1)) = List.replicate m 0 ++ best (ns.drop m) := by
  rw [best_at h, if_neg (by omega), List.replicate_succ']
  simp
theorem rep_set {ns : List Nat} {m v : Nat} (u : Nat) : (List.replicate m 0 ++ u :: ns).set m v = List.replicate m 0 ++ v :: ns := by
  rw [List.set_append_right _ _ (by simp)]; simp
theorem rep_get {ns : List Nat} {m v : Nat} : (List.replicate m 0 ++ v :: ns)[m]? = some v := by
  rw [List.getElem?_append_right (by simp)]; simp
theorem rep_more {ns : List Nat} {m v q b : Nat} (h : ns[q]? = some b) : (List.replicate m 0 ++ v :: ns)[m + 1 + q]? = some b := by
  rw [List.getElem?_append_right (by simp; omega), List.length_replicate, show m + 1 + q - m = q + 1 by omega, List.getElem?_cons_succ, h]
theorem mx_bd {a n : Nat} : ∀ (q bs : List Nat), (∀ b ∈ bs, b ≤ n) → mx a q bs ≤ n
  | [], bs, h => by simp [mx]
  | k :: q, [], h => by simp [mx]
  | k :: q, b :: bs, h => by
    rw [mx]
    have := mx_bd (a := a) q bs (fun x hx => h x (by simp [hx]))
    have := h b (by simp)
    split <;> omega
theorem best_bd : ∀ (ns : List Nat), ∀ b ∈ best ns, b ≤ ns.length
  | [], b, h => by simp [best] at h
  | a :: r, b, h => by
    rw [best] at h
    rcases List.mem_cons.1 h with h | h
    · have := mx_bd (a := a) r (best r) (best_bd r)
      rw [h, List.length_cons]
      split <;> omega
    · have := best_bd r b h
      rw [List.length_cons]; omega
theorem maxL_bd {n : Nat} : ∀ bs : List Nat, (∀ b ∈ bs, b ≤ n) → maxL bs ≤ n
  | [], _ => by simp [maxL]
  | b :: bs, h => by
    have := maxL_bd bs (fun x hx => h x (by simp [hx]))
    have := h b (by simp)
    rw [maxL]; omega
theorem max_le {v t : Nat} (h : t ≤ v) : max v t = v := by omega

set_option maxRecDepth 100000 in
set_option maxHeartbeats 3200000 in
theorem rkeep_any (A : Option Addr) (c : Nat) (xs : List ByteArray) (w : World) (h : Txt w A xs) : Calls Try.prog 22 #[.slice A xs.length c] w (KeepPost w (nums xs)) := by
  obtain ⟨pb, po, hA, hcells⟩ := h.cells
  have HA := Lib.hid hA
  have HCL := Lib.hid hcells
  have HSH := Lib.hid h.short
  have hfew := h.few
  obtain ⟨n, hn⟩ : ∃ n, xs.length = n := ⟨_, rfl⟩
  obtain ⟨ns, hns⟩ : ∃ ns, nums xs = ns := ⟨_, rfl⟩
  have hnl : ns.length = n := by rw [← hns, nums_len, hn]
  have HAT : Hid (∀ (i : Nat) x, xs[i]? = some x → ns[i]? = some (num x)) := fun i x hx => by rw [← hns]; exact nums_at hx
  rw [hn] at HA hfew ⊢
  rw [hns]
  have HN := Lib.hid hn
  have HNL := Lib.hid hnl
  have HBL : Hid ((best ns).length = n) := by unfold Hid; rw [best_len]; exact hnl
  have hmk := make_ints n (by omega) w
  rw [arrI_zero] at hmk
  obtain ⟨W1, hW1⟩ : ∃ W1, w.alloc (.cells (arrI (List.replicate n 0)) 3) = W1 := ⟨_, rfl⟩
  have HB1 : Hid (Below w.heap.size w W1) := by subst hW1; exact (Below.refl _ w).alloc (Nat.le_refl _) _
  have HX1 : Hid (Blk W1 w.heap.size 3 (arrI (List.replicate n 0 ++ best (ns.drop n)))) := by
    rw [List.drop_eq_nil_of_le (by omega), best, List.append_nil]
    subst hW1; exact Blk.new w 3 _
  rw [hW1] at hmk
  clear h hA hcells hn hns hnl hW1
  go_enter Try.func22, Try.ntmps22
  go_wp2_with fail
  clear hmk
  go_loopw [5] (fun i wr => ∃ j : Nat, j ≤ n ∧ i = .int .i64 ((j : Int) - 1) ∧ Hid (Blk wr w.heap.size 3 (arrI (List.replicate j 0 ++ best (ns.drop j)))) ∧ Hid (Below w.heap.size w wr)) (fun i _ => (intOf i + 1).toNat)
  case atStart => exact ⟨n, Nat.le_refl _, rfl, HX1, HB1⟩
  case round =>
    obtain ⟨j, hj, rfl, HX, HB⟩ := hrel
    by_cases hj0 : j = 0
    · subst hj0
      have HX0 : Hid (Blk wr w.heap.size 3 (arrI (best ns))) := by simpa using HX
      clear HX hj
      simp only [Int.natCast_zero, Int.zero_sub]
      obtain ⟨wv, rfl⟩ : ∃ wo : World, wo = wr := ⟨_, rfl⟩
      have HBW := Lib.hid HB.out
      go_wp2_with fail
      go_loop [7, 8] (fun mo i => ∃ q : Nat, q ≤ n ∧ i = .int .i64 (q : Int) ∧ ∃ u : Nat, mo = .int .i64 (u : Int) ∧ Hid (u = maxL ((best ns).take q))) (fun _ i => n - (intOf i).toNat)
      case atStart => exact ⟨0, by omega, rfl, 0, rfl, rfl⟩
      case round =>
        obtain ⟨q, hq, rfl, u, rfl, HU⟩ := hrel
        by_cases hlt : q < n
        · obtain ⟨b, hb⟩ : ∃ b, (best ns)[q]? = some b := ⟨_, List.getElem?_eq_getElem (by rw [HBL.out]; exact hlt)⟩
          have k1 := arrI_cell HX0.out hb
          have HMX : Hid (((max u b : Nat)) = maxL ((best ns).take (q + 1))) := by unfold Hid; rw [maxL_take hb, HU.out]
          have hcast : ((max u b : Nat) : Int) = max (u : Int) (b : Int) := by omega
          have HCA := Lib.hid hcast
          have i1 : (q : Int) < (n : Int) := by omega
          clear hb hcast
          go_wp2_with fail
          go_round
          case rel => exact ⟨q + 1, by omega, by go_num, max u b, by rw [HCA.out], HMX⟩
          case measure => simp [intOf]; omega
        · obtain rfl : q = n := by omega
          have HMO : Hid (u = maxL (best ns)) := by
            have := HU.out
            rw [List.take_of_length_le (by rw [HBL.out]; omega)] at this
            exact this
          have HUB : Hid (u ≤ 100000) := by
            have := maxL_bd (n := 1000) (best ns) (fun b hb => by have := best_bd ns b hb; rw [HNL.out] at this; omega)
            rw [← HMO.out] at this; unfold Hid; omega
          have hmk := make_bools q (by omega) wv
          rw [arrB_zero] at hmk
          obtain ⟨W2, hW2⟩ : ∃ W2, wv.alloc (.cells (arrB (List.replicate q false)) 4) = W2 := ⟨_, rfl⟩
          have HBN : Hid (Below wv.heap.size wv W2) := by subst hW2; exact (Below.refl _ wv).alloc (Nat.le_refl _) _
          have HO2 : Hid (Blk W2 wv.heap.size 4 (arrB (List.replicate q false))) := by subst hW2; exact Blk.new wv 4 _
          rw [hW2] at hmk
          have HX2 := Lib.hid (HX0.out.below HBN.out HX0.out.lt)
          have HB2 := Lib.hid (HBW.out.trans (HBN.out.mono HBW.out.size))
          have HGS := Lib.hid HX0.out.lt
          have HG0 : Hid (Gone ns 0 u ⟨#[]⟩ (List.replicate q false)) := by
            have := Gone.start ns
            rw [HNL.out, ← HMO.out] at this
            exact this
          clear hW2
          go_wp2_with fail
          clear hmk
          go_loopw [7, 10, 11] (fun mo la i w4 => ∃ (k u : Nat) (last : ByteArray) (out : List Bool), k ≤ q ∧ u ≤ 100000 ∧ mo = .int .i64 (u : Int) ∧ la = .string last ∧ i = .int .i64 (k : Int) ∧ Hid (Gone ns k u last out) ∧ Hid (Blk w4 wv.heap.size 4 (arrB out)) ∧ Hid (Blk w4 w.heap.size 3 (arrI (best ns))) ∧ Hid (Below w.heap.size w w4)) (fun _ _ i _ => q - (intOf i).toNat)
          case atStart => exact ⟨0, u, _, _, by omega, HUB.out, rfl, rfl, rfl, HG0, HO2, HX2, HB2⟩
          case round =>
            obtain ⟨k, u, last, out, hk, hu1, rfl, rfl, rfl, HG, HO, HXB, HBB⟩ := hrel
            by_cases hkq : k < q
            · obtain ⟨x, hx⟩ : ∃ x, xs[k]? = some x := ⟨_, List.getElem?_eq_getElem (by rw [HN.out]; exact hkq)⟩
              obtain ⟨b, hb⟩ : ∃ b, (best ns)[k]? = some b := ⟨_, List.getElem?_eq_getElem (by rw [HBL.out]; exact hkq)⟩
              have hnx := HAT.out k x hx
              obtain rfl := HA.out (by omega)
              have hst := HG.out.step hnx hb
              have k1 := arrI_cell HXB.out hb
              have k2 := HCL.out wr HBB.out k x hx
              obtain ⟨bo, hbo⟩ : ∃ bo, out[k]? = some bo := ⟨_, List.getElem?_eq_getElem (by rw [HG.out.len (by rw [HNL.out]; omega), HNL.out]; exact hkq)⟩
              have k3 := arrB_cell HO.out hbo
              have f3 := HO.out.frozen k
              have i1 : (k : Int) < (q : Int) := by omega
              have hpos := best_pos (ns := ns) hnx hb
              have HOK := Lib.hid HG.out.ok
              by_cases hu0 : 0 < u
              · have e1 : decide (0 < (u : Int)) = true := decide_eq_true (by omega)
                have e1n : decide (0 < u) = true := decide_eq_true hu0
                by_cases hbu : b = u
                · have e2 : ((b : Int) == (u : Int)) = true := by rw [hbu]; simp
                  have e2n : (b == u) = true := by rw [hbu]; simp
                  have hkx := num_pos.1 (hpos.1 (by omega))
                  by_cases hlx : num last < num x
                  · have HGN := Lib.hid (hst.1 ⟨hu0, hbu, hlx⟩)
                    have hu2 : ((u - 1 : Nat) : Int) = (u : Int) - 1 := by omega
                    have hul : 1 ≤ (u : Int) := by omega
                    have HON : Hid (Blk (wr.setCell ⟨wv.heap.size, k, none⟩ (.bool true)) wv.heap.size 4 (arrB (out.set k true))) := arrB_set HO.out k true
                    have HXN : Hid (Blk (wr.setCell ⟨wv.heap.size, k, none⟩ (.bool true)) w.heap.size 3 (arrI (best ns))) := HXB.out.far (p := ⟨wv.heap.size, k, none⟩) (fun e => by have := HGS.out; have e' : w.heap.size = wv.heap.size := e; omega) _
                    have HBN2 : Hid (Below w.heap.size w (wr.setCell ⟨wv.heap.size, k, none⟩ (.bool true))) := HBB.out.setCell (p := ⟨wv.heap.size, k, none⟩) (by have := HGS.out; show w.heap.size ≤ wv.heap.size; omega) _
                    by_cases hle : last.toList = []
                    · have hle' : last.toList.isEmpty = true := by rw [hle]; rfl
                      clear hx hb hnx hst hbo hpos hkx hlx
                      subst hbu
                      go_wp2_with fail
                      go_roundw
                      case rel => exact ⟨k + 1, b - 1, x, out.set k true, by omega, by omega, by rw [hu2], rfl, by go_num, HGN, HON, HXN, HBN2⟩
                      case measure => simp [intOf]; omega
                    · have hle' : last.toList.isEmpty = false := by simpa using hle
                      have hls := less_num HOK.out hkx
                      rw [decide_eq_true hlx] at hls
                      clear hx hb hnx hst hbo hpos hkx hlx
                      subst hbu
                      go_wp2_with fail
                      go_roundw
                      case rel => exact ⟨k + 1, b - 1, x, out.set k true, by omega, by omega, by rw [hu2], rfl, by go_num, HGN, HON, HXN, HBN2⟩
                      case measure => simp [intOf]; omega
                  · have HGN := Lib.hid (hst.2 (fun h => hlx h.2.2))
                    have hle : ¬ last.toList = [] := fun h => by
                      have := num_empty (toList_nil.1 h)
                      have := num_pos.2 hkx
                      omega
                    have hle' : last.toList.isEmpty = false := by simpa using hle
                    have hls := less_num HOK.out hkx
                    rw [decide_eq_false hlx] at hls
                    clear hx hb hnx hst hbo hpos hkx hlx
                    subst hbu
                    go_wp2_with fail
                    go_roundw
                    case rel => exact ⟨k + 1, b, last, out, by omega, hu1, rfl, rfl, by go_num, HGN, HO, HXB, HBB⟩
                    case measure => simp [intOf]; omega
                · have HGN := Lib.hid (hst.2 (fun h => hbu h.2.1))
                  have e2 : ((b : Int) == (u : Int)) = false := by rw [beq_eq_false_iff_ne]; omega
                  have e2n : (b == u) = false := by rw [beq_eq_false_iff_ne]; omega
                  clear hx hb hnx hst hbo hpos hbu
                  go_wp2_with fail
                  go_roundw
                  case rel => exact ⟨k + 1, u, last, out, by omega, hu1, rfl, rfl, by go_num, HGN, HO, HXB, HBB⟩
                  case measure => simp [intOf]; omega
              · have HGN := Lib.hid (hst.2 (fun h => hu0 h.1))
                have e1 : decide (0 < (u : Int)) = false := decide_eq_false (by omega)
                have e1n : decide (0 < u) = false := decide_eq_false hu0
                clear hx hb hnx hst hbo hpos
                go_wp2_with fail
                go_roundw
                case rel => exact ⟨k + 1, u, last, out, by omega, hu1, rfl, rfl, by go_num, HGN, HO, HXB, HBB⟩
                case measure => simp [intOf]; omega
            · obtain rfl : k = q := by omega
              have HE : Hid (KeepPost w ns (.returned (.slice (some ⟨wv.heap.size, 0, none⟩) k k)) wr) := by
                have hg := HG.out
                have hnl := HNL.out
                rw [← hnl] at hg
                have := KeepPost.mk (c := k) HBB.out HO.out hg.end_
                rw [hnl] at this
                exact this
              go_wp2_with fail
              go_ret
              exact HE.out
    · obtain ⟨m, rfl⟩ : ∃ m, j = m + 1 := ⟨j - 1, by omega⟩
      have hmn : m < n := by omega
      rw [show (((m + 1 : Nat) : Int) - 1) = (m : Int) by omega]
      obtain ⟨x, hx⟩ : ∃ x, xs[m]? = some x := ⟨_, List.getElem?_eq_getElem (by rw [HN.out]; exact hmn)⟩
      obtain rfl := HA.out (by omega)
      have k0 := HCL.out wr HB.out m x hx
      have HXI := Lib.hid hx
      have HV := Lib.hid (rvalid_any x wr (HSH.out x (List.mem_of_getElem? hx)))
      unfold VldPost at HV
      have hnx := HAT.out m x hx
      cases hkx : keyB x.data.toList with
      | false =>
        have HXN : Hid (Blk wr w.heap.size 3 (arrI (List.replicate m 0 ++ best (ns.drop m)))) := by
          rw [← rep_skip (by rw [hnx, num_no hkx])]; exact HX
        rw [hkx] at HV
        clear hx hnx hkx hj hj0
        go_wp2_with fail
        refine (HV.out).mono ?_
        rintro e w2 ⟨rfl, rfl⟩
        go_wp2_with fail
        go_roundw
        case rel => exact ⟨m, by omega, rfl, HXN, HB⟩
        case measure => simp [intOf]
      | true =>
        rw [hkx] at HV
        have HKX := Lib.hid hkx
        have HNX := Lib.hid hnx
        have HPX := Lib.hid (num_key hkx).2
        obtain ⟨B, hB⟩ : ∃ B, best (ns.drop (m + 1)) = B := ⟨_, rfl⟩
        obtain ⟨R, hR⟩ : ∃ R, ns.drop (m + 1) = R := ⟨_, rfl⟩
        have hBR : best R = B := by rw [← hR]; exact hB
        have HBR := Lib.hid hBR
        have HRN := Lib.hid hR
        have hRl : R.length = n - (m + 1) := by rw [← hR, List.length_drop, HNL.out]
        have HRL := Lib.hid hRl
        have HBLL : Hid (B.length = R.length) := by rw [← hBR]; exact best_len R
        have HXs : Hid (Blk wr w.heap.size 3 (arrI (List.replicate m 0 ++ 0 :: B))) := by
          have := HX.out
          rw [hB, List.replicate_succ', List.append_assoc] at this
          exact this
        have k1 := arrI_cell HXs.out rep_get
        have f1 := HXs.out.frozen m
        have HX2 : Hid (Blk (wr.setCell ⟨w.heap.size, m, none⟩ (.int .i64 1)) w.heap.size 3 (arrI (List.replicate m 0 ++ 1 :: B))) := by
          have := arrI_set HXs.out m 1
          rw [rep_set] at this
          exact this
        have HB2 : Hid (Below w.heap.size w (wr.setCell ⟨w.heap.size, m, none⟩ (.int .i64 1))) := HB.out.setCell (p := ⟨w.heap.size, m, none⟩) (Nat.le_refl _) _
        have m0 : (0 : Int) ≤ (m : Int) := by omega
        have m1 : (m : Int) < (n : Int) := by omega
        obtain ⟨wo, rfl⟩ : ∃ wo : World, wo = wr := ⟨_, rfl⟩
        clear hx hnx hkx hj hj0 hB hR hBR hRl HX
        go_wp2_with fail
        refine (HV.out).mono ?_
        rintro e w2 ⟨rfl, rfl⟩
        go_wp2_with fail
        clear k0 k1 f1
        go_loopw [6] (fun kk wr => ∃ q : Nat, q ≤ n - (m + 1) ∧ kk = .int .i64 ((m : Int) + 1 + (q : Int)) ∧ Hid (Blk wr w.heap.size 3 (arrI (List.replicate m 0 ++ (mx (num x) (R.take q) (B.take q) + 1) :: B))) ∧ Hid (Below w.heap.size w wr)) (fun kk _ => n - (intOf kk).toNat)
        case atStart => exact ⟨0, by omega, by go_num, by simpa [mx] using HX2, HB2⟩
        case round =>
          obtain ⟨q, hq, rfl, HY, HBY⟩ := hrel
          by_cases hlt : q < n - (m + 1)
          · obtain ⟨y, hy⟩ : ∃ y, xs[m + 1 + q]? = some y := ⟨_, List.getElem?_eq_getElem (by rw [HN.out]; omega)⟩
            have hyR : R[q]? = some (num y) := by
              rw [← HRN.out, List.getElem?_drop]; exact HAT.out _ y hy
            obtain ⟨b, hb⟩ : ∃ b, B[q]? = some b := ⟨_, List.getElem?_eq_getElem (by rw [HBLL.out, HRL.out]; exact hlt)⟩
            have hmx := mx_take (a := num x) HBLL.out hyR hb
            obtain ⟨v, hv⟩ : ∃ v, mx (num x) (R.take q) (B.take q) = v := ⟨_, rfl⟩
            rw [hv] at HY hmx
            have k0 := HCL.out wr HBY.out m x HXI.out
            have k1 := arrI_cell HY.out rep_get
            have k2 := arrI_cell HY.out (rep_more hb)
            have k3 := HCL.out wr HBY.out (m + 1 + q) y hy
            have i5 : 0 ≤ (m : Int) + 1 + (q : Int) := by omega
            have i6 : (m : Int) + 1 + (q : Int) < (n : Int) := by omega
            have i7 : ((m : Int) + 1 + (q : Int)).toNat = m + 1 + q := by omega
            have hpos := best_pos (ns := R) (b := b) hyR (by rw [HBR.out]; exact hb)
            by_cases hb0 : 0 < b
            · have e1 : decide (0 < (b : Int)) = true := decide_eq_true (by omega)
              have e1n : decide (0 < b) = true := decide_eq_true hb0
              have hky := num_pos.1 (hpos.1 hb0)
              have hls := less_num (.inr HKX.out) hky
              by_cases hxy : num x < num y
              · rw [decide_eq_true hxy] at hls
                rw [if_pos hxy] at hmx
                have hv2 : v ≤ 1000 := by
                  have := mx_bd (a := num x) (n := 1000) (R.take q) (B.take q) (fun b hb => by have := best_bd R b (by rw [HBR.out]; exact List.mem_of_mem_take hb); rw [HRL.out] at this; omega)
                  rw [hv] at this; exact this
                have hb2 : b ≤ 1000 := by have := best_bd R b (by rw [HBR.out]; exact List.mem_of_getElem? hb); rw [HRL.out] at this; omega
                have j0 : (v : Int) ≤ 1000 := by omega
                have j1 : (b : Int) ≤ 1000 := by omega
                have hst : (List.replicate m 0 ++ (v + 1) :: B).set m (max v b + 1) = List.replicate m 0 ++ (max v b + 1) :: B := rep_set _
                have hcast : ((max v b + 1 : Nat) : Int) = max (v : Int) (b : Int) + 1 := by omega
                have HNY : Hid (∀ k : Nat, Blk ((wr.drewN k).setCell ⟨w.heap.size, m, none⟩ (.int .i64 (max (v : Int) (b : Int) + 1))) w.heap.size 3 (arrI (List.replicate m 0 ++ (mx (num x) (R.take (q + 1)) (B.take (q + 1)) + 1) :: B))) := fun k => by
                  have := arrI_set (HY.out.drewN k) m (max v b + 1)
                  rw [hst, hcast] at this
                  rw [hmx]
                  exact this
                have HNB : Hid (∀ k : Nat, Below w.heap.size w ((wr.drewN k).setCell ⟨w.heap.size, m, none⟩ (.int .i64 (max (v : Int) (b : Int) + 1)))) := fun k => (below_drewN HBY.out k).setCell (p := ⟨w.heap.size, m, none⟩) (Nat.le_refl _) _
                clear hst hcast
                have f1 := HY.out.frozen m
                clear hy hyR hb hmx hv hpos hky hxy hb0
                go_wp2_with fail
                go_quiet (fail)
                go_wp2_with fail
                refine region_tail 13 (by kernel_rfl) (by kernel_rfl) _ rfl ?_
                simp only [List.take_succ_cons, List.take_zero, List.drop_succ_cons, List.drop_zero]
                repeat (go_big_quiet_step (fail))
                refine wpQuiet_nil ?_
                go_wp2_with fail
                go_roundw
                case rel => exact ⟨q + 1, by omega, by go_num, HNY.out _, HNB.out _⟩
                case measure => simp [intOf]; omega
              · rw [decide_eq_false hxy] at hls
                rw [if_neg hxy, Nat.max_zero, ← hv] at hmx
                have HNY : Hid (Blk wr w.heap.size 3 (arrI (List.replicate m 0 ++ (mx (num x) (R.take (q + 1)) (B.take (q + 1)) + 1) :: B))) := by rw [hmx, hv]; exact HY
                clear hy hyR hb hmx hv hpos hky hxy hb0
                go_wp2_with fail
                go_quiet (fail)
                go_wp2_with fail
                go_roundw
                case rel => exact ⟨q + 1, by omega, by go_num, HNY.out.drewN _, below_drewN HBY.out _⟩
                case measure => simp [intOf]; omega
            · have e1 : decide (0 < (b : Int)) = false := decide_eq_false (by omega)
              have e1n : decide (0 < b) = false := decide_eq_false hb0
              have hb00 : b = 0 := by omega
              rw [hb00, ite_self, Nat.max_zero, ← hv] at hmx
              have HNY : Hid (Blk wr w.heap.size 3 (arrI (List.replicate m 0 ++ (mx (num x) (R.take (q + 1)) (B.take (q + 1)) + 1) :: B))) := by rw [hmx, hv]; exact HY
              clear hy hyR hb hmx hv hpos hb0 hb00
              go_wp2_with fail
              go_quiet (fail)
              go_wp2_with fail
              go_roundw
              case rel => exact ⟨q + 1, by omega, by go_num, HNY.out.drewN _, below_drewN HBY.out _⟩
              case measure => simp [intOf]; omega
          · obtain rfl : q = n - (m + 1) := by omega
            have HNE : Hid (Blk wr w.heap.size 3 (arrI (List.replicate m 0 ++ best (ns.drop m)))) := by
              have := HY.out
              rw [List.take_of_length_le (by rw [HRL.out]; omega), List.take_of_length_le (by rw [HBLL.out, HRL.out]; omega)] at this
              rw [best_at HNX.out, if_pos HPX.out, HRN.out, HBR.out]
              exact this
            have e1 : decide ((m : Int) + 1 + ((n - (m + 1) : Nat) : Int) < (n : Int)) = false := decide_eq_false (by omega)
            go_wp2_with fail
            go_roundw
            case rel => exact ⟨m, by omega, rfl, HNE, HBY⟩
            case measure => simp [intOf]
end Go.Proofs.Ytikabbpipdekfaa
