/-
  The program's Keep. No condition.
-/
import Derived.Test.YtikabbpipdekfaaPsR
namespace Go.Proofs.Ytikabbpipdekfaa
open Go.RowKit
set_option linter.unusedVariables false

set_option maxRecDepth 100000 in
set_option maxHeartbeats 3200000 in
theorem keep_any (A : Option Addr) (c : Nat) (xs : List ByteArray) (w : World) (h : Txt w A xs) : Calls Try.prog 21 #[.slice A xs.length c] w (KeepPost w (nums xs)) := by
  obtain ⟨pb, po, hA, hcells⟩ := h.cells
  have HA := Lib.hid hA
  have HCL := Lib.hid hcells
  have HSH := Lib.hid h.short
  have hfew := h.few
  obtain ⟨n, hn⟩ : ∃ n, xs.length = n := ⟨_, rfl⟩
  obtain ⟨ns, hns⟩ : ∃ ns, nums xs = ns := ⟨_, rfl⟩
  have hnl : ns.length = n := by rw [← hns, nums_len, hn]
  have HAT : Hid (∀ (i : Nat) x, xs[i]? = some x → ns[i]? = some (num x)) := fun i x hx => by rw [← hns]; exact nums_at hx
  rw [hn] at HA hfew ⊢
  rw [hns]
  have HN := Lib.hid hn
  have HNL := Lib.hid hnl
  have HBL : Hid ((best ns).length = n) := by unfold Hid; rw [best_len]; exact hnl
  have hmk := make_ints n (by omega) (w.alloc (.cells #[.slice A n c] 28))
  rw [arrI_zero] at hmk
  obtain ⟨i9, a1, a2, a3, a4⟩ := info3 str_info
  have HI := Lib.hid a1
  have HIz := Lib.hid a2
  have HIs := Lib.hid a3
  have HIb := Lib.hid a4
  obtain ⟨W1, hW1⟩ : ∃ W1, ((w.alloc (.cells #[.slice A n c] 28)).alloc (.cells (arrI (List.replicate n 0)) 3)).alloc (.cells #[.slice none 0 0] 28) = W1 := ⟨_, rfl⟩
  have HK0 : Hid (KP w W1 A c n ns n [] (.slice none 0 0)) := by
    have hd0 : ns.drop n = [] := List.drop_eq_nil_of_le (by omega)
    subst hW1
    refine ⟨((Blk.new w 28 _).alloc _).alloc _, ?_, ?_, owns_nil _ _ _, by rw [hd0]; exact Heads.nil, (fun h hh => by cases hh), ((((Below.refl _ w).alloc (Nat.le_refl _) _).alloc (by simp) _).alloc (by simp; omega) _)⟩
    · rw [hd0, best, List.append_nil]
      have := (Blk.new (w.alloc (.cells #[.slice A n c] 28)) 3 (arrI (List.replicate n 0))).alloc (.cells #[.slice none 0 0] 28)
      rw [show (w.alloc (.cells #[.slice A n c] 28)).heap.size = w.heap.size + 1 by simp] at this
      exact this
    · have := Blk.new ((w.alloc (.cells #[.slice A n c] 28)).alloc (.cells (arrI (List.replicate n 0)) 3)) 28 #[.slice none 0 0]
      rw [show ((w.alloc (.cells #[.slice A n c] 28)).alloc (.cells (arrI (List.replicate n 0)) 3)).heap.size = w.heap.size + 1 + 1 by simp] at this
      exact this
  clear h hA hcells hn hns hnl a1 a2 a3 a4
  go_enter Try.func21, Try.ntmps21
  go_wp2_with fail
  clear hmk
  have HW1 := Lib.hid hW1
  clear hW1
  go_outline
  go_loopw [19] (fun i wr => ∃ (k m : Nat) (hs : List ByteArray) (hv : Value), k + m = n ∧ i = .int .i64 (k : Int) ∧ Hid (KP w wr A c n ns m hs hv)) (fun i _ => n - (intOf i).toNat)
  case atStart => exact ⟨0, n, [], _, by omega, rfl, HK0⟩
  case round =>
    obtain ⟨k, m, hs, hv, hkm, rfl, HK⟩ := hrel
    by_cases hlt : k < n
    · obtain ⟨t, rfl⟩ : ∃ t, m = t + 1 := ⟨m - 1, by omega⟩
      have hti : (n : Int) - 1 - (k : Int) = (t : Int) := by omega
      obtain ⟨x, hx⟩ : ∃ x, xs[t]? = some x := ⟨_, List.getElem?_eq_getElem (by rw [HN.out]; omega)⟩
      obtain rfl := HA.out (by omega)
      have hnx := HAT.out t x hx
      obtain ⟨w2, hw2⟩ : ∃ w2, wr.alloc (.cells #[.int .i64 (t : Int)] 3) = w2 := ⟨_, rfl⟩
      have HN2 : Hid (Below wr.heap.size wr w2) := by subst hw2; exact (Below.refl _ wr).alloc (Nat.le_refl _) _
      have HI2 : Hid (Blk w2 wr.heap.size 3 #[.int .i64 (t : Int)]) := by subst hw2; exact Blk.new wr 3 _
      have HK2 := Lib.hid (HK.out.up HN2.out)
      have c0 := HK2.out.bx.cell 0
      have c1 := HI2.out.cell 0
      have c2 := HCL.out w2 HK2.out.bel t x hx
      simp at c0 c1
      have HV := Lib.hid (valid_any x w2 (HSH.out x (List.mem_of_getElem? hx)))
      unfold VldPost at HV
      have t0 : (0 : Int) ≤ (t : Int) := by omega
      have t1 : (t : Int) < (n : Int) := by omega
      clear hkm
      cases hkx : keyB x.data.toList with
      | false =>
        have HKN := Lib.hid (HK2.out.skip (by rw [hnx, num_no hkx]))
        rw [hkx] at HV
        clear hx hnx hkx
        --ROUND
        go_wp2_with fail
        refine (HV.out).mono ?_
        rintro e w3 ⟨rfl, rfl⟩
        go_wp2_with fail
        go_roundw
        case rel => exact ⟨k + 1, t, hs, hv, by omega, by go_num, HKN⟩
        case measure => simp [intOf]; omega
      | true =>
        rw [hkx] at HV
        have HKX := Lib.hid hkx
        have HNX := Lib.hid hnx
        have HXX := Lib.hid hx
        obtain ⟨Ah, ch, rfl, -, -⟩ := reads_of_owns HK2.out.row
        obtain ⟨nh, hnh⟩ : ∃ nh, hs.length = nh := ⟨_, rfl⟩
        have hnh6 : nh ≤ 1000 := by
          have h1 := HK2.out.hd.len
          rw [List.length_map] at h1
          have := maxL_bd (n := 1000) (best (ns.drop (t + 1))) (fun b hb => by have := best_bd _ b hb; rw [List.length_drop, HNL.out] at this; omega)
          omega
        have HSR : Hid (∀ w' : World, Below w2.heap.size w2 w' → Calls Try.prog 27 #[.int .i64 (nh : Int), .func (.func 28) #[] #[.pointer (some ⟨w.heap.size + 1 + 1, 0, none⟩), .pointer (some ⟨w.heap.size, 0, none⟩), .pointer (some ⟨wr.heap.size, 0, none⟩)]] w' (SeaPost w' nh (notAbove hs x))) := fun w' hw' => by
          have hk := HK2.out.up hw'
          have hi := HI2.out.below hw' HI2.out.lt
          refine search_any nh _ _ _ (notAbove hs x) w' (by omega) (fun j q hj => ?_) (fun i j hij hj hi => notAbove_mono HK2.out.hd i j hij (by omega) hi)
          obtain ⟨y, hy⟩ : ∃ y, hs[j]? = some y := ⟨_, List.getElem?_eq_getElem (by omega)⟩
          obtain ⟨g, cap, hv', -, -⟩ := hk.row.form (by omega)
          injection hv' with hv1 hv2 hv3
          subst hv1 hv3
          rw [notAbove_at hy]
          refine test_any _ _ _ g pb po t n c hs.length ch j x y (w'.drewN q) ?_ ?_ ?_ ?_ ?_ (by omega) (by omega) (by omega) (by omega) hkx (hk.ky y (List.mem_of_getElem? hy))
          · have := (hk.bh.drewN q).cell 0; simpa using this
          · have := (hk.bx.drewN q).cell 0; simpa using this
          · have := (hi.drewN q).cell 0; simpa using this
          · have := hk.row.cells (g := g) rfl j (.string y) (by rw [List.getElem?_map, hy]; rfl)
            rw [Addr.add_lit, Nat.zero_add] at this
            exact this
          · exact HCL.out (w'.drewN q) (below_drewN hk.bel q) t x hx
        have c3 := HK2.out.bh.cell 0
        simp at c3
        rw [hnh] at c3
        clear hx hnx hkx
        go_wp2_with fail
        refine (HV.out).mono ?_
        rintro e w3 ⟨rfl, rfl⟩
        go_wp2_with fail
        refine (HSR.out _ (Below.refl _ _)).mono ?_
        rintro e w3' ⟨r, hr, rfl, hlo, hhi, q, rfl⟩
        obtain ⟨w3, hw3⟩ : ∃ w3, w2.drewN q = w3 := ⟨_, rfl⟩
        have HN3 : Hid (Below w2.heap.size w2 w3) := by subst hw3; exact below_drewN (Below.refl _ _) q
        have HK3 := Lib.hid (HK2.out.up HN3.out)
        have HI3 := Lib.hid (HI2.out.below HN3.out HI2.out.lt)
        have HLO := Lib.hid (notAbove_lo hlo)
        have HHI : Hid (∀ y : ByteArray, hs[r]? = some y → num y ≤ num x) := notAbove_hi (by rw [hnh]; exact hhi)
        rw [hnh] at HK3
        have HM3 := Lib.hid (HK3.out.mid HI3.out)
        have HW2 := Lib.hid hw2
        rw [hw3]
        have HCX : Hid (∀ W', Below w.heap.size w W' → W'.cell? ⟨pb, po + t, none⟩ = some (.string x)) := fun W' hW' => HCL.out W' hW' t x HXX.out
        clear c0 c1 c2 c3 hlo hhi hw2 hw3
        have c3 := HM3.out.bh.cell 0
        have c0 := HM3.out.bx.cell 0
        have c1 := HM3.out.bi.cell 0
        have c2 := HCX.out w3 HM3.out.bel
        have l3 : w.heap.size + 1 + 1 < w3.heap.size := HM3.out.bh.lt
        simp at c3 c0 c1
        by_cases hrn : r = nh
        · subst hrn
          have HNH := Lib.hid hnh
          have HOA : Hid ((w3.drew.alloc (.cells #[.string x] 9)).ownsRow (w.heap.size + 1 + 1 + 1) 9 1 (.slice Ah r ch) r (hs.map Value.string)) := by
            have := HM3.out.row
            rw [hnh] at this
            exact (owns_drewN this 1).alloc _
          have HL1 : Hid (r + 1 ≤ maxLen) := by unfold Hid maxLen; omega
          have HL2 : Hid ((r + 1) * 16 ≤ 140737488355328) := by unfold Hid; omega
          have HL3 : Hid (w.heap.size + 1 + 1 + 1 ≤ (w3.drew.alloc (.cells #[.string x] 9)).heap.size) := by have := HM3.out.bh.lt; unfold Hid; simp; omega
          have HSN : Hid (Src Try.prog 1 28 (.slice (some ⟨w3.heap.size, 0, none⟩) 1 1) 1 [.string x] (w3.drew.alloc (.cells #[.string x] 9))) := src_new w3.drew Try.underlying28 [.string x] 1 1 1 9 rfl (strs_one [x])
          clear hnh
          go_upto_region 11 with fail
          go_cut [] (fun wx => ∃ g5 c5 : Nat, Hid (KM w wx (some ⟨pb, po, none⟩) c n ns (t + 1) (hs ++ [x]) (.slice (some ⟨g5, 0, none⟩) (r + 1) c5) wr.heap.size t))
          case first =>
            go_region_law (first | (refine step_append_row _ rfl (.tmp 40) (.tmp 45) 28 28 rfl (w.heap.size + 1 + 1 + 1) 9 i9 (.string ByteArray.empty) 1 16 Try.underlying28 HI.out HIz.out HIs.out HIb.out rfl (by decide) (.slice Ah r ch) r (hs.map Value.string) (by simp [Act.eval]) HOA.out (.slice (some ⟨w3.heap.size, 0, none⟩) 1 1) 1 [.string x] (by simp [Act.eval]) HSN.out HL1.out HL2.out HL3.out ?_; intro v5 w5 hown5 hg5; obtain ⟨g5, c5, rfl, -, -⟩ := hown5.form (by omega); have hpu := HM3.out.push HNH.out _ hown5 hg5; have m0 := hpu.2.cell 0; simp at m0; have f0 := hpu.2.frozen 0; have HPU := Lib.hid hpu.1; clear hown5 hg5 hpu))
            all_goals
              go_wp2_with fail
              go_meet
              exact ⟨_, _, HPU⟩
          case rest =>
            obtain ⟨g5, c5, HM5⟩ := hcut
            obtain ⟨w5, rfl⟩ : ∃ wo : World, wo = wc := ⟨_, rfl⟩
            have hl5 : (hs ++ [x]).length = r + 1 := by rw [List.length_append, HNH.out]; rfl
            have HHH : Hid ((hs ++ [x]).set r x = if r = hs.length then hs ++ [x] else hs.set r x) := by
              unfold Hid
              rw [if_pos HNH.out.symm, ← HNH.out]
              simp
            clear c3 c0 c1 c2 l3
            obtain ⟨u0, s0, sf⟩ := HM5.out.cells (r := r) hl5 (by omega)
            have HLE5 := Lib.hid hl5
            have c3 := HM5.out.bh.cell 0
            have c0 := HM5.out.bx.cell 0
            have c1 := HM5.out.bi.cell 0
            have c2 := HCX.out w5 HM5.out.bel
            simp at c3 c0 c1
            have r0 : (0 : Int) ≤ (r : Int) := by omega
            have r1 : (r : Int) < ((r + 1 : Nat) : Int) := by omega
            have HST := Lib.hid (HM5.out.store (r := r) HLE5.out x)
            obtain ⟨n1, n2, n3, n4⟩ := HM5.out.apart hl5
            have HBL5 : Hid (Blk w5 (w.heap.size + 1) 3 (arrI (List.replicate t 0 ++ 0 :: best (ns.drop (t + 1))))) := by
              have := HM5.out.bl
              rw [List.replicate_succ', List.append_assoc] at this
              exact this
            have c4 := arrI_cell HBL5.out rep_get
            have f4 := HBL5.out.frozen t
            have HPT : Hid (KP w ((w5.drew.setCell ⟨g5, r, none⟩ (.string x)).setCell ⟨w.heap.size + 1, t, none⟩ (.int .i64 ((r : Int) + 1))) (some ⟨pb, po, none⟩) c n ns t ((hs ++ [x]).set r x) (.slice (some ⟨g5, 0, none⟩) (r + 1) c5)) := by
              have h6 := HST.out.row
              exact HK3.out.put HNX.out HKX.out (by have := HNH.out; omega) HLO.out HHI.out HHH.out h6 HST.out.bx HST.out.bl HST.out.bh HST.out.bel
            clear hl5
            go_wp2_with fail
            refine region_tail 7 (by kernel_rfl) (by kernel_rfl) _ rfl ?_
            simp only [List.take_succ_cons, List.take_zero, List.drop_succ_cons, List.drop_zero]
            repeat (go_big_quiet_step (fail))
            refine wpQuiet_nil ?_
            go_wp2_with fail
            go_roundw
            case rel => exact ⟨k + 1, t, _, _, by omega, by go_num, HPT⟩
            case measure => simp [intOf]; omega
        · have e9 : ((r : Int) == (nh : Int)) = false := by rw [beq_eq_false_iff_ne]; omega
          have e9n : (r == nh) = false := by rw [beq_eq_false_iff_ne]; omega
          have HNH := Lib.hid hnh
          have hl5 : hs.length = nh := hnh
          have hrow := HM3.out.row
          rw [hnh] at hrow
          obtain ⟨g5, c5, e5, -, -⟩ := hrow.form (by omega)
          injection e5 with e6 e7 e8
          subst e6 e8
          obtain ⟨w5, rfl⟩ : ∃ wo : World, wo = w3 := ⟨_, rfl⟩
          have HM5 := HM3
          have HHH : Hid (hs.set r x = if r = hs.length then hs ++ [x] else hs.set r x) := by
            unfold Hid
            rw [if_neg (by omega)]
          clear c3 c0 c1 c2 l3 hnh hrow e7
          obtain ⟨u0, s0, sf⟩ := HM5.out.cells (r := r) hl5 (by omega)
          have HLE5 := Lib.hid hl5
          have c3 := HM5.out.bh.cell 0
          have c0 := HM5.out.bx.cell 0
          have c1 := HM5.out.bi.cell 0
          have c2 := HCX.out w5 HM5.out.bel
          simp at c3 c0 c1
          have r0 : (0 : Int) ≤ (r : Int) := by omega
          have r1 : (r : Int) < ((nh : Nat) : Int) := by omega
          have HST := Lib.hid (HM5.out.store (r := r) HLE5.out x)
          obtain ⟨n1, n2, n3, n4⟩ := HM5.out.apart hl5
          have HBL5 : Hid (Blk w5 (w.heap.size + 1) 3 (arrI (List.replicate t 0 ++ 0 :: best (ns.drop (t + 1))))) := by
            have := HM5.out.bl
            rw [List.replicate_succ', List.append_assoc] at this
            exact this
          have c4 := arrI_cell HBL5.out rep_get
          have f4 := HBL5.out.frozen t
          have HPT : Hid (KP w ((w5.drew.setCell ⟨g5, r, none⟩ (.string x)).setCell ⟨w.heap.size + 1, t, none⟩ (.int .i64 ((r : Int) + 1))) (some ⟨pb, po, none⟩) c n ns t ((hs).set r x) (.slice (some ⟨g5, 0, none⟩) (nh) ch)) := by
            have h6 := HST.out.row
            exact HK3.out.put HNX.out HKX.out (by have := HNH.out; omega) HLO.out HHI.out HHH.out h6 HST.out.bx HST.out.bl HST.out.bh HST.out.bel
          clear hl5
          go_wp2_with fail
          refine region_tail 7 (by kernel_rfl) (by kernel_rfl) _ rfl ?_
          simp only [List.take_succ_cons, List.take_zero, List.drop_succ_cons, List.drop_zero]
          repeat (go_big_quiet_step (fail))
          refine wpQuiet_nil ?_
          go_wp2_with fail
          go_roundw
          case rel => exact ⟨k + 1, t, _, _, by omega, by go_num, HPT⟩
          case measure => simp [intOf]; omega
    · obtain rfl : m = 0 := by omega
      obtain rfl : k = n := by omega
      obtain ⟨wv, rfl⟩ : ∃ wo : World, wo = wr := ⟨_, rfl⟩
      have hx0 : Blk wv (w.heap.size + 1) 3 (arrI (best ns)) := by simpa using HK.out.bl
      have HX0 := Lib.hid hx0
      clear hx0
      obtain ⟨Ah, ch, rfl, -, -⟩ := reads_of_owns HK.out.row
      obtain ⟨u, hu⟩ : ∃ u, hs.length = u := ⟨_, rfl⟩
      have HMO : Hid (u = maxL (best ns)) := by
        have := HK.out.hd.len
        rw [List.length_map, List.drop_zero] at this
        rw [← hu]; exact this
      have HUB : Hid (u ≤ 100000) := by
        have := maxL_bd (n := 1000) (best ns) (fun b hb => by have := best_bd ns b hb; rw [HNL.out] at this; omega)
        rw [← HMO.out] at this; unfold Hid; omega
      have hmk := make_bools k (by omega) wv
      rw [arrB_zero] at hmk
      obtain ⟨W2, hW2⟩ : ∃ W2, wv.alloc (.cells (arrB (List.replicate k false)) 4) = W2 := ⟨_, rfl⟩
      have HBN : Hid (Below wv.heap.size wv W2) := by subst hW2; exact (Below.refl _ wv).alloc (Nat.le_refl _) _
      have HO2 : Hid (Blk W2 wv.heap.size 4 (arrB (List.replicate k false))) := by subst hW2; exact Blk.new wv 4 _
      rw [hW2] at hmk
      have HX2 := Lib.hid (HX0.out.below HBN.out HX0.out.lt)
      have HB2 := Lib.hid (HK.out.bel.trans (HBN.out.mono HK.out.bel.size))
      have HGS := Lib.hid HX0.out.lt
      have HG0 : Hid (Gone ns 0 u ⟨#[]⟩ (List.replicate k false)) := by
        have := Gone.start ns
        rw [HNL.out, ← HMO.out] at this
        exact this
      have hx2 := HK.out.bx.below HBN.out HK.out.bx.lt
      have hh2 := HK.out.bh.below HBN.out HK.out.bh.lt
      have c0 := hx2.cell 0
      have c3 := hh2.cell 0
      simp at c0 c3
      rw [hu] at c3
      have hbx := HK.out.bx.cell 0
      simp at hbx
      clear hW2 hx2 hh2 hu
      go_wp2_with fail
      clear hmk c0 c3 hbx
      go_loopw [10, 11, 66] (fun la mo i w4 => ∃ (q u : Nat) (last : ByteArray) (out : List Bool), q ≤ k ∧ u ≤ 100000 ∧ mo = .int .i64 (u : Int) ∧ la = .string last ∧ i = .int .i64 (q : Int) ∧ Hid (Gone ns q u last out) ∧ Hid (Blk w4 wv.heap.size 4 (arrB out)) ∧ Hid (Blk w4 (w.heap.size + 1) 3 (arrI (best ns))) ∧ Hid (Below w.heap.size w w4)) (fun _ _ i _ => k - (intOf i).toNat)
      case atStart => exact ⟨0, u, _, _, by omega, HUB.out, rfl, rfl, rfl, HG0, HO2, HX2, HB2⟩
      case round =>
        obtain ⟨q, u, last, out, hk, hu1, rfl, rfl, rfl, HG, HO, HXB, HBB⟩ := hrel
        by_cases hkq : q < k
        · obtain ⟨x, hx⟩ : ∃ x, xs[q]? = some x := ⟨_, List.getElem?_eq_getElem (by rw [HN.out]; exact hkq)⟩
          obtain ⟨b, hb⟩ : ∃ b, (best ns)[q]? = some b := ⟨_, List.getElem?_eq_getElem (by rw [HBL.out]; exact hkq)⟩
          have hnx := HAT.out q x hx
          obtain rfl := HA.out (by omega)
          have hst := HG.out.step hnx hb
          have k1 := arrI_cell HXB.out hb
          have k2 := HCL.out wr HBB.out q x hx
          obtain ⟨bo, hbo⟩ : ∃ bo, out[q]? = some bo := ⟨_, List.getElem?_eq_getElem (by rw [HG.out.len (by rw [HNL.out]; omega), HNL.out]; exact hkq)⟩
          have k3 := arrB_cell HO.out hbo
          have f3 := HO.out.frozen q
          have i1 : (q : Int) < (k : Int) := by omega
          have hpos := best_pos (ns := ns) hnx hb
          have HOK := Lib.hid HG.out.ok
          by_cases hu0 : 0 < u
          · have e1 : decide (0 < (u : Int)) = true := decide_eq_true (by omega)
            have e1n : decide (0 < u) = true := decide_eq_true hu0
            by_cases hbu : b = u
            · have e2 : ((b : Int) == (u : Int)) = true := by rw [hbu]; simp
              have e2n : (b == u) = true := by rw [hbu]; simp
              have hkx := num_pos.1 (hpos.1 (by omega))
              by_cases hlx : num last < num x
              · have HGN := Lib.hid (hst.1 ⟨hu0, hbu, hlx⟩)
                have hu2 : ((u - 1 : Nat) : Int) = (u : Int) - 1 := by omega
                have hul : 1 ≤ (u : Int) := by omega
                have HON : Hid (Blk (wr.setCell ⟨wv.heap.size, q, none⟩ (.bool true)) wv.heap.size 4 (arrB (out.set q true))) := arrB_set HO.out q true
                have HXN : Hid (Blk (wr.setCell ⟨wv.heap.size, q, none⟩ (.bool true)) (w.heap.size + 1) 3 (arrI (best ns))) := HXB.out.far (p := ⟨wv.heap.size, q, none⟩) (fun e => by have := HGS.out; have e' : w.heap.size + 1 = wv.heap.size := e; omega) _
                have HBN2 : Hid (Below w.heap.size w (wr.setCell ⟨wv.heap.size, q, none⟩ (.bool true))) := HBB.out.setCell (p := ⟨wv.heap.size, q, none⟩) (by have := HGS.out; show w.heap.size ≤ wv.heap.size; omega) _
                obtain ⟨g1, g2⟩ := above_last hkx HOK.out hlx
                have g3 : ¬ x.toList = last.toList := by simpa using g2
                clear hx hb hnx hst hbo hpos hkx hlx
                subst hbu
                go_wp2_with fail
                go_roundw
                case rel => exact ⟨q + 1, b - 1, x, out.set q true, by omega, by omega, by rw [hu2], rfl, by go_num, HGN, HON, HXN, HBN2⟩
                case measure => simp [intOf]; omega
              · have HGN := Lib.hid (hst.2 (fun h => hlx h.2.2))
                have hna := not_above_last hkx HOK.out hlx
                clear hx hb hnx hst hbo hpos hkx hlx
                subst hbu
                rcases hna with g1 | ⟨g1, g2⟩
                · go_wp2_with fail
                  go_roundw
                  case rel => exact ⟨q + 1, b, last, out, by omega, hu1, rfl, rfl, by go_num, HGN, HO, HXB, HBB⟩
                  case measure => simp [intOf]; omega
                · have g3 : x.toList = last.toList := by simpa using g2
                  go_wp2_with fail
                  go_roundw
                  case rel => exact ⟨q + 1, b, last, out, by omega, hu1, rfl, rfl, by go_num, HGN, HO, HXB, HBB⟩
                  case measure => simp [intOf]; omega
            · have HGN := Lib.hid (hst.2 (fun h => hbu h.2.1))
              have e2 : ((b : Int) == (u : Int)) = false := by rw [beq_eq_false_iff_ne]; omega
              have e2n : (b == u) = false := by rw [beq_eq_false_iff_ne]; omega
              clear hx hb hnx hst hbo hpos hbu
              go_wp2_with fail
              go_roundw
              case rel => exact ⟨q + 1, u, last, out, by omega, hu1, rfl, rfl, by go_num, HGN, HO, HXB, HBB⟩
              case measure => simp [intOf]; omega
          · have HGN := Lib.hid (hst.2 (fun h => hu0 h.1))
            have e1 : decide (0 < (u : Int)) = false := decide_eq_false (by omega)
            have e1n : decide (0 < u) = false := decide_eq_false hu0
            clear hx hb hnx hst hbo hpos
            go_wp2_with fail
            go_roundw
            case rel => exact ⟨q + 1, u, last, out, by omega, hu1, rfl, rfl, by go_num, HGN, HO, HXB, HBB⟩
            case measure => simp [intOf]; omega
        · obtain rfl : q = k := by omega
          have HE : Hid (KeepPost w ns (.returned (.slice (some ⟨wv.heap.size, 0, none⟩) q q)) wr) := by
            have hg := HG.out
            have hnl := HNL.out
            rw [← hnl] at hg
            have := KeepPost.mk (c := q) HBB.out HO.out hg.end_
            rw [hnl] at this
            exact this
          go_wp2_with fail
          go_ret
          exact HE.out
end Go.Proofs.Ytikabbpipdekfaa
