/-
  The reference's Rekey. No condition.
-/
import Derived.Test.YtikabbpipdekfaaPsZ
namespace Go.Proofs.Ytikabbpipdekfaa
open Go.RowKit
set_option linter.unusedVariables false

/-- what the loop keeps -/
structure RV (w wr : World) (gL B2 : Nat) (A2 : Option Addr) (K : List Bool) (n : Nat) (lo : List ByteArray) : Prop where
  lb : Blk wr gL 9 (arrS lo)
  kr : Reads wr B2 1 A2 n (K.map Value.bool)
  bel : Below w.heap.size w wr
  s2 : B2 ≤ gL
  s3 : w.heap.size ≤ B2
section
variable {w wr w' : World} {gL B2 n : Nat} {A2 : Option Addr} {K : List Bool} {lo : List ByteArray}
theorem RV.up (h : RV w wr gL B2 A2 K n lo) (hb : Below wr.heap.size wr w') : RV w w' gL B2 A2 K n lo := by
  have h1 := h.lb.lt; have h3 := h.s2; have h4 := h.s3
  exact ⟨h.lb.below hb h.lb.lt, h.kr.below (hb.mono (by omega)), h.bel.trans (hb.mono (by omega)), h3, h4⟩
theorem RV.set_ (h : RV w wr gL B2 A2 K n lo) (i : Nat) (x : ByteArray) : RV w (wr.setCell ⟨gL, i, none⟩ (.string x)) gL B2 A2 K n (lo.set i x) := by
  have h3 := h.s2; have h4 := h.s3
  exact ⟨arrS_set h.lb i x, h.kr.setCell (p := ⟨gL, i, none⟩) (by show B2 ≤ gL; omega) _, h.bel.setCell (p := ⟨gL, i, none⟩) (by show w.heap.size ≤ gL; omega) _, h3, h4⟩
theorem RV.drewN (h : RV w wr gL B2 A2 K n lo) (k : Nat) : RV w (wr.drewN k) gL B2 A2 K n lo := h.up (below_drewN (Below.refl _ _) k)
end

set_option maxRecDepth 100000 in
set_option maxHeartbeats 3200000 in
theorem rrekey_any (A : Option Addr) (c : Nat) (xs : List ByteArray) (w : World) (h : Txt w A xs) (h400 : xs.length ≤ 400) : Calls Try.prog 24 #[.slice A xs.length c] w (RekPost w xs) := by
  have HC := Lib.hid (rkeep_any A c xs w h)
  unfold KeepPost at HC
  obtain ⟨K, hK⟩ : ∃ K, keepN (nums xs) = K := ⟨_, rfl⟩
  rw [hK, nums_len] at HC
  have HKL : Hid (K.length = xs.length) := by rw [← hK, keep_len]; exact nums_len xs
  have HKE := Lib.hid hK
  obtain ⟨pb, po, hA, hcells⟩ := h.cells
  have HSH := Lib.hid h.short
  have HEN := Lib.hid (nextL_end (xs := xs) (K := K))
  obtain ⟨n, hn⟩ : ∃ n, xs.length = n := ⟨_, rfl⟩
  have HSP := Lib.hid (fun w' : World => rspread_any (n : Int) w' (by omega))
  have HN := Lib.hid hn
  rw [hn] at hA HC HKL h400 HEN ⊢
  have HSP2 : Hid (∀ w' : World, Calls Try.prog 18 #[.int .i64 (n : Int)] w' (StrsPost w' (spread n))) := fun w' => by
    have := HSP.out w'
    rw [if_neg (by omega), Int.toNat_natCast] at this
    exact this
  have HAA := Lib.hid hA
  have HCE := Lib.hid hcells
  have d1 : decide (400 < (n : Int)) = false := decide_eq_false (by omega)
  have HLEN : Hid ((nextL (xs.drop n) (K.drop n)) = ⟨#[]⟩) := HEN.out
  clear h hK hA hcells hn HSP
  go_enter Try.func24, Try.ntmps24
  go_wp2_with fail
  refine (HC.out).mono ?_
  rintro e w1 ⟨hb1, A2, c2, rfl, hr1⟩
  have HB1 := Lib.hid hb1
  have HRK := Lib.hid hr1
  have hmk := make_strs n (by omega) w1
  obtain ⟨W2, hW2⟩ : ∃ W2, w1.alloc (.cells (arrS (List.replicate n ⟨#[]⟩)) 9) = W2 := ⟨_, rfl⟩
  have HN2 : Hid (Below w1.heap.size w1 W2) := by subst hW2; exact (Below.refl _ w1).alloc (Nat.le_refl _) _
  have HX2 : Hid (Blk W2 w1.heap.size 9 (arrS (List.replicate n ⟨#[]⟩))) := by subst hW2; exact Blk.new w1 9 _
  have HB2 := Lib.hid (HB1.out.trans (HN2.out.mono HB1.out.size))
  rw [hW2] at hmk
  have HRW : Hid (RV w W2 w1.heap.size w1.heap.size A2 K n (List.replicate n ⟨#[]⟩)) :=
    ⟨HX2.out, HRK.out.below HN2.out, HB2.out, Nat.le_refl _, HB1.out.size⟩
  have HNZ : Hid (∀ j : Nat, (nextL (xs.drop j) (K.drop j)).size ≤ 140737488351232) := fun j => nextL_size _ _ (fun y hy => HSH.out y (List.mem_of_mem_drop hy))
  clear hb1 hr1 hW2
  go_wp2_with fail
  clear hmk
  go_loopw [6, 7] (fun la i w4 => ∃ (q : Nat) (last : ByteArray) (outs lo : List ByteArray), q ≤ n ∧ last.size ≤ 140737488351232 ∧ i = .int .i64 (q : Int) ∧ la = .string last ∧ Hid (RSt xs K q last outs) ∧ Hid (lo.length = n) ∧ Hid (lo.take q = outs) ∧ Hid (RV w w4 w1.heap.size w1.heap.size A2 K n lo)) (fun _ i _ => n - (intOf i).toNat)
  case atStart => exact ⟨0, ⟨#[]⟩, [], _, by omega, Nat.zero_le _, rfl, rfl, RSt.start xs K, by simp [Hid], rfl, HRW⟩
  case round =>
    obtain ⟨q, last, outs, lo, hq, hls, rfl, rfl, HST, HLL, HLT, HR⟩ := hrel
    by_cases hqk : q < n
    · obtain ⟨x, hx⟩ : ∃ x, xs[q]? = some x := ⟨_, List.getElem?_eq_getElem (by rw [HN.out]; exact hqk)⟩
      obtain ⟨kb, hkb⟩ : ∃ kb, K[q]? = some kb := ⟨_, List.getElem?_eq_getElem (by rw [HKL.out]; exact hqk)⟩
      have HXX := Lib.hid hx
      have HKK := Lib.hid hkb
      obtain rfl := HAA.out (by omega)
      have k0 := HCE.out wr HR.out.bel q x hx
      obtain ⟨b1, o1, u1, rfl, hbl, hu1, k1⟩ := HR.out.kr.at1 hqk
      obtain rfl : u1 = Value.bool kb := by rw [List.getElem?_map, hkb] at hu1; simpa using hu1.symm
      obtain ⟨v0, hv0⟩ : ∃ v0, lo[q]? = some v0 := ⟨_, List.getElem?_eq_getElem (by rw [HLL.out]; exact hqk)⟩
      have k3 := arrS_cell HR.out.lb hv0
      have f3 := HR.out.lb.frozen q
      have hxs := HSH.out x (List.mem_of_getElem? hx)
      have i1 : (q : Int) < (n : Int) := by omega
      have n1 : b1 ≠ w1.heap.size := by omega
      have n3 : w1.heap.size ≠ b1 := fun e => n1 e.symm
      cases kb with
      | true =>
        have HLL5 : Hid ((lo.set q x).length = n) := by unfold Hid; rw [List.length_set]; exact HLL.out
        have HLT5 : Hid ((lo.set q x).take (q + 1) = outs ++ [x]) := take_set HLT.out (by rw [HLL.out]; exact hqk)
        have HR5 : Hid (∀ k : Nat, RV w ((wr.drewN k).setCell ⟨w1.heap.size, q, none⟩ (.string x)) w1.heap.size w1.heap.size _ K n (lo.set q x)) := fun k => (HR.out.drewN k).set_ q x
        have HSN := Lib.hid (HST.out.stay hx hkb)
        clear hx hkb hu1 hv0 hbl
        go_wp2_with fail
        refine region_tail 11 (by kernel_rfl) (by kernel_rfl) _ rfl ?_
        simp only [List.take_succ_cons, List.take_zero, List.drop_succ_cons, List.drop_zero]
        repeat (go_big_quiet_step (fail))
        refine wpQuiet_nil ?_
        go_wp2_with fail
        go_roundw
        case rel => exact ⟨q + 1, x, _, _, by omega, hxs, by go_num, rfl, HSN, HLL5, HLT5, HR5.out _⟩
        case measure => simp [intOf]; omega
      | false =>
        have HV0 := Lib.hid hv0
        have HRD := Lib.hid HR.out
        obtain ⟨wo, rfl⟩ : ∃ wo : World, wo = wr := ⟨_, rfl⟩
        clear hx hkb hu1 hv0 hbl k0 k3 f3 n1 n3
        go_wp2_with fail
        clear k1
        go_loop [8, 9] (fun hi k => ∃ (t : Nat) (nv : ByteArray), q < t ∧ t ≤ n ∧ hi = .string nv ∧ k = .int .i64 ((t : Int) - 1) ∧ Hid (nextL (xs.drop t) (K.drop t) = nv)) (fun _ k => (intOf k + 1).toNat)
        case atStart => exact ⟨n, ⟨#[]⟩, hqk, Nat.le_refl _, rfl, rfl, HLEN⟩
        case round =>
          obtain ⟨t, nv, hqt, htn, rfl, rfl, HNV⟩ := hrel
          by_cases htq : q + 1 < t
          · obtain ⟨s, rfl⟩ : ∃ s, t = s + 1 := ⟨t - 1, by omega⟩
            rw [show (((s + 1 : Nat) : Int) - 1) = (s : Int) by omega]
            obtain ⟨y, hy⟩ : ∃ y, xs[s]? = some y := ⟨_, List.getElem?_eq_getElem (by rw [HN.out]; omega)⟩
            obtain ⟨yb, hyb⟩ : ∃ yb, K[s]? = some yb := ⟨_, List.getElem?_eq_getElem (by rw [HKL.out]; omega)⟩
            have hna := nextL_at hy hyb
            have k4 := HCE.out wo HRD.out.bel s y hy
            obtain ⟨b2, o2, u2, hA2e, hbl2, hu2, k5⟩ := HRD.out.kr.at1 (show s < n by omega)
            obtain ⟨rfl, rfl⟩ : b1 = b2 ∧ o1 = o2 := by
              have := Option.some.inj hA2e
              rw [Addr.mk.injEq] at this
              exact ⟨this.1, this.2.1⟩
            obtain rfl : u2 = Value.bool yb := by rw [List.getElem?_map, hyb] at hu2; simpa using hu2.symm
            have i4 : (s : Int) < (n : Int) := by omega
            have i5 : (q : Int) < (s : Int) := by omega
            cases yb with
            | true =>
              have HNN : Hid (nextL (xs.drop s) (K.drop s) = y) := hna
              clear hy hyb hna hA2e hbl2 hu2
              go_wp2_with fail
              go_round
              case rel => exact ⟨s, y, by omega, by omega, rfl, rfl, HNN⟩
              case measure => simp [intOf]
            | false =>
              have HNN : Hid (nextL (xs.drop s) (K.drop s) = nv) := by unfold Hid; rw [hna, ← HNV.out]; rfl
              clear hy hyb hna hA2e hbl2 hu2
              go_wp2_with fail
              go_round
              case rel => exact ⟨s, nv, by omega, by omega, rfl, rfl, HNN⟩
              case measure => simp [intOf]
          · obtain rfl : t = q + 1 := by omega
            rw [show (((q + 1 : Nat) : Int) - 1) = (q : Int) by omega]
            have hnzs := HNZ.out (q + 1)
            rw [HNV.out] at hnzs
            have HBT := Lib.hid (fun w' : World => rbetween_any last nv w' hls hnzs)
            go_wp2_with fail
            refine (HBT.out _).mono ?_
            rintro e w5 ⟨hb5, key, en, rfl, hbi⟩
            have HBI := Lib.hid hbi
            have HR6 := Lib.hid (HRD.out.up hb5)
            by_cases hen : en = 0
            · subst hen
              have HSN := Lib.hid (HST.out.new HXX.out HKK.out (by rw [HNV.out]; exact HBI.out))
              have k5 := arrS_cell HR6.out.lb HV0.out
              have f5 := HR6.out.lb.frozen q
              have HR7 := Lib.hid (HR6.out.set_ q key)
              have HLL7 : Hid ((lo.set q key).length = n) := by unfold Hid; rw [List.length_set]; exact HLL.out
              have HLT7 : Hid ((lo.set q key).take (q + 1) = outs ++ [key]) := take_set HLT.out (by rw [HLL.out]; exact hqk)
              have hks : key.size ≤ 140737488351232 := by
                have := key_small HBI.out
                omega
              clear hb5 hbi
              go_wp2_with fail
              go_roundw
              case rel => exact ⟨q + 1, key, _, _, by omega, hks, by go_num, rfl, HSN, HLL7, HLT7, HR7⟩
              case measure => simp [intOf]; omega
            · have HF := Lib.hid (HST.out.bad HXX.out HKK.out hen (by rw [HNV.out]; exact HBI.out))
              have e1 : (en != 0) = true := by simpa using hen
              have e2 : (en == 0) = false := by simpa using hen
              have HB6 := Lib.hid HR6.out.bel
              clear hb5 hbi hen
              go_wp2_with fail
              refine (HSP2.out _).mono ?_
              intro e w6 hq
              have hrp : RekPost w xs e w6 := RekPost.bad HB6.out (by rw [HKE.out]; exact HF.out) (by rw [HN.out]; exact hq)
              obtain ⟨h6, A6, c6, he, h7⟩ := hq
              subst he
              have HRP := Lib.hid hrp
              clear hrp h6 h7
              go_wp2_with fail
              go_ret
              exact HRP.out
    · obtain rfl : q = n := by omega
      have HE : Hid (RekPost w xs (.returned (.slice (some ⟨w1.heap.size, 0, none⟩) q q)) wr) := by
        have hlo : lo = outs := by rw [← HLT.out, List.take_of_length_le (by rw [HLL.out]; omega)]
        refine RekPost.mk HR.out.bel HR.out.lb HLL.out (.inl ?_)
        rw [hlo, HKE.out]
        have hst := HST.out
        have hnn := HN.out
        subst hnn
        exact hst.end_ HKL.out
      go_wp2_with fail
      go_ret
      exact HE.out
end Go.Proofs.Ytikabbpipdekfaa
