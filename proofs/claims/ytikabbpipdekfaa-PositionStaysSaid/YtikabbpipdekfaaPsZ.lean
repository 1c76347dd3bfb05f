/-
  The program's Rekey. No condition.
-/
import Derived.Test.YtikabbpipdekfaaPsY
namespace Go.Proofs.Ytikabbpipdekfaa
open Go.RowKit
set_option linter.unusedVariables false

theorem nextL_size : ∀ (xs : List ByteArray) (bs : List Bool), (∀ x ∈ xs, x.size ≤ 140737488351232) → (nextL xs bs).size ≤ 140737488351232
  | x :: xs, b :: bs, h => by
    rw [nextL]
    split
    · exact h x (by simp)
    · exact nextL_size xs bs (fun y hy => h y (by simp [hy]))
  | [], bs, _ => by cases bs <;> exact Nat.zero_le _
  | _ :: _, [], _ => Nat.zero_le _
theorem nextL_at {xs : List ByteArray} {K : List Bool} {i : Nat} {x : ByteArray} {b : Bool} (hx : xs[i]? = some x) (hk : K[i]? = some b) : nextL (xs.drop i) (K.drop i) = if b then x else nextL (xs.drop (i + 1)) (K.drop (i + 1)) := by
  rw [drop_at2 hx, drop_at2 hk, nextL]
theorem nextL_end {xs : List ByteArray} {K : List Bool} : nextL (xs.drop xs.length) (K.drop xs.length) = ⟨#[]⟩ := by
  rw [List.drop_eq_nil_of_le (Nat.le_refl _)]
  cases K.drop xs.length <;> rfl
theorem key_small {lo hi : List UInt8} {s : ByteArray} (h : BIs lo hi s.data.toList 0) : s.size ≤ 60 := by
  unfold BIs at h
  split at h
  · cases h.2
  · split at h
    · cases h.2
    · rcases h with ⟨-, n, c, n1, n6, hm, hl, hc, a, b, v⟩ | ⟨h1, -⟩
      · rw [size_data] at a; omega
      · cases h1
/-- what both loops keep -/
structure RW (w wr : World) (gN gL B2 : Nat) (A2 : Option Addr) (K : List Bool) (n : Nat) (nx lo : List ByteArray) : Prop where
  nb : Blk wr gN 9 (arrS nx)
  lb : Blk wr gL 9 (arrS lo)
  kr : Reads wr B2 1 A2 n (K.map Value.bool)
  bel : Below w.heap.size w wr
  s1 : B2 ≤ gN
  s2 : gN < gL
  s3 : w.heap.size ≤ B2
section
variable {w wr w' : World} {gN gL B2 n : Nat} {A2 : Option Addr} {K : List Bool} {nx lo : List ByteArray}
theorem RW.up (h : RW w wr gN gL B2 A2 K n nx lo) (hb : Below wr.heap.size wr w') : RW w w' gN gL B2 A2 K n nx lo := by
  have h1 := h.lb.lt; have h2 := h.s1; have h3 := h.s2; have h4 := h.s3
  exact ⟨h.nb.below hb h.nb.lt, h.lb.below hb h.lb.lt, h.kr.below (hb.mono (by omega)), h.bel.trans (hb.mono (by omega)), h2, h3, h4⟩
theorem RW.set_ (h : RW w wr gN gL B2 A2 K n nx lo) (i : Nat) (x : ByteArray) : RW w (wr.setCell ⟨gL, i, none⟩ (.string x)) gN gL B2 A2 K n nx (lo.set i x) := by
  have h2 := h.s1; have h3 := h.s2; have h4 := h.s3
  exact ⟨h.nb.far (p := ⟨gL, i, none⟩) (by show gN ≠ gL; omega) _, arrS_set h.lb i x, h.kr.setCell (p := ⟨gL, i, none⟩) (by show B2 ≤ gL; omega) _, h.bel.setCell (p := ⟨gL, i, none⟩) (by show w.heap.size ≤ gL; omega) _, h2, h3, h4⟩
end

set_option maxRecDepth 100000 in
set_option maxHeartbeats 3200000 in
theorem rekey_any (A : Option Addr) (c : Nat) (xs : List ByteArray) (w : World) (h : Txt w A xs) (h400 : xs.length ≤ 400) : Calls Try.prog 23 #[.slice A xs.length c] w (RekPost w xs) := by
  have HC := Lib.hid (keep_any A c xs w h)
  unfold KeepPost at HC
  obtain ⟨K, hK⟩ : ∃ K, keepN (nums xs) = K := ⟨_, rfl⟩
  rw [hK, nums_len] at HC
  have HKL : Hid (K.length = xs.length) := by rw [← hK, keep_len]; exact nums_len xs
  have HKE := Lib.hid hK
  obtain ⟨pb, po, hA, hcells⟩ := h.cells
  have HSH := Lib.hid h.short
  have HEN := Lib.hid (nextL_end (xs := xs) (K := K))
  obtain ⟨n, hn⟩ : ∃ n, xs.length = n := ⟨_, rfl⟩
  have HSP := Lib.hid (fun w' : World => spread_any (n : Int) w' (by omega))
  have HN := Lib.hid hn
  rw [hn] at hA HC HKL h400 HEN ⊢
  have HSP2 : Hid (∀ w' : World, Calls Try.prog 16 #[.int .i64 (n : Int)] w' (StrsPost w' (spread n))) := fun w' => by
    have := HSP.out w'
    rw [if_neg (by omega), Int.toNat_natCast] at this
    exact this
  have HAA := Lib.hid hA
  have HCE := Lib.hid hcells
  have d1 : decide (400 < (n : Int)) = false := decide_eq_false (by omega)
  clear h hK hA hcells hn HSP
  go_enter Try.func23, Try.ntmps23
  go_wp2_with fail
  refine (HC.out).mono ?_
  rintro e w1 ⟨hb1, A2, c2, rfl, hr1⟩
  have HB1 := Lib.hid hb1
  have HRK := Lib.hid hr1
  have hmk := make_strs (n + 1) (by omega) w1
  rw [show ((n + 1 : Nat) : Int) = (n : Int) + 1 by omega] at hmk
  obtain ⟨W2, hW2⟩ : ∃ W2, w1.alloc (.cells (arrS (List.replicate (n + 1) ⟨#[]⟩)) 9) = W2 := ⟨_, rfl⟩
  have HN2 : Hid (Below w1.heap.size w1 W2) := by subst hW2; exact (Below.refl _ w1).alloc (Nat.le_refl _) _
  have HX2 : Hid (Blk W2 w1.heap.size 9 (arrS (List.replicate (n + 1) ⟨#[]⟩))) := by subst hW2; exact Blk.new w1 9 _
  have HB2 := Lib.hid (HB1.out.trans (HN2.out.mono HB1.out.size))
  have HSZ2 : Hid (W2.heap.size = w1.heap.size + 1) := by subst hW2; simp [Hid]
  rw [hW2] at hmk
  have HJ0 : Hid (∀ j : Nat, n - 0 ≤ j → j ≤ n → (List.replicate (n + 1) (⟨#[]⟩ : ByteArray))[j]? = some (nextL (xs.drop j) (K.drop j))) := fun j h1 h2 => by
    obtain rfl : j = n := by omega
    rw [HEN.out, List.getElem?_replicate, if_pos (by omega)]
  clear hb1 hr1 hW2
  go_wp2_with fail
  clear hmk
  go_loopw [23] (fun i wr => ∃ (k : Nat) (nx : List ByteArray), k ≤ n ∧ i = .int .i64 (k : Int) ∧ Hid (Blk wr w1.heap.size 9 (arrS nx)) ∧ Hid (nx.length = n + 1) ∧ Hid (∀ j : Nat, n - k ≤ j → j ≤ n → nx[j]? = some (nextL (xs.drop j) (K.drop j))) ∧ Hid (Below w1.heap.size w1 wr) ∧ Hid (wr.heap.size = w1.heap.size + 1)) (fun i _ => n - (intOf i).toNat)
  case atStart => exact ⟨0, _, by omega, rfl, HX2, by simp [Hid], HJ0, HN2, HSZ2⟩
  case round =>
    obtain ⟨k, nx, hk, rfl, HNX, HNL, HNJ, HBR, HSZ⟩ := hrel
    by_cases hlt : k < n
    · obtain ⟨t, ht⟩ : ∃ t, n = k + t + 1 := ⟨n - k - 1, by omega⟩
      have hti : (n : Int) - 1 - (k : Int) = (t : Int) := by omega
      obtain ⟨x, hx⟩ : ∃ x, xs[t]? = some x := ⟨_, List.getElem?_eq_getElem (by rw [HN.out]; omega)⟩
      obtain ⟨kb, hkb⟩ : ∃ kb, K[t]? = some kb := ⟨_, List.getElem?_eq_getElem (by rw [HKL.out]; omega)⟩
      obtain rfl := HAA.out (by omega)
      have htn : t < n := by omega
      have k0 := HCE.out wr (HB1.out.trans (HBR.out.mono HB1.out.size)) t x hx
      obtain ⟨b1, o1, u1, rfl, hbl, hu1, k1⟩ := (HRK.out.below HBR.out).at1 htn
      have hpb : pb < w.heap.size := World.block_lt_of_cell? w _ (HCE.out w (Below.refl _ _) t x hx)
      have hsw := HB1.out.size
      have n1 : b1 ≠ w1.heap.size := by omega
      have n2 : w1.heap.size ≠ b1 := by omega
      have n3 : pb ≠ w1.heap.size := by omega
      have n4 : w1.heap.size ≠ pb := by omega
      obtain rfl : u1 = Value.bool kb := by rw [List.getElem?_map, hkb] at hu1; simpa using hu1.symm
      have hj1 := HNJ.out (t + 1) (by omega) (by omega)
      have k2 := arrS_cell HNX.out hj1
      obtain ⟨v0, hv0⟩ : ∃ v0, nx[t]? = some v0 := ⟨_, List.getElem?_eq_getElem (by rw [HNL.out]; omega)⟩
      have k3 := arrS_cell HNX.out hv0
      have f3 := HNX.out.frozen t
      have hna := nextL_at hx hkb
      have i0 : (0 : Int) ≤ (t : Int) := by omega
      have i1 : (t : Int) < (n : Int) := by omega
      have i2 : (t : Int) + 1 < (n : Int) + 1 := by omega
      have i3 : (t : Int) < (n : Int) + 1 := by omega
      have i4 : (t : Int) + 1 < ((n + 1 : Nat) : Int) := by omega
      have i5 : (t : Int) < ((n + 1 : Nat) : Int) := by omega
      have hnk : n - (k + 1) = t := by omega
      have h5 : Blk (wr.setCell ⟨w1.heap.size, t, none⟩ (.string (nextL (xs.drop (t + 1)) (K.drop (t + 1))))) w1.heap.size 9 (arrS (nx.set t (nextL (xs.drop (t + 1)) (K.drop (t + 1))))) := arrS_set HNX.out t _
      have hb5 : Below w1.heap.size w1 (wr.setCell ⟨w1.heap.size, t, none⟩ (.string (nextL (xs.drop (t + 1)) (K.drop (t + 1))))) := HBR.out.setCell (p := ⟨w1.heap.size, t, none⟩) (Nat.le_refl _) _
      have HJN : Hid (∀ (nx' : List ByteArray) (v : ByteArray), nx' = nx.set t v ∨ (∃ v1, nx' = (nx.set t v1).set t v) → v = nextL (xs.drop t) (K.drop t) → nx'.length = n + 1 ∧ ∀ j : Nat, n - (k + 1) ≤ j → j ≤ n → nx'[j]? = some (nextL (xs.drop j) (K.drop j))) := fun nx' v he hv => by
        have hget : ∀ j, nx'[j]? = if t = j then some v else nx[j]? := fun j => by
          rcases he with rfl | ⟨v1, rfl⟩
          · rw [List.getElem?_set]
            split
            · rw [if_pos (by rw [HNL.out]; omega)]
            · rfl
          · rw [List.getElem?_set, List.length_set]
            split
            · rw [if_pos (by rw [HNL.out]; omega)]
            · rename_i hne
              rw [List.getElem?_set, if_neg hne]
        refine ⟨by rcases he with rfl | ⟨v1, rfl⟩ <;> simp [HNL.out], fun j h1 h2 => ?_⟩
        rw [hget]
        split
        · rename_i e; subst e; rw [hv]
        · rename_i e; exact HNJ.out j (by omega) h2
      obtain ⟨nv, hnv⟩ : ∃ nv, nextL (xs.drop (t + 1)) (K.drop (t + 1)) = nv := ⟨_, rfl⟩
      rw [hnv] at hj1 k2 hna h5 hb5
      have H5 := Lib.hid h5
      have HB5 := Lib.hid hb5
      cases kb with
      | false =>
        have hjn := HJN.out _ nv (.inl rfl) (by rw [hna]; rfl)
        have HJN1 := Lib.hid hjn.1
        have HJN2 := Lib.hid hjn.2
        clear hx hkb hu1 hj1 hv0 hna hnk h5 hb5 hjn hnv ht
        go_wp2_with fail
        go_roundw
        case rel => exact ⟨k + 1, _, by omega, by go_num, H5, HJN1, HJN2, HB5, by unfold Hid; simp [World.setCell]; exact HSZ.out⟩
        case measure => simp [intOf]; omega
      | true =>
        have h6 := arrS_set H5.out t x
        have H6 := Lib.hid h6
        have HB6 : Hid (Below w1.heap.size w1 ((wr.setCell ⟨w1.heap.size, t, none⟩ (.string nv)).setCell ⟨w1.heap.size, t, none⟩ (.string x))) := HB5.out.setCell (p := ⟨w1.heap.size, t, none⟩) (Nat.le_refl _) _
        have hjn := HJN.out _ x (.inr ⟨nv, rfl⟩) (by rw [hna]; rfl)
        have HJN1 := Lib.hid hjn.1
        have HJN2 := Lib.hid hjn.2
        clear hx hkb hu1 hj1 hv0 hna hnk h5 hb5 hjn hnv h6 ht
        go_wp2_with fail
        go_roundw
        case rel => exact ⟨k + 1, _, by omega, by go_num, H6, HJN1, HJN2, HB6, by unfold Hid; simp [World.setCell]; exact HSZ.out⟩
        case measure => simp [intOf]; omega
    · obtain rfl : k = n := by omega
      obtain ⟨wv, rfl⟩ : ∃ wo : World, wo = wr := ⟨_, rfl⟩
      have hmk := make_strs k (by omega) wv
      obtain ⟨W3, hW3⟩ : ∃ W3, wv.alloc (.cells (arrS (List.replicate k ⟨#[]⟩)) 9) = W3 := ⟨_, rfl⟩
      have HN3 : Hid (Below wv.heap.size wv W3) := by subst hW3; exact (Below.refl _ wv).alloc (Nat.le_refl _) _
      have HX3 : Hid (Blk W3 wv.heap.size 9 (arrS (List.replicate k ⟨#[]⟩))) := by subst hW3; exact Blk.new wv 9 _
      rw [hW3] at hmk
      have HRW : Hid (RW w W3 w1.heap.size wv.heap.size w1.heap.size A2 K k nx (List.replicate k ⟨#[]⟩)) :=
        ⟨HNX.out.below HN3.out HNX.out.lt, HX3.out, (HRK.out.below HBR.out).below (HN3.out.mono (by have := HSZ.out; omega)), HB1.out.trans ((HBR.out.trans (HN3.out.mono HBR.out.size)).mono HB1.out.size), Nat.le_refl _, by have := HSZ.out; omega, HB1.out.size⟩
      have HNZ : Hid (∀ j : Nat, j ≤ k → nx[j]? = some (nextL (xs.drop j) (K.drop j)) ∧ (nextL (xs.drop j) (K.drop j)).size ≤ 140737488351232) := fun j hj => ⟨HNJ.out j (by omega) hj, nextL_size _ _ (fun y hy => HSH.out y (List.mem_of_mem_drop hy))⟩
      clear hW3
      go_wp2_with fail
      clear hmk
      go_loopw [9, 53] (fun la i w4 => ∃ (q : Nat) (last : ByteArray) (outs lo : List ByteArray), q ≤ k ∧ last.size ≤ 140737488351232 ∧ i = .int .i64 (q : Int) ∧ la = .string last ∧ Hid (RSt xs K q last outs) ∧ Hid (lo.length = k) ∧ Hid (lo.take q = outs) ∧ Hid (RW w w4 w1.heap.size wv.heap.size w1.heap.size A2 K k nx lo)) (fun _ i _ => k - (intOf i).toNat)
      case atStart => exact ⟨0, ⟨#[]⟩, [], _, by omega, Nat.zero_le _, rfl, rfl, RSt.start xs K, by simp [Hid], rfl, HRW⟩
      case round =>
        obtain ⟨q, last, outs, lo, hq, hls, rfl, rfl, HST, HLL, HLT, HR⟩ := hrel
        by_cases hqk : q < k
        · obtain ⟨x, hx⟩ : ∃ x, xs[q]? = some x := ⟨_, List.getElem?_eq_getElem (by rw [HN.out]; exact hqk)⟩
          obtain ⟨kb, hkb⟩ : ∃ kb, K[q]? = some kb := ⟨_, List.getElem?_eq_getElem (by rw [HKL.out]; exact hqk)⟩
          have HXX := Lib.hid hx
          have HKK := Lib.hid hkb
          obtain rfl := HAA.out (by omega)
          have k0 := HCE.out wr HR.out.bel q x hx
          obtain ⟨b1, o1, u1, rfl, hbl, hu1, k1⟩ := HR.out.kr.at1 hqk
          obtain rfl : u1 = Value.bool kb := by rw [List.getElem?_map, hkb] at hu1; simpa using hu1.symm
          obtain ⟨v0, hv0⟩ : ∃ v0, lo[q]? = some v0 := ⟨_, List.getElem?_eq_getElem (by rw [HLL.out]; exact hqk)⟩
          have k3 := arrS_cell HR.out.lb hv0
          have f3 := HR.out.lb.frozen q
          have hnz := HNZ.out q (by omega)
          have k4 := arrS_cell HR.out.nb hnz.1
          have hnzs := hnz.2
          have hna := nextL_at hx hkb
          have HR5 := Lib.hid (HR.out.set_ q x)
          have HLL5 : Hid ((lo.set q x).length = k) := by unfold Hid; rw [List.length_set]; exact HLL.out
          have HLT5 : Hid ((lo.set q x).take (q + 1) = outs ++ [x]) := take_set HLT.out (by rw [HLL.out]; exact hqk)
          have hxs := HSH.out x (List.mem_of_getElem? hx)
          have i1 : (q : Int) < (k : Int) := by omega
          have i2 : (q : Int) < ((k + 1 : Nat) : Int) := by omega
          have n1 : b1 ≠ wv.heap.size := by have := HR.out.s1; have := HR.out.s2; omega
          have n2 : w1.heap.size ≠ wv.heap.size := by have := HR.out.s2; omega
          have n3 : wv.heap.size ≠ b1 := fun e => n1 e.symm
          have n4 : wv.heap.size ≠ w1.heap.size := fun e => n2 e.symm
          cases kb with
          | true =>
            have HSN := Lib.hid (HST.out.stay hx hkb)
            clear hx hkb hu1 hv0 hnz hna hbl
            go_wp2_with fail
            go_roundw
            case rel => exact ⟨q + 1, x, _, _, by omega, hxs, by go_num, rfl, HSN, HLL5, HLT5, HR5⟩
            case measure => simp [intOf]; omega
          | false =>
            have hna' : nextL (xs.drop q) (K.drop q) = nextL (xs.drop (q + 1)) (K.drop (q + 1)) := by rw [hna]; rfl
            rw [hna'] at k4 hnzs
            obtain ⟨nv, hnv⟩ : ∃ nv, nextL (xs.drop (q + 1)) (K.drop (q + 1)) = nv := ⟨_, rfl⟩
            rw [hnv] at k4 hnzs
            have HNV := Lib.hid hnv
            have HBT := Lib.hid (fun w' : World => between_any last nv w' hls hnzs)
            clear hx hkb hu1 hv0 hnz hna hna' hnv hbl
            go_wp2_with fail
            refine (HBT.out _).mono ?_
            rintro e w5 ⟨hb5, key, en, rfl, hbi⟩
            have HBI := Lib.hid hbi
            have HR6 := Lib.hid (HR5.out.up hb5)
            by_cases hen : en = 0
            · subst hen
              have HSN := Lib.hid (HST.out.new HXX.out HKK.out (by rw [HNV.out]; exact HBI.out))
              have hv5 : (lo.set q x)[q]? = some x := by rw [List.getElem?_set, if_pos rfl, if_pos (by rw [HLL.out]; exact hqk)]
              have k5 := arrS_cell HR6.out.lb hv5
              have f5 := HR6.out.lb.frozen q
              have HR7 := Lib.hid (HR6.out.set_ q key)
              have HLL7 : Hid (((lo.set q x).set q key).length = k) := by unfold Hid; rw [List.length_set]; exact HLL5.out
              have HLT7 : Hid (((lo.set q x).set q key).take (q + 1) = outs ++ [key]) := by
                unfold Hid
                rw [List.set_set]
                exact take_set HLT.out (by rw [HLL.out]; exact hqk)
              have hks : key.size ≤ 140737488351232 := by
                have := key_small HBI.out
                omega
              clear hb5 hbi hv5 k3 f3 k4 k1 k0
              go_wp2_with fail
              go_roundw
              case rel => exact ⟨q + 1, key, _, _, by omega, hks, by go_num, rfl, HSN, HLL7, HLT7, HR7⟩
              case measure => simp [intOf]; omega
            · have HF := Lib.hid (HST.out.bad HXX.out HKK.out hen (by rw [HNV.out]; exact HBI.out))
              have e1 : (en != 0) = true := by simpa using hen
              have e2 : (en == 0) = false := by simpa using hen
              have HB6 := Lib.hid HR6.out.bel
              clear hb5 hbi hen k3 f3 k4 k1 k0
              go_wp2_with fail
              refine (HSP2.out _).mono ?_
              intro e w6 hq
              have hrp : RekPost w xs e w6 := RekPost.bad HB6.out (by rw [HKE.out]; exact HF.out) (by rw [HN.out]; exact hq)
              obtain ⟨h6, A6, c6, he, h7⟩ := hq
              subst he
              have HRP := Lib.hid hrp
              clear hrp h6 h7
              go_wp2_with fail
              go_ret
              exact HRP.out
        · obtain rfl : q = k := by omega
          have HE : Hid (RekPost w xs (.returned (.slice (some ⟨wv.heap.size, 0, none⟩) q q)) wr) := by
            have hlo : lo = outs := by rw [← HLT.out, List.take_of_length_le (by rw [HLL.out]; omega)]
            refine RekPost.mk HR.out.bel HR.out.lb HLL.out (.inl ?_)
            rw [hlo, HKE.out]
            have hst := HST.out
            have hnn := HN.out
            subst hnn
            exact hst.end_ HKL.out
          go_wp2_with fail
          go_ret
          exact HE.out
end Go.Proofs.Ytikabbpipdekfaa
