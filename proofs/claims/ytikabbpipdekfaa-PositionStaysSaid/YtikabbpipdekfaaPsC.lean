/-
  The program's Between, walked. No condition.
-/
import Derived.Test.YtikabbpipdekfaaPsB
namespace Go.Proofs.Ytikabbpipdekfaa
open Go.RowKit
set_option linter.unusedVariables false

theorem toList_nil {s : ByteArray} : s.toList = [] ↔ s.data.toList = [] := by rw [Lib.toList_data]
theorem ne_nil_size {s : ByteArray} (h : ¬ s.toList = []) : 0 < s.size := by
  rw [toList_nil] at h
  rw [← size_data]
  cases hh : s.data.toList with
  | nil => exact absurd hh h
  | cons => simp
theorem bytes_less : ∀ (x y : List UInt8), Op.bytesLess x y = decide (x < y)
  | [], [] => by simp [Op.bytesLess]
  | _ :: _, [] => by simp [Op.bytesLess]
  | [], _ :: _ => by simp [Op.bytesLess]
  | a :: x, b :: y => by
    rw [Op.bytesLess, bytes_less x y, Bool.eq_iff_iff]
    simp [List.cons_lt_cons_iff]
theorem less_iff (a b : ByteArray) : Op.bytesLess a.toList b.toList = decide (a.data.toList < b.data.toList) := by
  rw [bytes_less, Lib.toList_data, Lib.toList_data]
/-- both ends are fit -/
structure Fit (lo hi : ByteArray) : Prop where
  okLo : lo.toList = [] ∨ keyB lo.data.toList = true
  okHi : hi.toList = [] ∨ keyB hi.data.toList = true
  ord : lo.toList = [] ∨ hi.toList = [] ∨ lo.data.toList < hi.data.toList
def top (hi : List UInt8) : Nat := if hi = [] then Bn 0 else W hi
theorem Fit.is {lo hi : ByteArray} (h : Fit lo hi) {s : List UInt8} {e : Int} (hr : BRes (W lo.data.toList) (top hi.data.toList) s e) : BIs lo.data.toList hi.data.toList s e := by
  unfold BIs
  rw [if_neg, if_neg]
  · exact hr
  · rintro ⟨h1, h2, h3⟩
    rcases h.ord with h | h | h
    · exact h1 (toList_nil.1 h)
    · exact h2 (toList_nil.1 h)
    · exact h3 h
  · rintro (⟨h1, h2⟩ | ⟨h1, h2⟩)
    · rcases h.okLo with h | h
      · exact h1 (toList_nil.1 h)
      · rw [h] at h2; cases h2
    · rcases h.okHi with h | h
      · exact h1 (toList_nil.1 h)
      · rw [h] at h2; cases h2
theorem Fit.lets {lo hi : ByteArray} (h : Fit lo hi) : Lets lo.data.toList ∧ lo.size ≤ 60 := by
  rcases h.okLo with h | h
  · rw [toList_nil] at h
    exact ⟨(fun c hc => by rw [h] at hc; cases hc), (by rw [← size_data, h]; simp)⟩
  · have := keyB_iff.1 h
    exact ⟨this.lets, by rw [← size_data]; exact this.len⟩
theorem Fit.top_le {lo hi : ByteArray} (h : Fit lo hi) : top hi.data.toList ≤ Bn 0 := by
  unfold top
  split
  · exact Nat.le_refl _
  · rename_i hn
    rcases h.okHi with h | h
    · exact absurd (toList_nil.1 h) hn
    · exact Nat.le_of_lt (W_lt (keyB_iff.1 h).lets)

theorem lev_over {L H n : Nat} (hn : n ≤ 60) (hH : H ≤ Bn 0) (h : L / Bn n + 1 = 26 ^ n) : lev L H n = none := by
  unfold lev
  rw [if_neg]
  have h1 := up_ge L n
  have h2 : 26 ^ n * Bn n ≤ up L n * Bn n := Nat.mul_le_mul_right _ (by omega)
  rw [Bn_top hn] at h2
  omega
theorem more_none {L H k : Nat} (h : ∀ n', 1 ≤ n' → n' < k + 1 → lev L H n' = none) (h' : lev L H (k + 1) = none) : ∀ n', 1 ≤ n' → n' < k + 1 + 1 → lev L H n' = none := fun n' h1 h2 => by
  by_cases e : n' = k + 1
  · rw [e]; exact h'
  · exact h n' h1 (by omega)
theorem set_last {p : List UInt8} {c x : UInt8} {k : Nat} (h : p.length = k) : (p ++ [c]).set k x = p ++ [x] := by subst h; simp
theorem app_len {p : List UInt8} {c : UInt8} {k : Nat} (h : p.length = k) : (p ++ [c]).length = k + 1 := by simp [h]
theorem get_last {p : List UInt8} {c : UInt8} {k : Nat} (h : p.length = k) {hk : k < (p ++ [c]).length} : (p ++ [c])[k] = c := by subst h; simp
theorem Found.below_top {L H k : Nat} {p : List UInt8} {c x : UInt8} (h : Found L H k p c) (hk : k < 60) (hx : x.toNat ≤ 122) {j : Nat} (hj : x.toNat = c.toNat + j) : (up L (k + 1) + j) * Bn (k + 1) < Bn 0 := by
  obtain ⟨hl, hv⟩ := h.other hx hj
  rw [← hv, ← Bn_top (n := k + 1) (by omega)]
  exact Nat.mul_lt_mul_of_pos_right (V_lt _ _ hl) (Bn_pos _)
set_option maxRecDepth 100000 in
set_option maxHeartbeats 3200000 in
theorem between_ok (lo hi : ByteArray) (w : World) (h : Fit lo hi) (hs : lo.size ≤ 140737488351232) (hs2 : hi.size ≤ 140737488351232) : Calls Try.prog 12 #[.string lo, .string hi] w (BetwPost w lo.data.toList hi.data.toList) := by
  have H := Lib.hid h
  have HV1 : Hid (lo.toList = [] ∨ Calls Try.prog 14 #[.string lo] w fun e w' => e = .returned (.bool true) ∧ w = w') := by
    rcases h.okLo with h | h
    · exact .inl h
    · exact .inr (by have := valid_any lo w hs; unfold VldPost at this; rw [h] at this; exact this)
  have HV2 : Hid (hi.toList = [] ∨ Calls Try.prog 14 #[.string hi] w fun e w' => e = .returned (.bool true) ∧ w = w') := by
    rcases h.okHi with h | h
    · exact .inl h
    · exact .inr (by have := valid_any hi w hs2; unfold VldPost at this; rw [h] at this; exact this)
  have HLL := Lib.hid h.lets
  have HTL := Lib.hid h.top_le
  clear h
  go_enter Try.func12, Try.ntmps12
  go_upto_region 1 with fail
  go_cut [27] (fun v wx => v = .bool false ∧ w = wx)
  case first =>
    by_cases e1 : lo.toList = [] <;> by_cases e2 : hi.toList = []
    · go_wp2_with fail
      go_meet
      exact ⟨rfl, rfl⟩
    · have HW := Lib.hid ((HV2.out).resolve_left e2)
      go_wp2_with fail
      refine (HW.out).mono ?_
      rintro e w' ⟨rfl, rfl⟩
      go_wp2_with fail
      go_meet
      exact ⟨rfl, rfl⟩
    · have HW := Lib.hid ((HV1.out).resolve_left e1)
      go_wp2_with fail
      refine (HW.out).mono ?_
      rintro e w' ⟨rfl, rfl⟩
      go_wp2_with fail
      go_meet
      exact ⟨rfl, rfl⟩
    · have HW := Lib.hid ((HV1.out).resolve_left e1)
      have HW2 := Lib.hid ((HV2.out).resolve_left e2)
      go_wp2_with fail
      refine (HW.out).mono ?_
      rintro e w' ⟨rfl, rfl⟩
      go_wp2_with fail
      refine (HW2.out).mono ?_
      rintro e w' ⟨rfl, rfl⟩
      go_wp2_with fail
      go_meet
      exact ⟨rfl, rfl⟩
  case rest =>
    obtain ⟨rfl, rfl⟩ := hcut
    go_upto_region 3 with fail
    go_cut [38] (fun v wx => v = .bool false ∧ w = wx)
    case first =>
      by_cases e1 : lo.toList = []
      · go_wp2_with fail
        go_meet
        exact ⟨rfl, rfl⟩
      by_cases e2 : hi.toList = []
      · go_wp2_with fail
        go_meet
        exact ⟨rfl, rfl⟩
      have hlt := (H.out.ord.resolve_left e1).resolve_left e2
      have hbl : Op.bytesLess lo.toList hi.toList = true := by rw [less_iff]; exact decide_eq_true hlt
      clear hlt
      go_wp2_with fail
      go_meet
      exact ⟨rfl, rfl⟩
    case rest =>
      obtain ⟨rfl, rfl⟩ := hcut
      clear HV1 HV2
      go_wp2_with fail
      go_loopw [6] (fun i wr => ∃ k : Nat, k ≤ 60 ∧ i = .int .i64 ((k : Int) + 1) ∧ Hid (∀ n', 1 ≤ n' → n' < k + 1 → lev (W lo.data.toList) (top hi.data.toList) n' = none) ∧ Hid (Below w.heap.size w wr)) (fun i _ => 61 - (intOf i).toNat)
      case atStart => exact ⟨0, by omega, by go_num, fun n' h1 h2 => absurd h1 (by omega), Below.refl _ _⟩
      case round =>
        obtain ⟨k, hk, rfl, HM, HBR0⟩ := hrel
        by_cases hk6 : k < 60
        · have HC := Lib.hid (least_any lo (k + 1) wr HLL.out.2 HLL.out.1 (by omega) (by omega))
          rw [show ((k + 1 : Nat) : Int) = (k : Int) + 1 by omega] at HC
          go_wp2_with fail
          refine (HC.out).mono ?_
          rintro e w1 ⟨hb1, hq⟩
          have HB0 := Lib.hid (HBR0.out.trans (hb1.mono HBR0.out.size))
          clear hb1 HC
          rcases hq with ⟨hlt, t, rfl, ht1, ht2, ht3⟩ | ⟨heq, rfl⟩
          rotate_left
          · have HMN : Hid (∀ n', 1 ≤ n' → n' < k + 1 + 1 → lev (W lo.data.toList) (top hi.data.toList) n' = none) := more_none HM.out (lev_over (by omega) HTL.out heq)
            clear heq
            go_wp2_with fail
            go_roundw
            case rel => exact ⟨k + 1, by omega, by go_num, HMN, HB0⟩
            case measure => simp [intOf]; omega
          by_cases e2 : hi.toList = []
          · have hlev : lev (W lo.data.toList) (top hi.data.toList) (k + 1) ≠ none := by
              unfold lev top
              rw [if_pos (toList_nil.1 e2), if_pos]
              · simp
              · rw [← ht3, ← Bn_top (n := k + 1) (by omega)]
                exact Nat.mul_lt_mul_of_pos_right (V_lt _ _ ht2) (Bn_pos _)
            clear hlt
            obtain ⟨p, c, htp⟩ := last_form (l := t.data.toList) (by intro e; rw [← size_data, e] at ht1; simp at ht1)
            have hpl : p.length = k := by have := size_data t; rw [htp] at this; simp at this; omega
            have HF : Hid (Found (W lo.data.toList) (top hi.data.toList) k p c) := ⟨hlev, HM.out, hpl, by rw [← htp]; exact ht2, by rw [← htp]; exact ht3⟩
            have HLV : Hid (up (W lo.data.toList) (k + 1) * Bn (k + 1) < top hi.data.toList) := lev_lt hlev
            obtain ⟨cap, w2, hcv, hby, hb2⟩ := byts_new w1 t
            rw [htp] at hby
            rw [ht1] at hcv
            have HBY := Lib.hid hby
            have HB2 := Lib.hid (HB0.out.trans (hb2.mono HB0.out.size))
            have HB12 := Lib.hid hb2
            have hcl : Let c := HF.out.lets c (by simp)
            have c1 : (c.toNat : Int) ≤ 122 := by have := hcl.2; omega
            have c2 : 97 ≤ (c.toNat : Int) := by have := hcl.1; omega
            have c0 := HBY.out.cell (j := k) (by simp [hpl])
            rw [get_last hpl] at c0
            have hin : (k : Int) < ((k + 1 : Nat) : Int) := by omega
            have HTP := Lib.hid htp
            clear hby hb2 hlev ht1 ht2 ht3 hpl hcl htp
            go_wp2_with fail
            clear c0 hcv
            go_loopw [11] (fun cn wr => ∃ (j : Nat) (x : UInt8), cn = .int .i64 ((j : Int) + 1) ∧ Hid (x.toNat = c.toNat + j) ∧ (x.toNat : Int) ≤ 122 ∧ (j : Int) ≤ 25 ∧ Hid (Byts wr w1.heap.size (p ++ [x])) ∧ Hid ((up (W lo.data.toList) (k + 1) + j) * Bn (k + 1) < top hi.data.toList) ∧ Hid (Below w.heap.size w wr)) (fun cn _ => 200 - (intOf cn).toNat)
            case atStart => exact ⟨0, c, by go_num, rfl, c1, by omega, HBY, by simpa using HLV, HB2⟩
            case round =>
              obtain ⟨j, x, rfl, HXJ, hx1, hj1, HBX, HLJ, HBR⟩ := hrel
              have c0 := HBX.out.cell (j := k) (by simp [HF.out.plen])
              rw [get_last HF.out.plen] at c0
              have hxj := HXJ.out
              by_cases hx : x.toNat < 122
              · have e5 : decide ((x.toNat : Int) < 122) = true := decide_eq_true (by omega)
                have hn1 : ((x + 1).toNat : Int) = (x.toNat : Int) + 1 := by rw [UInt8.toNat_add]; show (((x.toNat + 1) % 256 : Nat) : Int) = _; omega
                have hn2 : (x + 1).toNat = c.toNat + (j + 1) := by omega
                have hn3 : ((x + 1).toNat : Int) ≤ 122 := by omega
                have cf := HBX.out.froz (j := k) (by simp [HF.out.plen])
                have hnx := HBX.out.set_ (k := k) (by simp [HF.out.plen]) (x + 1)
                rw [set_last HF.out.plen, hn1] at hnx
                have HNX := Lib.hid hnx
                have HBN : Hid (Below w.heap.size w (wr.setCell ⟨w1.heap.size, k, none⟩ (.int .u8 ((x.toNat : Int) + 1)))) := HBR.out.setCell (p := ⟨w1.heap.size, k, none⟩) HB0.out.size _
                have HN2 := Lib.hid hn2
                have hc26 := HF.out.lets c (by simp)
                have HLN : Hid ((up (W lo.data.toList) (k + 1) + (j + 1)) * Bn (k + 1) < top hi.data.toList) := by
                  unfold Hid top
                  rw [if_pos (toList_nil.1 e2)]
                  exact (HF.out.below_top (j := j + 1) (x := x + 1) (by omega) (by omega) hn2)
                have hc97 := hc26.1
                have b25 : j + 1 ≤ 25 := by omega
                clear hnx hn1 hn2 hc26 hxj
                go_wp2_with fail
                go_roundw
                case rel => exact ⟨j + 1, x + 1, by go_num, HN2.out, by omega, by omega, HNX, HLN, HBN⟩
                case measure => simp [intOf]; omega
              · have e5 : decide ((x.toNat : Int) < 122) = false := decide_eq_false (by omega)
                have HCN : Hid (IsCnt (top hi.data.toList) (k + 1) (up (W lo.data.toList) (k + 1)) (j + 1)) := by
                  have hm := HF.out.mod
                  have := (HF.out.lets c (by simp)).1
                  exact ⟨by omega, by omega, HLJ.out, .inl (by omega)⟩
                obtain ⟨y, hy⟩ : ∃ y : UInt8, y.toNat = c.toNat + j / 2 := ⟨UInt8.ofNat (c.toNat + j / 2), by rw [UInt8.toNat_ofNat_of_lt']; show _ < 256; omega⟩
                have hyc : ((y.toNat : Nat) : Int) = (c.toNat : Int) + (j : Int) / 2 := by omega
                have HEY := HBX.out.set_ (k := k) (by simp [HF.out.plen]) y
                rw [set_last HF.out.plen, hyc] at HEY
                have hst2 := HEY.str cap
                rw [app_len HF.out.plen] at hst2
                have z0 := HBX.out.cell (j := k) (by simp [HF.out.plen])
                rw [get_last HF.out.plen] at z0
                have zf := HBX.out.froz (j := k) (by simp [HF.out.plen])
                have HRS : Hid (BRes (W lo.data.toList) (top hi.data.toList) (p ++ [y]) 0) := HF.out.res (by omega) HCN.out (n := j + 1) (j := j / 2) (by omega) (by omega) (by omega)
                have HBE : Hid (Below w.heap.size w (wr.setCell ⟨w1.heap.size, k, none⟩ (.int .u8 ((c.toNat : Int) + (j : Int) / 2)))) := HBR.out.setCell (p := ⟨w1.heap.size, k, none⟩) (Nat.le_trans HB0.out.size (Nat.le_refl _)) _
                have q1 : 0 ≤ (j : Int) / 2 := by omega
                have q2 : (j : Int) / 2 ≤ 25 := by omega
                clear hy hyc HEY
                clear hxj
                go_wp2_with fail
                go_ret2
                exact ⟨HBE.out, _, _, rfl, H.out.is HRS.out⟩
          · have e3 : hi.toList.isEmpty = false := by simpa using e2
            have hkh : Key hi.data.toList := keyB_iff.1 (H.out.okHi.resolve_left e2)
            have HKH := Lib.hid hkh
            have hiff : t.data.toList < hi.data.toList ↔ up (W lo.data.toList) (k + 1) * Bn (k + 1) < W hi.data.toList := by
              rw [W_lt_iff ht2 (by rw [size_data]; omega) hkh.lets hkh.len hkh.fin, W_eq (by rw [size_data]; omega), size_data, ht1, ht3]
            have htop : top hi.data.toList = W hi.data.toList := if_neg (fun h => e2 (toList_nil.2 h))
            by_cases hlt2 : t.data.toList < hi.data.toList
            · have hbl0 : Op.bytesLess t.toList hi.toList = true := by rw [less_iff]; exact decide_eq_true hlt2
              have hlev : lev (W lo.data.toList) (top hi.data.toList) (k + 1) ≠ none := by
                unfold lev
                rw [htop, if_pos (hiff.1 hlt2)]
                simp
              clear hlt hiff htop hlt2 hkh
              obtain ⟨p, c, htp⟩ := last_form (l := t.data.toList) (by intro e; rw [← size_data, e] at ht1; simp at ht1)
              have hpl : p.length = k := by have := size_data t; rw [htp] at this; simp at this; omega
              have HF : Hid (Found (W lo.data.toList) (top hi.data.toList) k p c) := ⟨hlev, HM.out, hpl, by rw [← htp]; exact ht2, by rw [← htp]; exact ht3⟩
              have HLV : Hid (up (W lo.data.toList) (k + 1) * Bn (k + 1) < top hi.data.toList) := lev_lt hlev
              obtain ⟨cap, w2, hcv, hby, hb2⟩ := byts_new w1 t
              rw [htp] at hby
              rw [ht1] at hcv
              have HBY := Lib.hid hby
              have HB2 := Lib.hid (HB0.out.trans (hb2.mono HB0.out.size))
              have HB12 := Lib.hid hb2
              have hcl : Let c := HF.out.lets c (by simp)
              have c1 : (c.toNat : Int) ≤ 122 := by have := hcl.2; omega
              have c2 : 97 ≤ (c.toNat : Int) := by have := hcl.1; omega
              have c0 := HBY.out.cell (j := k) (by simp [hpl])
              rw [get_last hpl] at c0
              have hin : (k : Int) < ((k + 1 : Nat) : Int) := by omega
              have HTP := Lib.hid htp
              clear hby hb2 hlev ht1 ht2 ht3 hpl hcl htp
              go_wp2_with fail
              clear c0 hcv
              go_loopw [11] (fun cn wr => ∃ (j : Nat) (x : UInt8), cn = .int .i64 ((j : Int) + 1) ∧ Hid (x.toNat = c.toNat + j) ∧ (x.toNat : Int) ≤ 122 ∧ (j : Int) ≤ 25 ∧ Hid (Byts wr w1.heap.size (p ++ [x])) ∧ Hid ((up (W lo.data.toList) (k + 1) + j) * Bn (k + 1) < top hi.data.toList) ∧ Hid (Below w.heap.size w wr)) (fun cn _ => 200 - (intOf cn).toNat)
              case atStart => exact ⟨0, c, by go_num, rfl, c1, by omega, HBY, by simpa using HLV, HB2⟩
              case round =>
                obtain ⟨j, x, rfl, HXJ, hx1, hj1, HBX, HLJ, HBR⟩ := hrel
                have c0 := HBX.out.cell (j := k) (by simp [HF.out.plen])
                rw [get_last HF.out.plen] at c0
                have hxj := HXJ.out
                by_cases hx : x.toNat < 122
                · have e5 : decide ((x.toNat : Int) < 122) = true := decide_eq_true (by omega)
                  have hn1 : ((x + 1).toNat : Int) = (x.toNat : Int) + 1 := by rw [UInt8.toNat_add]; show (((x.toNat + 1) % 256 : Nat) : Int) = _; omega
                  have hn2 : (x + 1).toNat = c.toNat + (j + 1) := by omega
                  have hn3 : ((x + 1).toNat : Int) ≤ 122 := by omega
                  have cf := HBX.out.froz (j := k) (by simp [HF.out.plen])
                  have hnx := HBX.out.set_ (k := k) (by simp [HF.out.plen]) (x + 1)
                  rw [set_last HF.out.plen, hn1] at hnx
                  have HNX := Lib.hid hnx
                  have HBN : Hid (Below w.heap.size w (wr.setCell ⟨w1.heap.size, k, none⟩ (.int .u8 ((x.toNat : Int) + 1)))) := HBR.out.setCell (p := ⟨w1.heap.size, k, none⟩) HB0.out.size _
                  have hst := hnx.str cap
                  rw [app_len HF.out.plen] at hst
                  have HN2 := Lib.hid hn2
                  have hc97 := (HF.out.lets c (by simp)).1
                  have b25 : j + 1 ≤ 25 := by omega
                  have hkey := HKH.out
                  have hiff := HF.out.lt_iff (x := x + 1) (j := j + 1) (hi := hi.data.toList) (by omega) (by omega) hn2 hkey
                  by_cases hlt : p ++ [x + 1] < hi.data.toList
                  · have hbl : Op.bytesLess (p ++ [x + 1]) hi.toList = true := by rw [bytes_less, Lib.toList_data]; exact decide_eq_true hlt
                    have HLN : Hid ((up (W lo.data.toList) (k + 1) + (j + 1)) * Bn (k + 1) < top hi.data.toList) := by
                      unfold Hid top
                      rw [if_neg (fun h => e2 (toList_nil.2 h))]
                      exact hiff.1 hlt
                    clear hnx hn1 hn2 hkey hiff hlt hxj
                    go_wp2_with fail
                    go_roundw
                    case rel => exact ⟨j + 1, x + 1, by go_num, HN2.out, by omega, by omega, HNX, HLN, HBN⟩
                    case measure => simp [intOf]; omega
                  · have hbl : Op.bytesLess (p ++ [x + 1]) hi.toList = false := by rw [bytes_less, Lib.toList_data]; exact decide_eq_false hlt
                    have HCN : Hid (IsCnt (top hi.data.toList) (k + 1) (up (W lo.data.toList) (k + 1)) (j + 1)) := by
                      have hm := HF.out.mod
                      refine ⟨by omega, by omega, HLJ.out, .inr ?_⟩
                      unfold top
                      rw [if_neg (fun h => e2 (toList_nil.2 h))]
                      rcases Nat.lt_or_ge ((up (W lo.data.toList) (k + 1) + (j + 1)) * Bn (k + 1)) (W hi.data.toList) with h | h
                      · exact absurd (hiff.2 h) hlt
                      · exact h
                    obtain ⟨y, hy⟩ : ∃ y : UInt8, y.toNat = c.toNat + j / 2 := ⟨UInt8.ofNat (c.toNat + j / 2), by rw [UInt8.toNat_ofNat_of_lt']; show _ < 256; omega⟩
                    have hyc : ((y.toNat : Nat) : Int) = (c.toNat : Int) + (j : Int) / 2 := by omega
                    have HEY := HNX.out.set_ (k := k) (by simp [HF.out.plen]) y
                    rw [set_last HF.out.plen, hyc] at HEY
                    have hst2 := HEY.str cap
                    rw [app_len HF.out.plen] at hst2
                    have z0 := HNX.out.cell (j := k) (by simp [HF.out.plen])
                    rw [get_last HF.out.plen] at z0
                    have zf := HNX.out.froz (j := k) (by simp [HF.out.plen])
                    have HRS : Hid (BRes (W lo.data.toList) (top hi.data.toList) (p ++ [y]) 0) := HF.out.res (by omega) HCN.out (n := j + 1) (j := j / 2) (by omega) (by omega) (by omega)
                    have HBE : Hid (Below w.heap.size w ((wr.setCell ⟨w1.heap.size, k, none⟩ (.int .u8 ((x.toNat : Int) + 1))).setCell ⟨w1.heap.size, k, none⟩ (.int .u8 ((c.toNat : Int) + (j : Int) / 2)))) := HBN.out.setCell (p := ⟨w1.heap.size, k, none⟩) (Nat.le_trans HB0.out.size (Nat.le_refl _)) _
                    have q1 : 0 ≤ (j : Int) / 2 := by omega
                    have q2 : (j : Int) / 2 ≤ 25 := by omega
                    clear hy hyc HEY
                    clear hnx hn1 hn2 hkey hiff hlt hxj
                    go_wp2_with fail
                    go_ret2
                    exact ⟨HBE.out, _, _, rfl, H.out.is HRS.out⟩
                · have e5 : decide ((x.toNat : Int) < 122) = false := decide_eq_false (by omega)
                  have HCN : Hid (IsCnt (top hi.data.toList) (k + 1) (up (W lo.data.toList) (k + 1)) (j + 1)) := by
                    have hm := HF.out.mod
                    have := (HF.out.lets c (by simp)).1
                    exact ⟨by omega, by omega, HLJ.out, .inl (by omega)⟩
                  obtain ⟨y, hy⟩ : ∃ y : UInt8, y.toNat = c.toNat + j / 2 := ⟨UInt8.ofNat (c.toNat + j / 2), by rw [UInt8.toNat_ofNat_of_lt']; show _ < 256; omega⟩
                  have hyc : ((y.toNat : Nat) : Int) = (c.toNat : Int) + (j : Int) / 2 := by omega
                  have HEY := HBX.out.set_ (k := k) (by simp [HF.out.plen]) y
                  rw [set_last HF.out.plen, hyc] at HEY
                  have hst2 := HEY.str cap
                  rw [app_len HF.out.plen] at hst2
                  have z0 := HBX.out.cell (j := k) (by simp [HF.out.plen])
                  rw [get_last HF.out.plen] at z0
                  have zf := HBX.out.froz (j := k) (by simp [HF.out.plen])
                  have HRS : Hid (BRes (W lo.data.toList) (top hi.data.toList) (p ++ [y]) 0) := HF.out.res (by omega) HCN.out (n := j + 1) (j := j / 2) (by omega) (by omega) (by omega)
                  have HBE : Hid (Below w.heap.size w (wr.setCell ⟨w1.heap.size, k, none⟩ (.int .u8 ((c.toNat : Int) + (j : Int) / 2)))) := HBR.out.setCell (p := ⟨w1.heap.size, k, none⟩) (Nat.le_trans HB0.out.size (Nat.le_refl _)) _
                  have q1 : 0 ≤ (j : Int) / 2 := by omega
                  have q2 : (j : Int) / 2 ≤ 25 := by omega
                  clear hy hyc HEY
                  clear hxj
                  go_wp2_with fail
                  go_ret2
                  exact ⟨HBE.out, _, _, rfl, H.out.is HRS.out⟩
            · have hbl0 : Op.bytesLess t.toList hi.toList = false := by rw [less_iff]; exact decide_eq_false hlt2
              have HMN : Hid (∀ n', 1 ≤ n' → n' < k + 1 + 1 → lev (W lo.data.toList) (top hi.data.toList) n' = none) := more_none HM.out (by
                unfold lev
                rw [htop, if_neg (fun h => hlt2 (hiff.2 h))])
              clear hlt hiff htop hlt2 hkh ht1 ht2 ht3
              go_wp2_with fail
              go_roundw
              case rel => exact ⟨k + 1, by omega, by go_num, HMN, HB0⟩
              case measure => simp [intOf]; omega
        · obtain rfl : k = 60 := by omega
          have HE : Hid (BRes (W lo.data.toList) (top hi.data.toList) [] 17) := .inr ⟨rfl, rfl, fun n' h1 h2 => HM.out n' h1 (by omega)⟩
          go_wp2_with fail
          go_ret2
          exact ⟨HBR0.out, _, _, rfl, H.out.is HE.out⟩
end Go.Proofs.Ytikabbpipdekfaa
