/-
  The reference's Between. No condition.
-/
import Derived.Test.YtikabbpipdekfaaPsG
namespace Go.Proofs.Ytikabbpipdekfaa
open Go.RowKit
set_option linter.unusedVariables false

set_option maxRecDepth 100000 in
set_option maxHeartbeats 3200000 in
theorem rbetween_ok (lo hi : ByteArray) (w : World) (h : Fit lo hi) (hs : lo.size ≤ 140737488351232) (hs2 : hi.size ≤ 140737488351232) : Calls Try.prog 13 #[.string lo, .string hi] w (BetwPost w lo.data.toList hi.data.toList) := by
  have H := Lib.hid h
  have HV1 : Hid (lo.toList = [] ∨ Calls Try.prog 15 #[.string lo] w fun e w' => e = .returned (.bool true) ∧ w = w') := by
    rcases h.okLo with h | h
    · exact .inl h
    · exact .inr (by have := rvalid_any lo w hs; unfold VldPost at this; rw [h] at this; exact this)
  have HV2 : Hid (hi.toList = [] ∨ Calls Try.prog 15 #[.string hi] w fun e w' => e = .returned (.bool true) ∧ w = w') := by
    rcases h.okHi with h | h
    · exact .inl h
    · exact .inr (by have := rvalid_any hi w hs2; unfold VldPost at this; rw [h] at this; exact this)
  have HLL := Lib.hid h.lets
  have HTL := Lib.hid h.top_le
  clear h
  go_enter Try.func13, Try.ntmps13
  go_upto_region 1 with fail
  go_cut [23] (fun v wx => v = .bool false ∧ w = wx)
  case first =>
    by_cases e1 : lo.toList = [] <;> by_cases e2 : hi.toList = []
    · go_wp2_with fail
      go_meet
      exact ⟨rfl, rfl⟩
    · have HW := Lib.hid ((HV2.out).resolve_left e2)
      go_wp2_with fail
      refine (HW.out).mono ?_
      rintro e w' ⟨rfl, rfl⟩
      go_wp2_with fail
      go_meet
      exact ⟨rfl, rfl⟩
    · have HW := Lib.hid ((HV1.out).resolve_left e1)
      go_wp2_with fail
      refine (HW.out).mono ?_
      rintro e w' ⟨rfl, rfl⟩
      go_wp2_with fail
      go_meet
      exact ⟨rfl, rfl⟩
    · have HW := Lib.hid ((HV1.out).resolve_left e1)
      have HW2 := Lib.hid ((HV2.out).resolve_left e2)
      go_wp2_with fail
      refine (HW.out).mono ?_
      rintro e w' ⟨rfl, rfl⟩
      go_wp2_with fail
      refine (HW2.out).mono ?_
      rintro e w' ⟨rfl, rfl⟩
      go_wp2_with fail
      go_meet
      exact ⟨rfl, rfl⟩
  case rest =>
    obtain ⟨rfl, rfl⟩ := hcut
    go_upto_region 3 with fail
    go_cut [34] (fun v wx => v = .bool false ∧ w = wx)
    case first =>
      by_cases e1 : lo.toList = []
      · go_wp2_with fail
        go_meet
        exact ⟨rfl, rfl⟩
      by_cases e2 : hi.toList = []
      · go_wp2_with fail
        go_meet
        exact ⟨rfl, rfl⟩
      have hlt := (H.out.ord.resolve_left e1).resolve_left e2
      have hbl : Op.bytesLess lo.toList hi.toList = true := by rw [less_iff]; exact decide_eq_true hlt
      clear hlt
      go_wp2_with fail
      go_meet
      exact ⟨rfl, rfl⟩
    case rest =>
      obtain ⟨rfl, rfl⟩ := hcut
      clear HV1 HV2
      go_wp2_with fail
      go_loopw [6] (fun i wr => ∃ k : Nat, k ≤ 60 ∧ i = .int .i64 ((k : Int) + 1) ∧ Hid (∀ n', 1 ≤ n' → n' < k + 1 → lev (W lo.data.toList) (top hi.data.toList) n' = none) ∧ Hid (Below w.heap.size w wr)) (fun i _ => 61 - (intOf i).toNat)
      case atStart => exact ⟨0, by omega, by go_num, fun n' h1 h2 => absurd h1 (by omega), Below.refl _ _⟩
      case round =>
        obtain ⟨k, hk, rfl, HM, HBR0⟩ := hrel
        by_cases hk6 : k < 60
        · have HC := Lib.hid (keys_any lo hi (k + 1) wr H.out (by omega) (by omega))
          rw [show ((k + 1 : Nat) : Int) = (k : Int) + 1 by omega] at HC
          have h0 := from_ge HLL.out.1 (by rw [size_data]; exact HLL.out.2) (show k + 1 ≤ 60 by omega)
          have HF0 := Lib.hid h0
          clear h0
          go_wp2_with fail
          refine (HC.out).mono ?_
          rintro e w1 ⟨hb1, A, c, xs, rfl, hr, hx, hkr⟩
          have HB0 := Lib.hid (HBR0.out.trans (hb1.mono HBR0.out.size))
          by_cases hlev : lev (W lo.data.toList) (top hi.data.toList) (k + 1) = none
          · have hxs := kres_none HF0.out hlev hkr
            subst hxs
            have HMN : Hid (∀ n', 1 ≤ n' → n' < k + 1 + 1 → lev (W lo.data.toList) (top hi.data.toList) n' = none) := more_none HM.out hlev
            clear hb1 hr hkr hlev HC
            go_wp2_with fail
            go_roundw
            case rel => exact ⟨k + 1, by omega, by go_num, HMN, HB0⟩
            case measure => simp [intOf]; omega
          · obtain ⟨hpos, t, ht, hbr⟩ := kres_some HF0.out (by omega) (by omega) HTL.out HM.out hlev hkr
            have HBR := Lib.hid (H.out.is hbr)
            obtain ⟨q, hq⟩ : ∃ q, (xs.length - 1) / 2 = q := ⟨_, rfl⟩
            rw [hq] at ht
            have hql := (List.getElem?_eq_some_iff.1 ht).1
            obtain ⟨b, o, u, rfl, -, hu, hcu⟩ := hr.at1 hql
            obtain rfl : u = .string t := by rw [List.getElem?_map, ht] at hu; simpa using hu.symm
            have e1 : decide (0 < (xs.length : Int)) = true := decide_eq_true (by omega)
            have e2 : ((xs.length : Int) - 1) / 2 = (q : Int) := by omega
            have e3 : 1 ≤ (xs.length : Int) := by omega
            have e4 : (q : Int) < (xs.length : Int) := by omega
            clear hb1 hr hkr hlev HC hpos ht hq hql hu hbr
            go_wp2_with fail
            go_ret2
            exact ⟨HB0.out, t, _, rfl, HBR.out⟩
        · obtain rfl : k = 60 := by omega
          have HE : Hid (BRes (W lo.data.toList) (top hi.data.toList) [] 17) := .inr ⟨rfl, rfl, fun n' h1 h2 => HM.out n' h1 (by omega)⟩
          go_wp2_with fail
          go_ret2
          exact ⟨HBR0.out, _, _, rfl, H.out.is HE.out⟩

set_option maxRecDepth 100000 in
set_option maxHeartbeats 1600000 in
theorem rbetween_any (lo hi : ByteArray) (w : World) (hs : lo.size ≤ 140737488351232) (hs2 : hi.size ≤ 140737488351232) : Calls Try.prog 13 #[.string lo, .string hi] w (BetwPost w lo.data.toList hi.data.toList) := by
  have HV1 := Lib.hid (rvalid_any lo w hs)
  have HV2 := Lib.hid (rvalid_any hi w hs2)
  unfold VldPost at HV1 HV2
  by_cases e1 : lo.toList = []
  · by_cases b2 : hi.toList = [] ∨ keyB hi.data.toList = true
    · exact rbetween_ok lo hi w ⟨.inl e1, b2, .inl e1⟩ hs hs2
    · have e2 : ¬ hi.toList = [] := fun e => b2 (.inl e)
      have k2 : keyB hi.data.toList = false := by
        cases h : keyB hi.data.toList with
        | true => exact absurd (.inr h) b2
        | false => rfl
      have HB : Hid (BIs lo.data.toList hi.data.toList [] 5) := by unfold Hid BIs; rw [if_pos (.inr ⟨fun h => e2 (toList_nil.2 h), k2⟩)]; exact ⟨rfl, rfl⟩
      rw [k2] at HV2
      clear b2 k2
      have e3 : hi.toList.isEmpty = false := by simpa using e2
      go_enter Try.func13, Try.ntmps13
      go_wp2_with fail
      refine (HV2.out).mono ?_
      rintro e w' ⟨rfl, rfl⟩
      go_wp2_with fail
      go_ret2
      exact ⟨Below.refl _ _, ⟨#[]⟩, _, rfl, HB.out⟩
  · cases k1 : keyB lo.data.toList with
    | false =>
      have HB : Hid (BIs lo.data.toList hi.data.toList [] 5) := by unfold Hid BIs; rw [if_pos (.inl ⟨fun h => e1 (toList_nil.2 h), k1⟩)]; exact ⟨rfl, rfl⟩
      rw [k1] at HV1
      clear k1
      have e4 : lo.toList.isEmpty = false := by simpa using e1
      go_enter Try.func13, Try.ntmps13
      go_wp2_with fail
      refine (HV1.out).mono ?_
      rintro e w' ⟨rfl, rfl⟩
      go_wp2_with fail
      go_ret2
      exact ⟨Below.refl _ _, ⟨#[]⟩, _, rfl, HB.out⟩
    | true =>
      by_cases e2 : hi.toList = []
      · exact rbetween_ok lo hi w ⟨.inr k1, .inl e2, .inr (.inl e2)⟩ hs hs2
      · cases k2 : keyB hi.data.toList with
        | false =>
          have HB : Hid (BIs lo.data.toList hi.data.toList [] 5) := by unfold Hid BIs; rw [if_pos (.inr ⟨fun h => e2 (toList_nil.2 h), k2⟩)]; exact ⟨rfl, rfl⟩
          rw [k1] at HV1
          rw [k2] at HV2
          clear k1 k2
          have e4 : lo.toList.isEmpty = false := by simpa using e1
          have e3 : hi.toList.isEmpty = false := by simpa using e2
          go_enter Try.func13, Try.ntmps13
          go_wp2_with fail
          refine (HV1.out).mono ?_
          rintro e w' ⟨rfl, rfl⟩
          go_wp2_with fail
          refine (HV2.out).mono ?_
          rintro e w' ⟨rfl, rfl⟩
          go_wp2_with fail
          go_ret2
          exact ⟨Below.refl _ _, ⟨#[]⟩, _, rfl, HB.out⟩
        | true =>
          by_cases hlt : lo.data.toList < hi.data.toList
          · exact rbetween_ok lo hi w ⟨.inr k1, .inr k2, .inr (.inr hlt)⟩ hs hs2
          · have HB : Hid (BIs lo.data.toList hi.data.toList [] 12) := by
              unfold Hid BIs
              rw [if_neg (by rintro (⟨_, h⟩ | ⟨_, h⟩); rw [k1] at h; cases h; rw [k2] at h; cases h), if_pos ⟨fun h => e1 (toList_nil.2 h), fun h => e2 (toList_nil.2 h), hlt⟩]
              exact ⟨rfl, rfl⟩
            have hbl : Op.bytesLess lo.toList hi.toList = false := by rw [less_iff]; exact decide_eq_false hlt
            rw [k1] at HV1
            rw [k2] at HV2
            clear k1 k2 hlt
            have e4 : lo.toList.isEmpty = false := by simpa using e1
            have e3 : hi.toList.isEmpty = false := by simpa using e2
            go_enter Try.func13, Try.ntmps13
            go_wp2_with fail
            refine (HV1.out).mono ?_
            rintro e w' ⟨rfl, rfl⟩
            go_wp2_with fail
            refine (HV2.out).mono ?_
            rintro e w' ⟨rfl, rfl⟩
            go_wp2_with fail
            go_ret2
            exact ⟨Below.refl _ _, ⟨#[]⟩, _, rfl, HB.out⟩
end Go.Proofs.Ytikabbpipdekfaa
