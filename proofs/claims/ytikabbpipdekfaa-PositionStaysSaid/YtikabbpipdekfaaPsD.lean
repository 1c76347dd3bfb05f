/-
  The program's Between, for any texts. No condition.
-/
import Derived.Test.YtikabbpipdekfaaPsC
namespace Go.Proofs.Ytikabbpipdekfaa
open Go.RowKit
set_option linter.unusedVariables false

set_option maxRecDepth 100000 in
set_option maxHeartbeats 1600000 in
theorem between_any (lo hi : ByteArray) (w : World) (hs : lo.size ≤ 140737488351232) (hs2 : hi.size ≤ 140737488351232) : Calls Try.prog 12 #[.string lo, .string hi] w (BetwPost w lo.data.toList hi.data.toList) := by
  have HV1 := Lib.hid (valid_any lo w hs)
  have HV2 := Lib.hid (valid_any hi w hs2)
  unfold VldPost at HV1 HV2
  by_cases e1 : lo.toList = []
  · by_cases b2 : hi.toList = [] ∨ keyB hi.data.toList = true
    · exact between_ok lo hi w ⟨.inl e1, b2, .inl e1⟩ hs hs2
    · have e2 : ¬ hi.toList = [] := fun e => b2 (.inl e)
      have k2 : keyB hi.data.toList = false := by
        cases h : keyB hi.data.toList with
        | true => exact absurd (.inr h) b2
        | false => rfl
      have HB : Hid (BIs lo.data.toList hi.data.toList [] 5) := by unfold Hid BIs; rw [if_pos (.inr ⟨fun h => e2 (toList_nil.2 h), k2⟩)]; exact ⟨rfl, rfl⟩
      rw [k2] at HV2
      clear b2 k2
      have e3 : hi.toList.isEmpty = false := by simpa using e2
      go_enter Try.func12, Try.ntmps12
      go_wp2_with fail
      refine (HV2.out).mono ?_
      rintro e w' ⟨rfl, rfl⟩
      go_wp2_with fail
      go_ret2
      exact ⟨Below.refl _ _, ⟨#[]⟩, _, rfl, HB.out⟩
  · cases k1 : keyB lo.data.toList with
    | false =>
      have HB : Hid (BIs lo.data.toList hi.data.toList [] 5) := by unfold Hid BIs; rw [if_pos (.inl ⟨fun h => e1 (toList_nil.2 h), k1⟩)]; exact ⟨rfl, rfl⟩
      rw [k1] at HV1
      clear k1
      have e4 : lo.toList.isEmpty = false := by simpa using e1
      go_enter Try.func12, Try.ntmps12
      go_wp2_with fail
      refine (HV1.out).mono ?_
      rintro e w' ⟨rfl, rfl⟩
      go_wp2_with fail
      go_ret2
      exact ⟨Below.refl _ _, ⟨#[]⟩, _, rfl, HB.out⟩
    | true =>
      by_cases e2 : hi.toList = []
      · exact between_ok lo hi w ⟨.inr k1, .inl e2, .inr (.inl e2)⟩ hs hs2
      · cases k2 : keyB hi.data.toList with
        | false =>
          have HB : Hid (BIs lo.data.toList hi.data.toList [] 5) := by unfold Hid BIs; rw [if_pos (.inr ⟨fun h => e2 (toList_nil.2 h), k2⟩)]; exact ⟨rfl, rfl⟩
          rw [k1] at HV1
          rw [k2] at HV2
          clear k1 k2
          have e4 : lo.toList.isEmpty = false := by simpa using e1
          have e3 : hi.toList.isEmpty = false := by simpa using e2
          go_enter Try.func12, Try.ntmps12
          go_wp2_with fail
          refine (HV1.out).mono ?_
          rintro e w' ⟨rfl, rfl⟩
          go_wp2_with fail
          refine (HV2.out).mono ?_
          rintro e w' ⟨rfl, rfl⟩
          go_wp2_with fail
          go_ret2
          exact ⟨Below.refl _ _, ⟨#[]⟩, _, rfl, HB.out⟩
        | true =>
          by_cases hlt : lo.data.toList < hi.data.toList
          · exact between_ok lo hi w ⟨.inr k1, .inr k2, .inr (.inr hlt)⟩ hs hs2
          · have HB : Hid (BIs lo.data.toList hi.data.toList [] 12) := by
              unfold Hid BIs
              rw [if_neg (by rintro (⟨_, h⟩ | ⟨_, h⟩); rw [k1] at h; cases h; rw [k2] at h; cases h), if_pos ⟨fun h => e1 (toList_nil.2 h), fun h => e2 (toList_nil.2 h), hlt⟩]
              exact ⟨rfl, rfl⟩
            have hbl : Op.bytesLess lo.toList hi.toList = false := by rw [less_iff]; exact decide_eq_false hlt
            rw [k1] at HV1
            rw [k2] at HV2
            clear k1 k2 hlt
            have e4 : lo.toList.isEmpty = false := by simpa using e1
            have e3 : hi.toList.isEmpty = false := by simpa using e2
            go_enter Try.func12, Try.ntmps12
            go_wp2_with fail
            refine (HV1.out).mono ?_
            rintro e w' ⟨rfl, rfl⟩
            go_wp2_with fail
            refine (HV2.out).mono ?_
            rintro e w' ⟨rfl, rfl⟩
            go_wp2_with fail
            go_ret2
            exact ⟨Below.refl _ _, ⟨#[]⟩, _, rfl, HB.out⟩
end Go.Proofs.Ytikabbpipdekfaa
