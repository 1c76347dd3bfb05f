/-
  Which texts are keys: the program's Valid, and the reference's. No condition.
-/
import Derived.Test.YtikabbpipdekfaaRows
import Derived.Test.YtikabbpipdekfaaPsM
import Derived.Test.YtikabbpipdekfaaTail
import Derived.Test.YtikabbpipdekfaaFut
import Derived.Test.YtikabbpipdekfaaShape
import Derived.WalkKit
import Derived.WalkSpells
import Derived.WalkLawsBesides
import Derived.Outline
import Derived.BigQuiet
import Derived.KernelRfl
import Derived.Deep.DeepCutAuto
import Derived.Deep.RegionHeld3
import Derived.Deep.RegionLaw
namespace Go.Proofs.Ytikabbpipdekfaa
open Go.RowKit
set_option linter.unusedVariables false

def letB (c : UInt8) : Bool := decide (97 ≤ c.toNat) && decide (c.toNat ≤ 122)
def keyB (l : List UInt8) : Bool := decide (1 ≤ l.length) && decide (l.length ≤ 60) && l.all letB && decide (l.getLast? ≠ some 97)
theorem letB_iff {c : UInt8} : letB c = true ↔ Let c := by unfold letB Let; simp
theorem keyB_iff {l : List UInt8} : keyB l = true ↔ Key l := by
  unfold keyB
  simp only [Bool.and_eq_true, decide_eq_true_eq, List.all_eq_true]
  constructor
  · rintro ⟨⟨⟨h1, h2⟩, h3⟩, h4⟩
    exact ⟨fun e => by subst e; simp at h1, h2, fun c hc => letB_iff.1 (h3 c hc), h4⟩
  · intro h
    refine ⟨⟨⟨?_, h.len⟩, fun c hc => letB_iff.2 (h.lets c hc)⟩, h.fin⟩
    have := h.pos
    cases l with
    | nil => exact absurd rfl this
    | cons => simp
theorem get_data (s : ByteArray) (k : Nat) (h : k < s.size) : s.data.toList[k]? = some s[k] := by
  have hk : k < s.data.toList.length := by simpa using h
  rw [List.getElem?_eq_getElem hk]
  rfl
theorem size_data (s : ByteArray) : s.data.toList.length = s.size := by simp
/-- the last byte -/
theorem last_data (s : ByteArray) (h : 0 < s.size) : s.data.toList.getLast? = some (s[s.size - 1]'(by omega)) := by
  rw [List.getLast?_eq_getElem?, size_data, get_data s (s.size - 1) (by omega)]
theorem keyB_small {s : ByteArray} (h : s.size < 1) : keyB s.data.toList = false := by unfold keyB; simp [show s.size = 0 by omega]
theorem keyB_big {s : ByteArray} (h : 60 < s.size) : keyB s.data.toList = false := by unfold keyB; simp; omega
theorem keyB_bad {s : ByteArray} {k : Nat} (hk : k < s.size) (h : letB s[k] = false) : keyB s.data.toList = false := by
  cases hh : keyB s.data.toList with
  | false => rfl
  | true =>
    have := (keyB_iff.1 hh).lets s[k] (List.mem_of_getElem? (get_data s k hk))
    rw [letB_iff.2 this] at h
    cases h
theorem keyB_last {s : ByteArray} (h0 : 0 < s.size) (h : s[s.size - 1]'(by omega) = 97) : keyB s.data.toList = false := by
  unfold keyB
  rw [last_data s h0, h]
  simp
theorem keyB_yes {s : ByteArray} (h0 : 1 ≤ s.size) (h6 : s.size ≤ 60) (h : ∀ k (hk : k < s.size), letB s[k] = true) (hl : s[s.size - 1]'(by omega) ≠ 97) : keyB s.data.toList = true := by
  refine keyB_iff.2 ⟨fun e => by have := size_data s; rw [e] at this; simp at this; omega, by rw [size_data]; exact h6, fun c hc => ?_, ?_⟩
  · obtain ⟨k, hk⟩ := List.mem_iff_getElem?.1 hc
    have hkl := (List.getElem?_eq_some_iff.1 hk).1
    rw [size_data] at hkl
    rw [get_data s k hkl] at hk
    injection hk with hk
    subst hk
    exact letB_iff.1 (h k hkl)
  · unfold Fin
    rw [last_data s h0]
    intro e
    injection e with e
    exact hl e
theorem let_ok {c : UInt8} (h : letB c = true) : ((c.toNat : Int) < 97) = False ∧ (122 < (c.toNat : Int)) = False := by
  have := letB_iff.1 h
  unfold Let at this
  constructor <;> (simp; omega)

def VldPost (w : World) (s : ByteArray) (e : Ending) (w' : World) : Prop := e = .returned (.bool (keyB s.data.toList)) ∧ w = w'

set_option maxRecDepth 100000 in
set_option maxHeartbeats 800000 in
theorem valid_any (s : ByteArray) (w : World) (hs : s.size ≤ 140737488351232) : Calls Try.prog 14 #[.string s] w (VldPost w s) := by
  by_cases h1 : s.size < 1
  · have HE : Hid (keyB s.data.toList = false) := keyB_small h1
    have d1 : decide ((s.size : Int) < 1) = true := decide_eq_true (by omega)
    go_enter Try.func14, Try.ntmps14
    go_wp2_with fail
    go_ret
    exact ⟨by rw [HE.out]; rfl, rfl⟩
  have d1 : decide ((s.size : Int) < 1) = false := decide_eq_false (by omega)
  by_cases h2 : 60 < s.size
  · have HE : Hid (keyB s.data.toList = false) := keyB_big h2
    have d2 : decide (60 < (s.size : Int)) = true := by simp; omega
    go_enter Try.func14, Try.ntmps14
    go_wp2_with fail
    go_ret
    exact ⟨by rw [HE.out]; rfl, rfl⟩
  have d2 : decide (60 < (s.size : Int)) = false := by simp; omega
  go_enter Try.func14, Try.ntmps14
  go_wp2_with fail
  go_loop [14] (fun i => ∃ k : Nat, k ≤ s.size ∧ i = .int .i64 (k : Int) ∧ Hid (∀ j (hj : j < s.size), j < k → letB s[j] = true)) (fun i => s.size - (intOf i).toNat)
  case atStart => exact ⟨0, Nat.zero_le _, rfl, fun j hj h => absurd h (by omega)⟩
  case round =>
    obtain ⟨k, hk, rfl, HA⟩ := hrel
    by_cases hlt : k < s.size
    · by_cases hb : letB s[k] = true
      · have HN : Hid (∀ j (hj : j < s.size), j < k + 1 → letB s[j] = true) := fun j hj h => by
          rcases Nat.lt_or_ge j k with h' | h'
          · exact HA.out j hj h'
          · obtain rfl : j = k := by omega
            exact hb
        have hl := letB_iff.1 hb
        have e1 : decide ((s[k].toNat : Int) < 97) = false := decide_eq_false (by have := hl.1; omega)
        have e2 : decide (122 < (s[k].toNat : Int)) = false := decide_eq_false (by have := hl.2; omega)
        clear hb hl
        go_wp2_with fail
        go_round
        case rel => exact ⟨k + 1, by omega, by go_num, HN⟩
        case measure => simp [intOf]; omega
      · have HE : Hid (keyB s.data.toList = false) := keyB_bad hlt (by simpa using hb)
        by_cases hc : s[k].toNat < 97
        · have e1 : decide ((s[k].toNat : Int) < 97) = true := decide_eq_true (by omega)
          clear hb hc
          go_wp2_with fail
          go_ret
          exact ⟨by rw [HE.out]; rfl, rfl⟩
        · have hc2 : 122 < s[k].toNat := by
            rcases Nat.lt_or_ge 122 s[k].toNat with h | h
            · exact h
            · exact absurd (letB_iff.2 ⟨by omega, h⟩) hb
          have e1 : decide ((s[k].toNat : Int) < 97) = false := decide_eq_false (by omega)
          have e2 : decide (122 < (s[k].toNat : Int)) = true := decide_eq_true (by omega)
          clear hb hc hc2
          go_wp2_with fail
          go_ret
          exact ⟨by rw [HE.out]; rfl, rfl⟩
    · by_cases hz : s[s.size - 1]'(by omega) = 97
      · have HE : Hid (keyB s.data.toList = false) := keyB_last (by omega) hz
        have hz' : (s[s.size - 1]'(by omega)).toNat = 97 := by rw [hz]; rfl
        have e1 : (((s[s.size - 1]'(by omega)).toNat : Int) != 97) = false := by rw [hz']; rfl
        clear hz hz'
        go_wp2_with fail
        go_ret
        exact ⟨by rw [HE.out]; rfl, rfl⟩
      · have HE : Hid (keyB s.data.toList = true) := keyB_yes (by omega) (by omega) (fun j hj => HA.out j hj (by omega)) hz
        have hz' : (s[s.size - 1]'(by omega)).toNat ≠ 97 := fun e => hz (UInt8.toNat_inj.1 e)
        have e1 : (((s[s.size - 1]'(by omega)).toNat : Int) != 97) = true := by rw [bne_iff_ne]; omega
        clear hz hz'
        go_wp2_with fail
        go_ret
        exact ⟨by rw [HE.out]; rfl, rfl⟩

set_option maxRecDepth 100000 in
set_option maxHeartbeats 800000 in
theorem rvalid_any (s : ByteArray) (w : World) (hs : s.size ≤ 140737488351232) : Calls Try.prog 15 #[.string s] w (VldPost w s) := by
  by_cases h1 : s.size < 1
  · have HE : Hid (keyB s.data.toList = false) := keyB_small h1
    have d1 : decide ((s.size : Int) < 1) = true := decide_eq_true (by omega)
    go_enter Try.func15, Try.ntmps15
    go_wp2_with fail
    go_ret
    exact ⟨by rw [HE.out]; rfl, rfl⟩
  have d1 : decide ((s.size : Int) < 1) = false := decide_eq_false (by omega)
  by_cases h2 : 60 < s.size
  · have HE : Hid (keyB s.data.toList = false) := keyB_big h2
    have d2 : decide (60 < (s.size : Int)) = true := by simp; omega
    go_enter Try.func15, Try.ntmps15
    go_wp2_with fail
    go_ret
    exact ⟨by rw [HE.out]; rfl, rfl⟩
  have d2 : decide (60 < (s.size : Int)) = false := by simp; omega
  by_cases hz : s[s.size - 1]'(by omega) = 97
  · have HE : Hid (keyB s.data.toList = false) := keyB_last (by omega) hz
    have hz' : (s[s.size - 1]'(by omega)).toNat = 97 := by rw [hz]; rfl
    have e1 : (((s[s.size - 1]'(by omega)).toNat : Int) == 97) = true := by rw [hz']; rfl
    clear hz hz'
    go_enter Try.func15, Try.ntmps15
    go_wp2_with fail
    go_ret
    exact ⟨by rw [HE.out]; rfl, rfl⟩
  have HZ := Lib.hid hz
  have hz' : (s[s.size - 1]'(by omega)).toNat ≠ 97 := fun e => hz (UInt8.toNat_inj.1 e)
  have e1 : (((s[s.size - 1]'(by omega)).toNat : Int) == 97) = false := by rw [beq_eq_false_iff_ne]; omega
  clear hz hz'
  go_enter Try.func15, Try.ntmps15
  go_wp2_with fail
  go_loop [3] (fun i => ∃ k : Nat, k ≤ s.size ∧ i = .int .i64 (k : Int) ∧ Hid (∀ j (hj : j < s.size), j < k → letB s[j] = true)) (fun i => s.size - (intOf i).toNat)
  case atStart => exact ⟨0, Nat.zero_le _, rfl, fun j hj h => absurd h (by omega)⟩
  case round =>
    obtain ⟨k, hk, rfl, HA⟩ := hrel
    by_cases hlt : k < s.size
    · by_cases hb : letB s[k] = true
      · have HN : Hid (∀ j (hj : j < s.size), j < k + 1 → letB s[j] = true) := fun j hj h => by
          rcases Nat.lt_or_ge j k with h' | h'
          · exact HA.out j hj h'
          · obtain rfl : j = k := by omega
            exact hb
        have hl := letB_iff.1 hb
        have e3 : decide ((s[k].toNat : Int) < 97) = false := decide_eq_false (by have := hl.1; omega)
        have e2 : decide (122 < (s[k].toNat : Int)) = false := decide_eq_false (by have := hl.2; omega)
        clear hb hl
        go_wp2_with fail
        go_round
        case rel => exact ⟨k + 1, by omega, by go_num, HN⟩
        case measure => simp [intOf]; omega
      · have HE : Hid (keyB s.data.toList = false) := keyB_bad hlt (by simpa using hb)
        by_cases hc : s[k].toNat < 97
        · have e3 : decide ((s[k].toNat : Int) < 97) = true := decide_eq_true (by omega)
          clear hb hc
          go_wp2_with fail
          go_ret
          exact ⟨by rw [HE.out]; rfl, rfl⟩
        · have hc2 : 122 < s[k].toNat := by
            rcases Nat.lt_or_ge 122 s[k].toNat with h | h
            · exact h
            · exact absurd (letB_iff.2 ⟨by omega, h⟩) hb
          have e3 : decide ((s[k].toNat : Int) < 97) = false := decide_eq_false (by omega)
          have e2 : decide (122 < (s[k].toNat : Int)) = true := decide_eq_true (by omega)
          clear hb hc hc2
          go_wp2_with fail
          go_ret
          exact ⟨by rw [HE.out]; rfl, rfl⟩
    · have HE : Hid (keyB s.data.toList = true) := keyB_yes (by omega) (by omega) (fun j hj => HA.out j hj (by omega)) HZ.out
      go_wp2_with fail
      go_ret
      exact ⟨by rw [HE.out]; rfl, rfl⟩
end Go.Proofs.Ytikabbpipdekfaa
