/-
  The reference's SameInts, SameCommit, SameCommits on equal arguments. No condition.
-/
import Derived.Test.YtnnclopojiegfaaWtP
namespace Go.Proofs.Ytnnclopojiegfaa
open Go.RowKit
set_option linter.unusedVariables false

set_option maxRecDepth 100000 in
set_option maxHeartbeats 1000000 in
theorem sameInts_any {w : World} {B n c1 c2 : Nat} {A1 A2 : Option Addr} {l : List Int} (hn : n ≤ 140737488351232) (h1 : Reads w B 1 A1 n (l.map (Value.int .i64))) (h2 : Reads w B 1 A2 n (l.map (Value.int .i64))) :
    Calls Try.prog 43 #[.slice A1 n c1, .slice A2 n c2] w fun e w' => e = .returned (.bool true) ∧ ∃ k, w' = w.drewN k := by
  have hl : l.length = n := by have := h1.1; simpa using this
  have H1 := Lib.hid h1
  have H2 := Lib.hid h2
  have HL := Lib.hid hl
  clear h1 h2 hl
  go_enter Try.func43, Try.ntmps43
  go_wp2_with fail
  go_loopw [5] (fun iv wr => ∃ (i : Nat), iv = .int .i64 (i : Int) ∧ i ≤ n ∧ ∃ k, wr = w.drewN k) (fun iv _ => ((n : Int) - intOf iv).toNat)
  case atStart => exact ⟨0, rfl, Nat.zero_le _, 0, rfl⟩
  case round =>
    obtain ⟨i, rfl, hi, k, rfl⟩ := hrel
    by_cases hlt : i < n
    · have dim : decide ((i : Int) < (n : Int)) = true := by simp; omega
      obtain ⟨x, hx⟩ : ∃ x, l[i]? = some x := ⟨l[i]'(by rw [HL.out]; exact hlt), List.getElem?_eq_getElem _⟩
      obtain ⟨b1, o1, u1, rfl, hb1, hu1, hc1⟩ := (H1.out).at1 hlt
      obtain ⟨b2, o2, u2, rfl, hb2, hu2, hc2⟩ := (H2.out).at1 hlt
      obtain rfl : u1 = .int .i64 x := by rw [List.getElem?_map, hx] at hu1; simpa using hu1.symm
      obtain rfl : u2 = .int .i64 x := by rw [List.getElem?_map, hx] at hu2; simpa using hu2.symm
      have hnle : ¬ n ≤ i := by omega
      clear hu1 hu2 hx hb1 hb2
      go_wp2_with fail
      go_quiet (fail)
      go_wp2_with fail
      go_roundw
      case rel => exact ⟨i + 1, by go_num, by omega, _, rfl⟩
      case measure => simp [intOf]; omega
    · have dim : decide ((i : Int) < (n : Int)) = false := by simp; omega
      go_wp2_with fail
      go_ret
      exact ⟨rfl, k, rfl⟩
end Go.Proofs.Ytnnclopojiegfaa
