/-
  Which matrices are small; which numbers are a matrix. No condition.
-/
import Derived.Test.YtgmhinmakomabaaAsX
namespace Go.Proofs.Ytgmhinmakomabaa
open Go.RowKit
set_option linter.unusedVariables false

def lightB (m : List (List Int)) : Bool := decide (m.length ≤ 60) && m.all fun r => decide (r.length ≤ 60)

set_option maxRecDepth 100000 in
set_option maxHeartbeats 400000 in
theorem light_any (A : Option Addr) (n c B : Nat) (m : List (List Int)) (w : World) (hM : Mat w B A n m) :
    Calls Try.prog 8 #[.slice A n c] w fun e w' => e = .returned (.bool (lightB m)) ∧ w = w' := by
  have e3 := hM.len
  have HM := Lib.hid hM
  obtain ⟨res, hres⟩ : ∃ b, lightB m = b := ⟨_, rfl⟩
  rw [hres]
  unfold lightB at hres
  rw [e3] at hres
  have HE := Lib.hid hres
  have HN3 := Lib.hid e3
  clear hres hM e3
  by_cases h3 : 60 < n
  · have hf : Hid (res = false) := by show res = false; rw [← HE.out]; simp; omega
    go_enter Try.func8, Try.ntmps8
    go_wp2_with fail
    go_ret
    exact ⟨by rw [hf.out]; rfl, rfl⟩
  have HE2 : Hid ((m.all fun r => decide (r.length ≤ 60)) = res) := by
    show (m.all fun r => decide (r.length ≤ 60)) = res
    rw [← HE.out]
    simp [show n ≤ 60 by omega]
  clear HE
  go_enter Try.func8, Try.ntmps8
  go_wp2_with fail
  go_loop [3] (fun i => ∃ j : Nat, j ≤ n ∧ i = .int .i64 (j : Int) ∧ Hid (((m.take j).all fun r => decide (r.length ≤ 60)) = true)) (fun i => n - (intOf i).toNat)
  case atStart => exact ⟨0, by omega, rfl, by show (m.take 0).all _ = true; simp⟩
  case round =>
    obtain ⟨j, hj, rfl, HA⟩ := hrel
    by_cases hlt : j < n
    · obtain ⟨b, off, A', n', c', r, rfl, hb, hx, hcell, hrow⟩ := HM.out.row hlt
      have HX := Lib.hid hx
      have HRL := Lib.hid hrow.len
      clear hx hb hrow
      by_cases h4 : 60 < n'
      · have hf : Hid (res = false) := by
          show res = false
          rw [← HE2.out]
          exact all_no HX.out (by rw [HRL.out]; simp; omega)
        go_wp2_with fail
        go_ret
        exact ⟨by rw [hf.out]; rfl, rfl⟩
      · have HS : Hid (((m.take (j + 1)).all fun r => decide (r.length ≤ 60)) = true) := all_take_step HX.out (by rw [HRL.out]; simp; omega) HA.out
        go_wp2_with fail
        go_round
        case rel => exact ⟨j + 1, by omega, by go_num, HS⟩
        case measure => simp [intOf]; omega
    · have hf : Hid (res = true) := by
        show res = true
        rw [← HE2.out, ← HA.out, List.take_of_length_le (by rw [HN3.out]; omega)]
      go_wp2_with fail
      go_ret
      exact ⟨by rw [hf.out]; rfl, rfl⟩

theorem rowOk_no1 {n : Nat} {r : List Int} (h : r.length ≠ n) : rowOk n r = false := by unfold rowOk; simp [h]
theorem rowOk_no2 {n k : Nat} {r : List Int} {x : Int} (h : r[k]? = some x) (hx : x < 0 ∨ 1048576 < x) : rowOk n r = false := by
  unfold rowOk
  rw [show inside 0 1048576 r = false from all_no h (by simp; omega)]
  simp

set_option maxRecDepth 100000 in
set_option maxHeartbeats 1000000 in
theorem matrix_any (A : Option Addr) (n c B : Nat) (m : List (List Int)) (w : World) (hM : Mat w B A n m) :
    Calls Try.prog 20 #[.slice A n c] w fun e w' => e = .returned (.bool (matB m)) ∧ w = w' := by
  have e3 := hM.len
  have HM := Lib.hid hM
  obtain ⟨res, hres⟩ : ∃ b, matB m = b := ⟨_, rfl⟩
  rw [hres]
  unfold matB at hres
  rw [e3] at hres
  have HE := Lib.hid hres
  have HN3 := Lib.hid e3
  clear hres hM e3
  by_cases h3 : 40 < n
  · have hf : Hid (res = false) := by show res = false; rw [← HE.out]; simp; omega
    go_enter Try.func20, Try.ntmps20
    go_wp2_with fail
    go_ret
    exact ⟨by rw [hf.out]; rfl, rfl⟩
  have HE2 : Hid (m.all (rowOk n) = res) := by
    show m.all (rowOk n) = res
    rw [← HE.out]
    simp [show n ≤ 40 by omega]
  clear HE
  go_enter Try.func20, Try.ntmps20
  go_wp2_with fail
  go_loop [12] (fun i => ∃ j : Nat, j ≤ n ∧ i = .int .i64 (j : Int) ∧ Hid ((m.take j).all (rowOk n) = true)) (fun i => n - (intOf i).toNat)
  case atStart => exact ⟨0, by omega, rfl, by show (m.take 0).all _ = true; simp⟩
  case round =>
    obtain ⟨j, hj, rfl, HA⟩ := hrel
    by_cases hlt : j < n
    rotate_left
    · have hf : Hid (res = true) := by
        show res = true
        rw [← HE2.out, ← HA.out, List.take_of_length_le (by rw [HN3.out]; omega)]
      go_wp2_with fail
      go_ret
      exact ⟨by rw [hf.out]; rfl, rfl⟩
    obtain ⟨b, off, A', n', c', r, rfl, hb, hx, hcell, hrow⟩ := HM.out.row hlt
    have HX := Lib.hid hx
    have HRL := Lib.hid hrow.len
    have HROW := Lib.hid hrow
    clear hx hb hrow
    by_cases h4 : n' = n
    rotate_left
    · have h4' : ((n' : Int) != (n : Int)) = true := by simp; omega
      have hf : Hid (res = false) := by
        show res = false
        rw [← HE2.out]
        exact all_no HX.out (rowOk_no1 (by rw [HRL.out]; exact h4))
      go_wp2_with fail
      go_ret
      exact ⟨by rw [hf.out]; rfl, rfl⟩
    subst h4
    go_wp2_with fail
    go_loop [23] (fun i => ∃ k : Nat, k ≤ n' ∧ i = .int .i64 (k : Int) ∧ Hid (inside 0 1048576 (r.take k) = true)) (fun i => n' - (intOf i).toNat)
    case atStart => exact ⟨0, by omega, rfl, by show inside _ _ (r.take 0) = true; simp [inside]⟩
    case round =>
      obtain ⟨k, hk, rfl, HK⟩ := hrel
      by_cases hkt : k < n'
      · obtain ⟨bb, oo, xx, rfl, hbb, hxx, hcc⟩ := Ints.at_ HROW.out hkt
        have HXX := Lib.hid hxx
        clear hxx hbb
        by_cases g1 : xx < 0
        · have hf : Hid (res = false) := by
            show res = false
            rw [← HE2.out]
            exact all_no HX.out (rowOk_no2 HXX.out (.inl g1))
          go_wp2_with fail
          go_ret
          exact ⟨by rw [hf.out]; rfl, rfl⟩
        by_cases g2 : 1048576 < xx
        · have hf : Hid (res = false) := by
            show res = false
            rw [← HE2.out]
            exact all_no HX.out (rowOk_no2 HXX.out (.inr g2))
          go_wp2_with fail
          go_ret
          exact ⟨by rw [hf.out]; rfl, rfl⟩
        have HS : Hid (inside 0 1048576 (r.take (k + 1)) = true) := all_take_step HXX.out (by simp; omega) HK.out
        go_wp2_with fail
        go_round
        case rel => exact ⟨k + 1, by omega, by go_num, HS⟩
        case measure => simp [intOf]; omega
      · have hr : inside 0 1048576 r = true := by rw [← HK.out, List.take_of_length_le (by rw [HRL.out]; omega)]
        have HS : Hid ((m.take (j + 1)).all (rowOk n') = true) := all_take_step HX.out (by unfold rowOk; rw [HRL.out, hr]; simp) HA.out
        clear hr
        go_wp2_with fail
        go_round
        case rel => exact ⟨j + 1, by omega, by go_num, HS⟩
        case measure => simp [intOf]; omega

set_option maxRecDepth 100000 in
set_option maxHeartbeats 1000000 in
theorem refMatrix_any (A : Option Addr) (n c B : Nat) (m : List (List Int)) (w : World) (hM : Mat w B A n m) :
    Calls Try.prog 24 #[.slice A n c] w fun e w' => e = .returned (.bool (matB m)) ∧ w = w' := by
  have e3 := hM.len
  have HM := Lib.hid hM
  obtain ⟨res, hres⟩ : ∃ b, matB m = b := ⟨_, rfl⟩
  rw [hres]
  unfold matB at hres
  rw [e3] at hres
  have HE := Lib.hid hres
  have HN3 := Lib.hid e3
  clear hres hM e3
  by_cases h3 : 40 < n
  · have hf : Hid (res = false) := by show res = false; rw [← HE.out]; simp; omega
    go_enter Try.func24, Try.ntmps24
    go_wp2_with fail
    go_ret
    exact ⟨by rw [hf.out]; rfl, rfl⟩
  have HE2 : Hid (m.all (rowOk n) = res) := by
    show m.all (rowOk n) = res
    rw [← HE.out]
    simp [show n ≤ 40 by omega]
  clear HE
  go_enter Try.func24, Try.ntmps24
  go_wp2_with fail
  go_loop [3] (fun i => ∃ j : Nat, j ≤ n ∧ i = .int .i64 (j : Int) ∧ Hid ((m.take j).all (rowOk n) = true)) (fun i => n - (intOf i).toNat)
  case atStart => exact ⟨0, by omega, rfl, by show (m.take 0).all _ = true; simp⟩
  case round =>
    obtain ⟨j, hj, rfl, HA⟩ := hrel
    by_cases hlt : j < n
    rotate_left
    · have hf : Hid (res = true) := by
        show res = true
        rw [← HE2.out, ← HA.out, List.take_of_length_le (by rw [HN3.out]; omega)]
      go_wp2_with fail
      go_ret
      exact ⟨by rw [hf.out]; rfl, rfl⟩
    obtain ⟨b, off, A', n', c', r, rfl, hb, hx, hcell, hrow⟩ := HM.out.row hlt
    have HX := Lib.hid hx
    have HRL := Lib.hid hrow.len
    have HROW := Lib.hid hrow
    clear hx hb hrow
    by_cases h4 : n' = n
    rotate_left
    · have h4' : ((n' : Int) != (n : Int)) = true := by simp; omega
      have hf : Hid (res = false) := by
        show res = false
        rw [← HE2.out]
        exact all_no HX.out (rowOk_no1 (by rw [HRL.out]; exact h4))
      go_wp2_with fail
      go_ret
      exact ⟨by rw [hf.out]; rfl, rfl⟩
    subst h4
    go_wp2_with fail
    go_loop [4] (fun i => ∃ k : Nat, k ≤ n' ∧ i = .int .i64 (k : Int) ∧ Hid (inside 0 1048576 (r.take k) = true)) (fun i => n' - (intOf i).toNat)
    case atStart => exact ⟨0, by omega, rfl, by show inside _ _ (r.take 0) = true; simp [inside]⟩
    case round =>
      obtain ⟨k, hk, rfl, HK⟩ := hrel
      by_cases hkt : k < n'
      · obtain ⟨bb, oo, xx, rfl, hbb, hxx, hcc⟩ := Ints.at_ HROW.out hkt
        have HXX := Lib.hid hxx
        clear hxx hbb
        by_cases g1 : xx < 0
        · have hf : Hid (res = false) := by
            show res = false
            rw [← HE2.out]
            exact all_no HX.out (rowOk_no2 HXX.out (.inl g1))
          go_wp2_with fail
          go_ret
          exact ⟨by rw [hf.out]; rfl, rfl⟩
        by_cases g2 : 1048576 < xx
        · have hf : Hid (res = false) := by
            show res = false
            rw [← HE2.out]
            exact all_no HX.out (rowOk_no2 HXX.out (.inr g2))
          go_wp2_with fail
          go_ret
          exact ⟨by rw [hf.out]; rfl, rfl⟩
        have HS : Hid (inside 0 1048576 (r.take (k + 1)) = true) := all_take_step HXX.out (by simp; omega) HK.out
        go_wp2_with fail
        go_round
        case rel => exact ⟨k + 1, by omega, by go_num, HS⟩
        case measure => simp [intOf]; omega
      · have hr : inside 0 1048576 r = true := by rw [← HK.out, List.take_of_length_le (by rw [HRL.out]; omega)]
        have HS : Hid ((m.take (j + 1)).all (rowOk n') = true) := all_take_step HX.out (by unfold rowOk; rw [HRL.out, hr]; simp) HA.out
        clear hr
        go_wp2_with fail
        go_round
        case rel => exact ⟨j + 1, by omega, by go_num, HS⟩
        case measure => simp [intOf]; omega
end Go.Proofs.Ytgmhinmakomabaa
