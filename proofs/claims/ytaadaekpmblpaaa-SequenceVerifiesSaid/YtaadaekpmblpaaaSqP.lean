/-
  The reference's Proper; light, Light, Mod. No condition.
-/
import Derived.Test.YtaadaekpmblpaaaSqW
namespace Go.Proofs.Ytaadaekpmblpaaa
open Go.RowKit
set_option linter.unusedVariables false

set_option maxRecDepth 100000 in
set_option maxHeartbeats 400000 in
theorem refProper_any (A1 : Option Addr) (n1 c1 : Nat) (A2 : Option Addr) (n2 c2 : Nat) (A3 : Option Addr) (n3 c3 B : Nat) (drop add : List Int) (cost : List (List Int)) (w : World) (h : Three w B A1 n1 A2 n2 A3 n3 drop add cost) :
    Calls Try.prog 24 #[.slice A1 n1 c1, .slice A2 n2 c2, .slice A3 n3 c3] w fun e w' => e = .returned (.bool (properL drop add cost)) ∧ w = w' := by
  have e1 := h.d.len
  have e2 := h.a.len
  have e3 := h.c.len
  have HM := Lib.hid h.c
  have HLR := Lib.hid h.lr
  have W1 := Lib.hid (small_any A1 n1 c1 B drop 0 w h.d (by have := h.l1; unfold maxLen; omega))
  have W2 := Lib.hid (small_any A2 n2 c2 B add 0 w h.a (by have := h.l2; unfold maxLen; omega))
  have hl1 := h.l1
  have hl2 := h.l2
  have hl3 := h.l3
  obtain ⟨res, hres⟩ : ∃ b, properL drop add cost = b := ⟨_, rfl⟩
  rw [hres]
  rw [proper_split, e1, e2, e3] at hres
  obtain ⟨i1, hi1⟩ : ∃ b, inside 0 1048576 drop = b := ⟨_, rfl⟩
  obtain ⟨i2, hi2⟩ : ∃ b, inside 0 1048576 add = b := ⟨_, rfl⟩
  rw [hi1] at hres W1
  rw [hi2] at hres W2
  have HE := Lib.hid hres
  have HN3 := Lib.hid e3
  clear hi1 hi2 hres h e1 e2 e3
  by_cases h1 : 400 < n1
  · have hf : Hid (res = false) := by show res = false; rw [← HE.out]; simp; omega
    go_enter Try.func24, Try.ntmps24
    go_wp2_with fail
    go_ret
    exact ⟨by rw [hf.out]; rfl, rfl⟩
  by_cases h2 : 400 < n2
  · have hf : Hid (res = false) := by show res = false; rw [← HE.out]; simp; omega
    go_enter Try.func24, Try.ntmps24
    go_wp2_with fail
    go_ret
    exact ⟨by rw [hf.out]; rfl, rfl⟩
  by_cases h3 : n3 = n1
  rotate_left
  · have hf : Hid (res = false) := by show res = false; rw [← HE.out]; simp; omega
    have h3' : ((n3 : Int) != (n1 : Int)) = true := by simp; omega
    go_enter Try.func24, Try.ntmps24
    go_wp2_with fail
    go_ret
    exact ⟨by rw [hf.out]; rfl, rfl⟩
  subst h3
  cases i1 with
  | false =>
    have hf : Hid (res = false) := by show res = false; rw [← HE.out]; simp
    go_enter Try.func24, Try.ntmps24
    go_wp2_with fail
    refine (W1.out).mono ?_
    rintro e w1 ⟨rfl, rfl⟩
    go_wp2_with fail
    go_ret
    exact ⟨by rw [hf.out]; rfl, rfl⟩
  | true =>
  cases i2 with
  | false =>
    have hf : Hid (res = false) := by show res = false; rw [← HE.out]; simp
    go_enter Try.func24, Try.ntmps24
    go_wp2_with fail
    refine (W1.out).mono ?_
    rintro e w1 ⟨rfl, rfl⟩
    go_wp2_with fail
    refine (W2.out).mono ?_
    rintro e w1 ⟨rfl, rfl⟩
    go_wp2_with fail
    go_ret
    exact ⟨by rw [hf.out]; rfl, rfl⟩
  | true =>
  have HE2 : Hid (cost.all (costOk n2) = res) := by
    show cost.all (costOk n2) = res
    rw [← HE.out]
    simp [show n3 ≤ 400 by omega, show n2 ≤ 400 by omega]
  clear HE
  go_enter Try.func24, Try.ntmps24
  go_wp2_with fail
  refine (W1.out).mono ?_
  rintro e w1 ⟨rfl, rfl⟩
  go_wp2_with fail
  refine (W2.out).mono ?_
  rintro e w1 ⟨rfl, rfl⟩
  go_wp2_with fail
  go_loop [7] (fun i => ∃ j : Nat, j ≤ n3 ∧ i = .int .i64 (j : Int) ∧ Hid ((cost.take j).all (costOk n2) = true)) (fun i => n3 - (intOf i).toNat)
  case atStart => exact ⟨0, by omega, rfl, by show (cost.take 0).all _ = true; simp⟩
  case round =>
    obtain ⟨j, hj, rfl, HA⟩ := hrel
    by_cases hlt : j < n3
    · obtain ⟨b, off, A', n', c', r, rfl, hb, hx, hcell, hrow⟩ := HM.out.row hlt
      have HX := Lib.hid hx
      have hrl := hrow.len
      have hr9 := HLR.out r (List.mem_of_getElem? hx)
      have W3 := Lib.hid (small_any A' n' c' B r (-1) w hrow (by unfold maxLen; omega))
      have HRL := Lib.hid hrl
      obtain ⟨i3, hi3⟩ : ∃ b, inside (-1) 1048576 r = b := ⟨_, rfl⟩
      rw [hi3] at W3
      have HI3 := Lib.hid hi3
      clear hx hb hrow hi3 hrl
      by_cases h4 : n' = n2
      rotate_left
      · have h4' : ((n' : Int) != (n2 : Int)) = true := by simp; omega
        have hf : Hid (res = false) := by
          show res = false
          rw [← HE2.out]
          exact all_no HX.out (by unfold costOk; rw [HRL.out]; simp [h4])
        go_wp2_with fail
        go_ret
        exact ⟨by rw [hf.out]; rfl, rfl⟩
      subst h4
      cases i3 with
      | false =>
        have hf : Hid (res = false) := by
          show res = false
          rw [← HE2.out]
          exact all_no HX.out (by unfold costOk; rw [HI3.out]; simp)
        go_wp2_with fail
        refine (W3.out).mono ?_
        rintro e w1 ⟨rfl, rfl⟩
        go_wp2_with fail
        go_ret
        exact ⟨by rw [hf.out]; rfl, rfl⟩
      | true =>
        have HS : Hid ((cost.take (j + 1)).all (costOk n') = true) := all_take_step HX.out (by unfold costOk; rw [HI3.out, HRL.out]; simp) HA.out
        go_wp2_with fail
        refine (W3.out).mono ?_
        rintro e w1 ⟨rfl, rfl⟩
        go_wp2_with fail
        go_round
        case rel => exact ⟨j + 1, by omega, by go_num, HS⟩
        case measure => simp [intOf]; omega
    · have hf : Hid (res = true) := by
        show res = true
        rw [← HE2.out, ← HA.out, List.take_of_length_le (by rw [HN3.out]; omega)]
      go_wp2_with fail
      go_ret
      exact ⟨by rw [hf.out]; rfl, rfl⟩

def lightL (drop add : List Int) (cost : List (List Int)) : Bool := decide (drop.length ≤ 40) && decide (add.length ≤ 40) && decide (cost.length ≤ 60) && cost.all fun r => decide (r.length ≤ 60)

set_option maxRecDepth 100000 in
set_option maxHeartbeats 400000 in
theorem light_any (A1 : Option Addr) (n1 c1 : Nat) (A2 : Option Addr) (n2 c2 : Nat) (A3 : Option Addr) (n3 c3 B : Nat) (drop add : List Int) (cost : List (List Int)) (w : World) (e1 : drop.length = n1) (e2 : add.length = n2) (hM : Mat w B A3 n3 cost) :
    Calls Try.prog 9 #[.slice A1 n1 c1, .slice A2 n2 c2, .slice A3 n3 c3] w fun e w' => e = .returned (.bool (lightL drop add cost)) ∧ w = w' := by
  have e3 := hM.len
  have HM := Lib.hid hM
  obtain ⟨res, hres⟩ : ∃ b, lightL drop add cost = b := ⟨_, rfl⟩
  rw [hres]
  unfold lightL at hres
  rw [e1, e2, e3] at hres
  have HE := Lib.hid hres
  have HN3 := Lib.hid e3
  clear hres hM e1 e2 e3
  by_cases h1 : 40 < n1
  · have hf : Hid (res = false) := by show res = false; rw [← HE.out]; simp; omega
    go_enter Try.func9, Try.ntmps9
    go_wp2_with fail
    go_ret
    exact ⟨by rw [hf.out]; rfl, rfl⟩
  by_cases h2 : 40 < n2
  · have hf : Hid (res = false) := by show res = false; rw [← HE.out]; simp; omega
    go_enter Try.func9, Try.ntmps9
    go_wp2_with fail
    go_ret
    exact ⟨by rw [hf.out]; rfl, rfl⟩
  by_cases h3 : 60 < n3
  · have hf : Hid (res = false) := by show res = false; rw [← HE.out]; simp; omega
    go_enter Try.func9, Try.ntmps9
    go_wp2_with fail
    go_ret
    exact ⟨by rw [hf.out]; rfl, rfl⟩
  have HE2 : Hid ((cost.all fun r => decide (r.length ≤ 60)) = res) := by
    show (cost.all fun r => decide (r.length ≤ 60)) = res
    rw [← HE.out]
    simp [show n1 ≤ 40 by omega, show n2 ≤ 40 by omega, show n3 ≤ 60 by omega]
  clear HE
  go_enter Try.func9, Try.ntmps9
  go_wp2_with fail
  go_loop [7] (fun i => ∃ j : Nat, j ≤ n3 ∧ i = .int .i64 (j : Int) ∧ Hid (((cost.take j).all fun r => decide (r.length ≤ 60)) = true)) (fun i => n3 - (intOf i).toNat)
  case atStart => exact ⟨0, by omega, rfl, by show (cost.take 0).all _ = true; simp⟩
  case round =>
    obtain ⟨j, hj, rfl, HA⟩ := hrel
    by_cases hlt : j < n3
    · obtain ⟨b, off, A', n', c', r, rfl, hb, hx, hcell, hrow⟩ := HM.out.row hlt
      have HX := Lib.hid hx
      have HRL := Lib.hid hrow.len
      clear hx hb hrow
      by_cases h4 : 60 < n'
      · have hf : Hid (res = false) := by
          show res = false
          rw [← HE2.out]
          exact all_no HX.out (by rw [HRL.out]; simp; omega)
        go_wp2_with fail
        go_ret
        exact ⟨by rw [hf.out]; rfl, rfl⟩
      · have HS : Hid (((cost.take (j + 1)).all fun r => decide (r.length ≤ 60)) = true) := all_take_step HX.out (by rw [HRL.out]; simp; omega) HA.out
        go_wp2_with fail
        go_round
        case rel => exact ⟨j + 1, by omega, by go_num, HS⟩
        case measure => simp [intOf]; omega
    · have hf : Hid (res = true) := by
        show res = true
        rw [← HE2.out, ← HA.out, List.take_of_length_le (by rw [HN3.out]; omega)]
      go_wp2_with fail
      go_ret
      exact ⟨by rw [hf.out]; rfl, rfl⟩

set_option maxRecDepth 100000 in
set_option maxHeartbeats 400000 in
theorem llight_any (A : Option Addr) (n c : Nat) (w : World) (hn : n ≤ maxLen) :
    Calls Try.prog 14 #[.slice A n c] w fun e w' => e = .returned (.bool (decide (n ≤ 120))) ∧ w = w' := by
  unfold maxLen at hn
  by_cases h : n ≤ 120
  all_goals
    go_enter Try.func14, Try.ntmps14
    go_wp2_with fail
    go_ret
    simp [h]
    try omega

end Go.Proofs.Ytaadaekpmblpaaa
