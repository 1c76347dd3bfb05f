/-
  Lists of texts and of numbers compared. No condition.
-/
import Derived.Test.YtdabmjcpiblofaaDoorPkLa
import Derived.WalkSpells
import Derived.WalkLawsBesides
import Derived.BigQuiet
namespace Go.Proofs.YtdabmjcpiblofaaDoor
open Go.RowKit
set_option linter.unusedVariables false

def SamePost (w : World) (b : Bool) (e : Ending) (w' : World) : Prop := e = .returned (.bool b) ∧ ∃ q, w' = w.drewN q
theorem take_eq_succ {α : Type} {a b : List α} {i : Nat} {x : α} (h : a.take i = b.take i) (ha : a[i]? = some x) (hb : b[i]? = some x) : a.take (i + 1) = b.take (i + 1) := by
  rw [List.take_add_one, List.take_add_one, h, ha, hb]
theorem ne_at {α : Type} {a b : List α} {i : Nat} {x y : α} (ha : a[i]? = some x) (hb : b[i]? = some y) (hne : x ≠ y) : a ≠ b := fun e => by
  subst e
  rw [ha] at hb
  injection hb with hb
  exact hne hb
theorem ba_eq {a b : ByteArray} (h : a.toList = b.toList) : a = b := by
  rw [ByteArray.toList_eq, ByteArray.toList_eq] at h
  cases a; cases b
  simpa using h

set_option maxRecDepth 100000 in
set_option maxHeartbeats 800000 in
theorem texts_any (A A' : Option Addr) (c c' B B' : Nat) (a b : List ByteArray) (w : World) (hr : Reads w B 1 A a.length (a.map Value.string)) (hr' : Reads w B' 1 A' b.length (b.map Value.string)) (ha : a.length ≤ 140737488351232) (hb : b.length ≤ 140737488351232) :
    Calls Tryd.prog 48 #[.slice A a.length c, .slice A' b.length c'] w (SamePost w (decide (a = b))) := by
  have HR := Lib.hid hr
  have HR' := Lib.hid hr'
  clear hr hr'
  by_cases hl : a.length = b.length
  rotate_left
  · have HE : Hid (decide (a = b) = false) := by unfold Hid; exact decide_eq_false (fun e => hl (by rw [e]))
    have d1 : ((a.length : Int) != (b.length : Int)) = true := by simp; omega
    have d2 : ((a.length : Int) == (b.length : Int)) = false := by simp; omega
    have d3 : (a.length == b.length) = false := by simp; omega
    have d4 : (a.length != b.length) = true := by simp; omega
    clear hl
    go_enter Tryd.func48, Tryd.ntmps48
    go_wp2_with fail
    go_ret
    exact ⟨by rw [HE.out]; rfl, 0, rfl⟩
  · obtain ⟨n, hn⟩ : ∃ n, a.length = n := ⟨_, rfl⟩
    have hn' : b.length = n := by omega
    rw [hn] at HR ha ⊢
    rw [hn'] at HR' hb ⊢
    have HN := Lib.hid hn
    have HN' := Lib.hid hn'
    clear hn hn' hl
    go_enter Tryd.func48, Tryd.ntmps48
    go_wp2_with fail
    go_loopw [5] (fun i wr => ∃ j q : Nat, j ≤ n ∧ i = .int .i64 (j : Int) ∧ Hid (a.take j = b.take j) ∧ wr = w.drewN q) (fun i _ => n - (intOf i).toNat)
    case atStart => exact ⟨0, 0, by omega, rfl, rfl, rfl⟩
    case round =>
      obtain ⟨j, q, hj, rfl, HT, rfl⟩ := hrel
      by_cases hlt : j < n
      · obtain ⟨x, hx⟩ : ∃ x, a[j]? = some x := ⟨_, List.getElem?_eq_getElem (by rw [HN.out]; exact hlt)⟩
        obtain ⟨y, hy⟩ : ∃ y, b[j]? = some y := ⟨_, List.getElem?_eq_getElem (by rw [HN'.out]; exact hlt)⟩
        obtain ⟨b1, o1, u1, rfl, -, hu1, g1⟩ := HR.out.at1 hlt
        obtain rfl : u1 = Value.string x := by rw [List.getElem?_map, hx] at hu1; simpa using hu1.symm
        obtain ⟨b2, o2, u2, rfl, -, hu2, g2⟩ := HR'.out.at1 hlt
        obtain rfl : u2 = Value.string y := by rw [List.getElem?_map, hy] at hu2; simpa using hu2.symm
        have i0 : (0 : Int) ≤ (j : Int) := by omega
        have i1 : (j : Int) < (n : Int) := by omega
        by_cases hxy : x = y
        · subst hxy
          have HT2 := Lib.hid (take_eq_succ HT.out hx hy)
          clear hx hy hu1 hu2
          go_wp2_with fail
          go_quiet (fail)
          go_wp2_with fail
          go_roundw
          case rel => exact ⟨j + 1, q + nq, by omega, by go_num, HT2, rfl⟩
          case measure => simp [intOf]; omega
        · have HE : Hid (decide (a = b) = false) := decide_eq_false (ne_at hx hy hxy)
          have d1 : (x.toList == y.toList) = false := by simpa using (fun h => hxy (ba_eq h))
          clear hx hy hu1 hu2
          go_wp2_with fail
          go_quiet (fail)
          go_wp2_with fail
          go_ret
          exact ⟨by rw [HE.out]; rfl, q + nq, by simp⟩
      · have HE : Hid (decide (a = b) = true) := by
          have h := HT.out
          rw [List.take_of_length_le (by rw [HN.out]; omega), List.take_of_length_le (by rw [HN'.out]; omega)] at h
          exact decide_eq_true h
        go_wp2_with fail
        go_ret
        exact ⟨by rw [HE.out]; rfl, q, rfl⟩

set_option maxRecDepth 100000 in
set_option maxHeartbeats 800000 in
theorem equal_any (A A' : Option Addr) (c c' B B' : Nat) (a b : List ByteArray) (w : World) (hr : Reads w B 1 A a.length (a.map Value.string)) (hr' : Reads w B' 1 A' b.length (b.map Value.string)) (ha : a.length ≤ 140737488351232) (hb : b.length ≤ 140737488351232) :
    Calls Tryd.prog 68 #[.slice A a.length c, .slice A' b.length c'] w (SamePost w (decide (a = b))) := by
  have HR := Lib.hid hr
  have HR' := Lib.hid hr'
  clear hr hr'
  by_cases hl : a.length = b.length
  rotate_left
  · have HE : Hid (decide (a = b) = false) := by unfold Hid; exact decide_eq_false (fun e => hl (by rw [e]))
    have d1 : ((a.length : Int) != (b.length : Int)) = true := by simp; omega
    have d2 : ((a.length : Int) == (b.length : Int)) = false := by simp; omega
    have d3 : (a.length == b.length) = false := by simp; omega
    have d4 : (a.length != b.length) = true := by simp; omega
    clear hl
    go_enter Tryd.func68, Tryd.ntmps68
    go_wp2_with fail
    go_ret
    exact ⟨by rw [HE.out]; rfl, 0, rfl⟩
  · obtain ⟨n, hn⟩ : ∃ n, a.length = n := ⟨_, rfl⟩
    have hn' : b.length = n := by omega
    rw [hn] at HR ha ⊢
    rw [hn'] at HR' hb ⊢
    have HN := Lib.hid hn
    have HN' := Lib.hid hn'
    clear hn hn' hl
    go_enter Tryd.func68, Tryd.ntmps68
    go_wp2_with fail
    go_loopw [13] (fun i wr => ∃ j q : Nat, j ≤ n ∧ i = .int .i64 (j : Int) ∧ Hid (a.take j = b.take j) ∧ wr = w.drewN q) (fun i _ => n - (intOf i).toNat)
    case atStart => exact ⟨0, 0, by omega, rfl, rfl, rfl⟩
    case round =>
      obtain ⟨j, q, hj, rfl, HT, rfl⟩ := hrel
      by_cases hlt : j < n
      · obtain ⟨x, hx⟩ : ∃ x, a[j]? = some x := ⟨_, List.getElem?_eq_getElem (by rw [HN.out]; exact hlt)⟩
        obtain ⟨y, hy⟩ : ∃ y, b[j]? = some y := ⟨_, List.getElem?_eq_getElem (by rw [HN'.out]; exact hlt)⟩
        obtain ⟨b1, o1, u1, rfl, -, hu1, g1⟩ := HR.out.at1 hlt
        obtain rfl : u1 = Value.string x := by rw [List.getElem?_map, hx] at hu1; simpa using hu1.symm
        obtain ⟨b2, o2, u2, rfl, -, hu2, g2⟩ := HR'.out.at1 hlt
        obtain rfl : u2 = Value.string y := by rw [List.getElem?_map, hy] at hu2; simpa using hu2.symm
        have i0 : (0 : Int) ≤ (j : Int) := by omega
        have i1 : (j : Int) < (n : Int) := by omega
        by_cases hxy : x = y
        · subst hxy
          have HT2 := Lib.hid (take_eq_succ HT.out hx hy)
          clear hx hy hu1 hu2
          go_wp2_with fail
          go_quiet (fail)
          go_wp2_with fail
          go_roundw
          case rel => exact ⟨j + 1, q + nq, by omega, by go_num, HT2, rfl⟩
          case measure => simp [intOf]; omega
        · have HE : Hid (decide (a = b) = false) := decide_eq_false (ne_at hx hy hxy)
          have d1 : (x.toList == y.toList) = false := by simpa using (fun h => hxy (ba_eq h))
          clear hx hy hu1 hu2
          go_wp2_with fail
          go_quiet (fail)
          go_wp2_with fail
          go_ret
          exact ⟨by rw [HE.out]; rfl, q + nq, by simp⟩
      · have HE : Hid (decide (a = b) = true) := by
          have h := HT.out
          rw [List.take_of_length_le (by rw [HN.out]; omega), List.take_of_length_le (by rw [HN'.out]; omega)] at h
          exact decide_eq_true h
        go_wp2_with fail
        go_ret
        exact ⟨by rw [HE.out]; rfl, q, rfl⟩

set_option maxRecDepth 100000 in
set_option maxHeartbeats 800000 in
theorem equalI_any (A A' : Option Addr) (c c' B B' : Nat) (a b : List Int) (w : World) (hr : Reads w B 1 A a.length (a.map (Value.int .i64))) (hr' : Reads w B' 1 A' b.length (b.map (Value.int .i64))) (ha : a.length ≤ 140737488351232) (hb : b.length ≤ 140737488351232) :
    Calls Tryd.prog 65 #[.slice A a.length c, .slice A' b.length c'] w (SamePost w (decide (a = b))) := by
  have HR := Lib.hid hr
  have HR' := Lib.hid hr'
  clear hr hr'
  by_cases hl : a.length = b.length
  rotate_left
  · have HE : Hid (decide (a = b) = false) := by unfold Hid; exact decide_eq_false (fun e => hl (by rw [e]))
    have d1 : ((a.length : Int) != (b.length : Int)) = true := by simp; omega
    have d2 : ((a.length : Int) == (b.length : Int)) = false := by simp; omega
    have d3 : (a.length == b.length) = false := by simp; omega
    have d4 : (a.length != b.length) = true := by simp; omega
    clear hl
    go_enter Tryd.func65, Tryd.ntmps65
    go_wp2_with fail
    go_ret
    exact ⟨by rw [HE.out]; rfl, 0, rfl⟩
  · obtain ⟨n, hn⟩ : ∃ n, a.length = n := ⟨_, rfl⟩
    have hn' : b.length = n := by omega
    rw [hn] at HR ha ⊢
    rw [hn'] at HR' hb ⊢
    have HN := Lib.hid hn
    have HN' := Lib.hid hn'
    clear hn hn' hl
    go_enter Tryd.func65, Tryd.ntmps65
    go_wp2_with fail
    go_loopw [13] (fun i wr => ∃ j q : Nat, j ≤ n ∧ i = .int .i64 (j : Int) ∧ Hid (a.take j = b.take j) ∧ wr = w.drewN q) (fun i _ => n - (intOf i).toNat)
    case atStart => exact ⟨0, 0, by omega, rfl, rfl, rfl⟩
    case round =>
      obtain ⟨j, q, hj, rfl, HT, rfl⟩ := hrel
      by_cases hlt : j < n
      · obtain ⟨x, hx⟩ : ∃ x, a[j]? = some x := ⟨_, List.getElem?_eq_getElem (by rw [HN.out]; exact hlt)⟩
        obtain ⟨y, hy⟩ : ∃ y, b[j]? = some y := ⟨_, List.getElem?_eq_getElem (by rw [HN'.out]; exact hlt)⟩
        obtain ⟨b1, o1, u1, rfl, -, hu1, g1⟩ := HR.out.at1 hlt
        obtain rfl : u1 = (Value.int .i64) x := by rw [List.getElem?_map, hx] at hu1; simpa using hu1.symm
        obtain ⟨b2, o2, u2, rfl, -, hu2, g2⟩ := HR'.out.at1 hlt
        obtain rfl : u2 = (Value.int .i64) y := by rw [List.getElem?_map, hy] at hu2; simpa using hu2.symm
        have i0 : (0 : Int) ≤ (j : Int) := by omega
        have i1 : (j : Int) < (n : Int) := by omega
        by_cases hxy : x = y
        · subst hxy
          have HT2 := Lib.hid (take_eq_succ HT.out hx hy)
          clear hx hy hu1 hu2
          go_wp2_with fail
          go_quiet (fail)
          go_wp2_with fail
          go_roundw
          case rel => exact ⟨j + 1, q + nq, by omega, by go_num, HT2, rfl⟩
          case measure => simp [intOf]; omega
        · have HE : Hid (decide (a = b) = false) := decide_eq_false (ne_at hx hy hxy)
          have d1 : (x != y) = true := by simpa using hxy
          have d2 : (x == y) = false := by simpa using hxy
          clear hx hy hu1 hu2
          go_wp2_with fail
          go_quiet (fail)
          go_wp2_with fail
          go_ret
          exact ⟨by rw [HE.out]; rfl, q + nq, by simp⟩
      · have HE : Hid (decide (a = b) = true) := by
          have h := HT.out
          rw [List.take_of_length_le (by rw [HN.out]; omega), List.take_of_length_le (by rw [HN'.out]; omega)] at h
          exact decide_eq_true h
        go_wp2_with fail
        go_ret
        exact ⟨by rw [HE.out]; rfl, q, rfl⟩
set_option maxRecDepth 100000 in
set_option maxHeartbeats 800000 in
theorem sameInts_any (A A' : Option Addr) (c c' B B' : Nat) (a b : List Int) (w : World) (hr : Reads w B 1 A a.length (a.map (Value.int .i64))) (hr' : Reads w B' 1 A' b.length (b.map (Value.int .i64))) (ha : a.length ≤ 140737488351232) (hb : b.length ≤ 140737488351232) :
    Calls Tryd.prog 36 #[.slice A a.length c, .slice A' b.length c'] w (SamePost w (decide (a = b))) := by
  have HR := Lib.hid hr
  have HR' := Lib.hid hr'
  clear hr hr'
  by_cases hl : a.length = b.length
  rotate_left
  · have HE : Hid (decide (a = b) = false) := by unfold Hid; exact decide_eq_false (fun e => hl (by rw [e]))
    have d1 : ((a.length : Int) != (b.length : Int)) = true := by simp; omega
    have d2 : ((a.length : Int) == (b.length : Int)) = false := by simp; omega
    have d3 : (a.length == b.length) = false := by simp; omega
    have d4 : (a.length != b.length) = true := by simp; omega
    clear hl
    go_enter Tryd.func36, Tryd.ntmps36
    go_wp2_with fail
    go_ret
    exact ⟨by rw [HE.out]; rfl, 0, rfl⟩
  · obtain ⟨n, hn⟩ : ∃ n, a.length = n := ⟨_, rfl⟩
    have hn' : b.length = n := by omega
    rw [hn] at HR ha ⊢
    rw [hn'] at HR' hb ⊢
    have HN := Lib.hid hn
    have HN' := Lib.hid hn'
    clear hn hn' hl
    go_enter Tryd.func36, Tryd.ntmps36
    go_wp2_with fail
    go_loopw [5] (fun i wr => ∃ j q : Nat, j ≤ n ∧ i = .int .i64 (j : Int) ∧ Hid (a.take j = b.take j) ∧ wr = w.drewN q) (fun i _ => n - (intOf i).toNat)
    case atStart => exact ⟨0, 0, by omega, rfl, rfl, rfl⟩
    case round =>
      obtain ⟨j, q, hj, rfl, HT, rfl⟩ := hrel
      by_cases hlt : j < n
      · obtain ⟨x, hx⟩ : ∃ x, a[j]? = some x := ⟨_, List.getElem?_eq_getElem (by rw [HN.out]; exact hlt)⟩
        obtain ⟨y, hy⟩ : ∃ y, b[j]? = some y := ⟨_, List.getElem?_eq_getElem (by rw [HN'.out]; exact hlt)⟩
        obtain ⟨b1, o1, u1, rfl, -, hu1, g1⟩ := HR.out.at1 hlt
        obtain rfl : u1 = (Value.int .i64) x := by rw [List.getElem?_map, hx] at hu1; simpa using hu1.symm
        obtain ⟨b2, o2, u2, rfl, -, hu2, g2⟩ := HR'.out.at1 hlt
        obtain rfl : u2 = (Value.int .i64) y := by rw [List.getElem?_map, hy] at hu2; simpa using hu2.symm
        have i0 : (0 : Int) ≤ (j : Int) := by omega
        have i1 : (j : Int) < (n : Int) := by omega
        by_cases hxy : x = y
        · subst hxy
          have HT2 := Lib.hid (take_eq_succ HT.out hx hy)
          clear hx hy hu1 hu2
          go_wp2_with fail
          go_quiet (fail)
          go_wp2_with fail
          go_roundw
          case rel => exact ⟨j + 1, q + nq, by omega, by go_num, HT2, rfl⟩
          case measure => simp [intOf]; omega
        · have HE : Hid (decide (a = b) = false) := decide_eq_false (ne_at hx hy hxy)
          have d1 : (x != y) = true := by simpa using hxy
          have d2 : (x == y) = false := by simpa using hxy
          clear hx hy hu1 hu2
          go_wp2_with fail
          go_quiet (fail)
          go_wp2_with fail
          go_ret
          exact ⟨by rw [HE.out]; rfl, q + nq, by simp⟩
      · have HE : Hid (decide (a = b) = true) := by
          have h := HT.out
          rw [List.take_of_length_le (by rw [HN.out]; omega), List.take_of_length_le (by rw [HN'.out]; omega)] at h
          exact decide_eq_true h
        go_wp2_with fail
        go_ret
        exact ⟨by rw [HE.out]; rfl, q, rfl⟩
end Go.Proofs.YtdabmjcpiblofaaDoor
