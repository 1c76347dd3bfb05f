/-
  SameTexts, sameBools, light, awake. No condition.
-/
import Derived.Test.YtikabbpipdekfaaPsT
namespace Go.Proofs.Ytikabbpipdekfaa
open Go.RowKit
set_option linter.unusedVariables false

def SamePost (w : World) (b : Bool) (e : Ending) (w' : World) : Prop := e = .returned (.bool b) ∧ ∃ q, w' = w.drewN q
theorem take_eq_succ {α : Type} {a b : List α} {i : Nat} {x : α} (h : a.take i = b.take i) (ha : a[i]? = some x) (hb : b[i]? = some x) : a.take (i + 1) = b.take (i + 1) := by
  rw [List.take_add_one, List.take_add_one, h, ha, hb]
theorem ne_at {α : Type} {a b : List α} {i : Nat} {x y : α} (ha : a[i]? = some x) (hb : b[i]? = some y) (hne : x ≠ y) : a ≠ b := fun e => by
  subst e
  rw [ha] at hb
  injection hb with hb
  exact hne hb
theorem ba_eq {a b : ByteArray} (h : a.toList = b.toList) : a = b := by
  rw [ByteArray.toList_eq, ByteArray.toList_eq] at h
  cases a; cases b
  simpa using h

set_option maxRecDepth 100000 in
set_option maxHeartbeats 800000 in
theorem texts_any (A A' : Option Addr) (c c' B B' : Nat) (a b : List ByteArray) (w : World) (hr : Reads w B 1 A a.length (a.map Value.string)) (hr' : Reads w B' 1 A' b.length (b.map Value.string)) (ha : a.length ≤ 140737488351232) (hb : b.length ≤ 140737488351232) :
    Calls Try.prog 17 #[.slice A a.length c, .slice A' b.length c'] w (SamePost w (decide (a = b))) := by
  have HR := Lib.hid hr
  have HR' := Lib.hid hr'
  clear hr hr'
  by_cases hl : a.length = b.length
  rotate_left
  · have HE : Hid (decide (a = b) = false) := by unfold Hid; exact decide_eq_false (fun e => hl (by rw [e]))
    have d1 : ((a.length : Int) != (b.length : Int)) = true := by simp; omega
    have d2 : ((a.length : Int) == (b.length : Int)) = false := by simp; omega
    have d3 : (a.length == b.length) = false := by simp; omega
    have d4 : (a.length != b.length) = true := by simp; omega
    clear hl
    go_enter Try.func17, Try.ntmps17
    go_wp2_with fail
    go_ret
    exact ⟨by rw [HE.out]; rfl, 0, rfl⟩
  · obtain ⟨n, hn⟩ : ∃ n, a.length = n := ⟨_, rfl⟩
    have hn' : b.length = n := by omega
    rw [hn] at HR ha ⊢
    rw [hn'] at HR' hb ⊢
    have HN := Lib.hid hn
    have HN' := Lib.hid hn'
    clear hn hn' hl
    go_enter Try.func17, Try.ntmps17
    go_wp2_with fail
    go_loopw [5] (fun i wr => ∃ j q : Nat, j ≤ n ∧ i = .int .i64 (j : Int) ∧ Hid (a.take j = b.take j) ∧ wr = w.drewN q) (fun i _ => n - (intOf i).toNat)
    case atStart => exact ⟨0, 0, by omega, rfl, rfl, rfl⟩
    case round =>
      obtain ⟨j, q, hj, rfl, HT, rfl⟩ := hrel
      by_cases hlt : j < n
      · obtain ⟨x, hx⟩ : ∃ x, a[j]? = some x := ⟨_, List.getElem?_eq_getElem (by rw [HN.out]; exact hlt)⟩
        obtain ⟨y, hy⟩ : ∃ y, b[j]? = some y := ⟨_, List.getElem?_eq_getElem (by rw [HN'.out]; exact hlt)⟩
        obtain ⟨b1, o1, u1, rfl, -, hu1, g1⟩ := HR.out.at1 hlt
        obtain rfl : u1 = Value.string x := by rw [List.getElem?_map, hx] at hu1; simpa using hu1.symm
        obtain ⟨b2, o2, u2, rfl, -, hu2, g2⟩ := HR'.out.at1 hlt
        obtain rfl : u2 = Value.string y := by rw [List.getElem?_map, hy] at hu2; simpa using hu2.symm
        have i0 : (0 : Int) ≤ (j : Int) := by omega
        have i1 : (j : Int) < (n : Int) := by omega
        by_cases hxy : x = y
        · subst hxy
          have HT2 := Lib.hid (take_eq_succ HT.out hx hy)
          clear hx hy hu1 hu2
          go_wp2_with fail
          go_quiet (fail)
          go_wp2_with fail
          go_roundw
          case rel => exact ⟨j + 1, q + nq, by omega, by go_num, HT2, rfl⟩
          case measure => simp [intOf]; omega
        · have HE : Hid (decide (a = b) = false) := decide_eq_false (ne_at hx hy hxy)
          have d1 : (x.toList == y.toList) = false := by simpa using (fun h => hxy (ba_eq h))
          clear hx hy hu1 hu2
          go_wp2_with fail
          go_quiet (fail)
          go_wp2_with fail
          go_ret
          exact ⟨by rw [HE.out]; rfl, q + nq, by simp⟩
      · have HE : Hid (decide (a = b) = true) := by
          have h := HT.out
          rw [List.take_of_length_le (by rw [HN.out]; omega), List.take_of_length_le (by rw [HN'.out]; omega)] at h
          exact decide_eq_true h
        go_wp2_with fail
        go_ret
        exact ⟨by rw [HE.out]; rfl, q, rfl⟩


set_option maxRecDepth 100000 in
set_option maxHeartbeats 800000 in
theorem sameBools_any (A A' : Option Addr) (c c' B B' : Nat) (a b : List Bool) (w : World) (hr : Reads w B 1 A a.length (a.map Value.bool)) (hr' : Reads w B' 1 A' b.length (b.map Value.bool)) (ha : a.length ≤ 140737488351232) (hb : b.length ≤ 140737488351232) :
    Calls Try.prog 20 #[.slice A a.length c, .slice A' b.length c'] w (SamePost w (decide (a = b))) := by
  have HR := Lib.hid hr
  have HR' := Lib.hid hr'
  clear hr hr'
  by_cases hl : a.length = b.length
  rotate_left
  · have HE : Hid (decide (a = b) = false) := by unfold Hid; exact decide_eq_false (fun e => hl (by rw [e]))
    have d1 : ((a.length : Int) != (b.length : Int)) = true := by simp; omega
    have d2 : ((a.length : Int) == (b.length : Int)) = false := by simp; omega
    have d3 : (a.length == b.length) = false := by simp; omega
    have d4 : (a.length != b.length) = true := by simp; omega
    clear hl
    go_enter Try.func20, Try.ntmps20
    go_wp2_with fail
    go_ret
    exact ⟨by rw [HE.out]; rfl, 0, rfl⟩
  · obtain ⟨n, hn⟩ : ∃ n, a.length = n := ⟨_, rfl⟩
    have hn' : b.length = n := by omega
    rw [hn] at HR ha ⊢
    rw [hn'] at HR' hb ⊢
    have HN := Lib.hid hn
    have HN' := Lib.hid hn'
    clear hn hn' hl
    go_enter Try.func20, Try.ntmps20
    go_wp2_with fail
    go_loopw [5] (fun i wr => ∃ j q : Nat, j ≤ n ∧ i = .int .i64 (j : Int) ∧ Hid (a.take j = b.take j) ∧ wr = w.drewN q) (fun i _ => n - (intOf i).toNat)
    case atStart => exact ⟨0, 0, by omega, rfl, rfl, rfl⟩
    case round =>
      obtain ⟨j, q, hj, rfl, HT, rfl⟩ := hrel
      by_cases hlt : j < n
      · obtain ⟨x, hx⟩ : ∃ x, a[j]? = some x := ⟨_, List.getElem?_eq_getElem (by rw [HN.out]; exact hlt)⟩
        obtain ⟨y, hy⟩ : ∃ y, b[j]? = some y := ⟨_, List.getElem?_eq_getElem (by rw [HN'.out]; exact hlt)⟩
        obtain ⟨b1, o1, u1, rfl, -, hu1, g1⟩ := HR.out.at1 hlt
        obtain rfl : u1 = Value.bool x := by rw [List.getElem?_map, hx] at hu1; simpa using hu1.symm
        obtain ⟨b2, o2, u2, rfl, -, hu2, g2⟩ := HR'.out.at1 hlt
        obtain rfl : u2 = Value.bool y := by rw [List.getElem?_map, hy] at hu2; simpa using hu2.symm
        have i0 : (0 : Int) ≤ (j : Int) := by omega
        have i1 : (j : Int) < (n : Int) := by omega
        by_cases hxy : x = y
        · subst hxy
          have HT2 := Lib.hid (take_eq_succ HT.out hx hy)
          clear hx hy hu1 hu2
          go_wp2_with fail
          go_quiet (fail)
          go_wp2_with fail
          go_roundw
          case rel => exact ⟨j + 1, q + nq, by omega, by go_num, HT2, rfl⟩
          case measure => simp [intOf]; omega
        · have HE : Hid (decide (a = b) = false) := decide_eq_false (ne_at hx hy hxy)
          have d1 : (x == y) = false := by simpa using hxy
          have d2 : (x != y) = true := by simpa using hxy
          clear hx hy hu1 hu2
          go_wp2_with fail
          go_quiet (fail)
          go_wp2_with fail
          go_ret
          exact ⟨by rw [HE.out]; rfl, q + nq, by simp⟩
      · have HE : Hid (decide (a = b) = true) := by
          have h := HT.out
          rw [List.take_of_length_le (by rw [HN.out]; omega), List.take_of_length_le (by rw [HN'.out]; omega)] at h
          exact decide_eq_true h
        go_wp2_with fail
        go_ret
        exact ⟨by rw [HE.out]; rfl, q, rfl⟩


def Ret (w : World) (v : Value) (e : Ending) (w' : World) : Prop := e = .returned v ∧ Below w.heap.size w w'
def lightB (xs : List ByteArray) : Bool := decide (xs.length ≤ 60) && xs.all (fun x => decide (x.size ≤ 100))

set_option maxRecDepth 100000 in
set_option maxHeartbeats 800000 in
theorem light_any (A : Option Addr) (c : Nat) (xs : List ByteArray) (w : World) (hr : Reads w w.heap.size 1 A xs.length (xs.map Value.string)) (hl : xs.length ≤ 140737488351232) (hs : ∀ x ∈ xs, x.size ≤ 140737488351232) :
    Calls Try.prog 19 #[.slice A xs.length c] w (Ret w (.bool (lightB xs))) := by
  have HR := Lib.hid hr
  have HS := Lib.hid hs
  obtain ⟨n, hn⟩ : ∃ n, xs.length = n := ⟨_, rfl⟩
  rw [hn] at HR hl ⊢
  have HN := Lib.hid hn
  clear hr hs hn
  by_cases h60 : 60 < n
  · have HE : Hid (lightB xs = false) := by unfold lightB Hid; rw [HN.out]; simp; omega
    have d1 : decide (60 < (n : Int)) = true := decide_eq_true (by omega)
    go_enter Try.func19, Try.ntmps19
    go_wp2_with fail
    go_ret
    exact ⟨by rw [HE.out]; rfl, Below.refl _ _⟩
  have d1 : decide (60 < (n : Int)) = false := decide_eq_false (by omega)
  go_enter Try.func19, Try.ntmps19
  go_wp2_with fail
  go_loop [3] (fun i => ∃ j : Nat, j ≤ n ∧ i = .int .i64 (j : Int) ∧ Hid ((xs.take j).all (fun x => decide (x.size ≤ 100)) = true)) (fun i => n - (intOf i).toNat)
  case atStart => exact ⟨0, by omega, rfl, rfl⟩
  case round =>
    obtain ⟨j, hj, rfl, HT⟩ := hrel
    by_cases hlt : j < n
    · obtain ⟨x, hx⟩ : ∃ x, xs[j]? = some x := ⟨_, List.getElem?_eq_getElem (by rw [HN.out]; exact hlt)⟩
      obtain ⟨b1, o1, u1, rfl, -, hu1, g1⟩ := HR.out.at1 hlt
      obtain rfl : u1 = Value.string x := by rw [List.getElem?_map, hx] at hu1; simpa using hu1.symm
      have i1 : (j : Int) < (n : Int) := by omega
      by_cases hs : 100 < x.size
      · have HE : Hid (lightB xs = false) := by
          unfold lightB Hid
          rw [Bool.and_eq_false_iff]
          refine .inr ?_
          rw [List.all_eq_false]
          exact ⟨x, List.mem_of_getElem? hx, by simp; omega⟩
        have d2 : decide (100 < (x.size : Int)) = true := decide_eq_true (by omega)
        clear hx hu1
        go_wp2_with fail
        go_ret
        exact ⟨by rw [HE.out]; rfl, Below.refl _ _⟩
      · have HT2 : Hid ((xs.take (j + 1)).all (fun x => decide (x.size ≤ 100)) = true) := by
          unfold Hid
          rw [List.take_add_one, hx, List.all_append, HT.out]
          simp; omega
        have d2 : decide (100 < (x.size : Int)) = false := decide_eq_false (by omega)
        clear hx hu1
        go_wp2_with fail
        go_round
        case rel => exact ⟨j + 1, by omega, by go_num, HT2⟩
        case measure => simp [intOf]; omega
    · have HE : Hid (lightB xs = true) := by
        have h := HT.out
        rw [List.take_of_length_le (by rw [HN.out]; omega)] at h
        unfold lightB Hid
        rw [h, HN.out]
        simp; omega
      go_wp2_with fail
      go_ret
      exact ⟨by rw [HE.out]; rfl, Below.refl _ _⟩
theorem light_yes {xs : List ByteArray} (h : lightB xs = true) : xs.length ≤ 60 ∧ ∀ x ∈ xs, x.size ≤ 100 := by
  unfold lightB at h
  rw [Bool.and_eq_true] at h
  exact ⟨of_decide_eq_true h.1, fun x hx => of_decide_eq_true (List.all_eq_true.1 h.2 x hx)⟩
/-- what is returned is the same for both -/
theorem BIs.unique {lo hi s s' : List UInt8} {e e' : Int} (h : BIs lo hi s e) (h' : BIs lo hi s' e') : s = s' ∧ e = e' := by
  unfold BIs at h h'
  split at h
  · rename_i hc
    rw [if_pos hc] at h'
    exact ⟨by rw [h.1, h'.1], by rw [h.2, h'.2]⟩
  · rename_i hc
    rw [if_neg hc] at h'
    split at h
    · rename_i hd
      rw [if_pos hd] at h'
      exact ⟨by rw [h.1, h'.1], by rw [h.2, h'.2]⟩
    · rename_i hd
      rw [if_neg hd] at h'
      exact h.unique h'
theorem ba_of {t : ByteArray} {l : List UInt8} (h : t.data.toList = l) : t = ⟨l.toArray⟩ := by
  apply ByteArray.ext
  apply Array.toList_inj.1
  rw [h]
theorem key_b : Key [98] := keyB_iff.1 (by decide +kernel)
theorem key_c : Key [99] := keyB_iff.1 (by decide +kernel)
/-- between "b" and "c" lies "bn" -/
theorem awake_between : BIs [98] [99] [98, 110] 0 := by
  unfold BIs
  rw [if_neg (by decide +kernel), if_neg (by decide +kernel), if_neg (by simp)]
  refine .inl ⟨rfl, 2, 25, by omega, by omega, fun n' h1 h2 => ?_, by decide +kernel, ⟨by omega, by decide +kernel, by decide +kernel, .inl (by decide +kernel)⟩, rfl, fun c hc => letB_iff.1 ?_, by decide +kernel⟩
  · obtain rfl : n' = 1 := by omega
    decide +kernel
  · simp at hc
    rcases hc with rfl | rfl <;> rfl
theorem awake_spread : spread 2 = [⟨#[105, 114]⟩, ⟨#[114, 105]⟩] := by decide +kernel
theorem awake_keep : keepN (nums [⟨#[109]⟩, ⟨#[99]⟩, ⟨#[]⟩, ⟨#[102]⟩]) = [false, true, false, true] := by decide +kernel
end Go.Proofs.Ytikabbpipdekfaa
