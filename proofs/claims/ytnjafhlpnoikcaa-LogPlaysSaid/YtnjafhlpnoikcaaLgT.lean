/-
  same: whether two lists of records are equal. No condition.
-/
import Derived.Test.YtnjafhlpnoikcaaLgK
namespace Go.Proofs.Ytnjafhlpnoikcaa
open Go.RowKit
set_option linter.unusedVariables false

def SamePost (w : World) (b : Bool) (e : Ending) (w' : World) : Prop := e = .returned (.bool b) ∧ ∃ q, w' = w.drewN q
theorem take_eq_succ {α : Type} {a b : List α} {i : Nat} {x : α} (h : a.take i = b.take i) (ha : a[i]? = some x) (hb : b[i]? = some x) : a.take (i + 1) = b.take (i + 1) := by
  rw [List.take_add_one, List.take_add_one, h, ha, hb]
theorem ne_at {α : Type} {a b : List α} {i : Nat} {x y : α} (ha : a[i]? = some x) (hb : b[i]? = some y) (hne : x ≠ y) : a ≠ b := fun e => by
  subst e
  rw [ha] at hb
  injection hb with hb
  exact hne hb
theorem ba_eq {a b : ByteArray} (h : a.toList = b.toList) : a = b := by
  rw [ByteArray.toList_eq, ByteArray.toList_eq] at h
  cases a; cases b
  simpa using h
theorem str_inj {x y : List Nat} (hx : ∀ i ∈ x, i < 256) (hy : ∀ i ∈ y, i < 256) (h : str x = str y) : x = y := by
  have h1 : x.map UInt8.ofNat = y.map UInt8.ofNat := by
    have := congrArg (fun b : ByteArray => b.data.toList) h
    simpa [str] using this
  have back : ∀ l : List Nat, (∀ i ∈ l, i < 256) → (l.map UInt8.ofNat).map UInt8.toNat = l := fun l hl => by
    rw [List.map_map]
    have : ∀ i ∈ l, (UInt8.toNat ∘ UInt8.ofNat) i = i := fun i hi => UInt8.toNat_ofNat_of_lt' (hl i hi)
    rw [List.map_congr_left this, List.map_id']
  rw [← back x hx, ← back y hy, h1]
/-- records that can be read -/
structure RcR (w : World) (B : Nat) (A : Option Addr) (rs : List Rc) : Prop where
  row : Reads w B 1 A rs.length (rs.flatMap rcell)
  each : ∀ r ∈ rs, Reads w B 1 r.A r.b.length (r.b.map byt) ∧ ∀ x ∈ r.b, x < 256

set_option maxRecDepth 100000 in
set_option maxHeartbeats 1600000 in
theorem same_any {w : World} {B B' c c' : Nat} {A A' : Option Addr} {xs ys : List Rc} (hx : RcR w B A xs) (hy : RcR w B' A' ys) (ha : xs.length ≤ 140737488351232) (hb : ys.length ≤ 140737488351232) :
    Calls Try.prog 17 #[.slice A xs.length c, .slice A' ys.length c'] w (SamePost w (decide (xs.map (·.b) = ys.map (·.b)))) := by
  have HX := Lib.hid hx
  have HY := Lib.hid hy
  clear hx hy
  by_cases hl : xs.length = ys.length
  rotate_left
  · have HE : Hid (decide (xs.map (·.b) = ys.map (·.b)) = false) := by unfold Hid; exact decide_eq_false (fun e => hl (by have := congrArg List.length e; simpa using this))
    have d1 : ((xs.length : Int) != (ys.length : Int)) = true := by simp; omega
    have d4 : (xs.length != ys.length) = true := by simp; omega
    clear hl
    go_enter Try.func17, Try.ntmps17
    go_wp2_with fail
    go_ret
    exact ⟨by rw [HE.out]; rfl, 0, rfl⟩
  · obtain ⟨n, hn⟩ : ∃ n, xs.length = n := ⟨_, rfl⟩
    have hn' : ys.length = n := by omega
    have HN := Lib.hid hn
    have HN' := Lib.hid hn'
    rw [hn] at ha ⊢
    rw [hn'] at hb ⊢
    clear hn hn' hl
    go_enter Try.func17, Try.ntmps17
    go_wp2_with fail
    go_loopw [5] (fun i wr => ∃ j q : Nat, j ≤ n ∧ i = .int .i64 (j : Int) ∧ Hid ((xs.map (·.b)).take j = (ys.map (·.b)).take j) ∧ wr = w.drewN q) (fun i _ => n - (intOf i).toNat)
    case atStart => exact ⟨0, 0, by omega, rfl, rfl, rfl⟩
    case round =>
      obtain ⟨j, q, hj, rfl, HT, rfl⟩ := hrel
      by_cases hlt : j < n
      · obtain ⟨x, hx⟩ : ∃ x, xs[j]? = some x := ⟨_, List.getElem?_eq_getElem (by rw [HN.out]; exact hlt)⟩
        obtain ⟨y, hy⟩ : ∃ y, ys[j]? = some y := ⟨_, List.getElem?_eq_getElem (by rw [HN'.out]; exact hlt)⟩
        have hrx := (HX.out).row
        have hry := (HY.out).row
        rw [HN.out] at hrx
        rw [HN'.out] at hry
        obtain ⟨b1, o1, u1, rfl, -, hu1, g1⟩ := hrx.at1 hlt
        obtain rfl : u1 = .slice x.A x.b.length x.c := by rw [rcell_at hx] at hu1; injection hu1 with hu1; exact hu1.symm
        obtain ⟨b2, o2, u2, rfl, -, hu2, g2⟩ := hry.at1 hlt
        obtain rfl : u2 = .slice y.A y.b.length y.c := by rw [rcell_at hy] at hu2; injection hu2 with hu2; exact hu2.symm
        obtain ⟨ex1, ex2⟩ := (HX.out).each x (List.mem_of_getElem? hx)
        obtain ⟨ey1, ey2⟩ := (HY.out).each y (List.mem_of_getElem? hy)
        have g1q : (w.drewN q).cell? ⟨b1, o1 + j, none⟩ = some (.slice x.A x.b.length x.c) := g1
        have g2q : (w.drewN q).cell? ⟨b2, o2 + j, none⟩ = some (.slice y.A y.b.length y.c) := g2
        clear g1 g2
        have cv1 : ∀ m, (convert 32 9 (.slice x.A x.b.length x.c)).run Try.prog ((w.drewN q).drewN m) = .ok (.string (str x.b)) ((w.drewN q).drewN m) := fun m => run_bytes_str (P := Try.prog) _ 32 9 5 x.c Try.underlying32 Try.underlying5 Try.underlying9 ((ex1.drewN q).drewN m) ex2
        have cv2 : ∀ m, (convert 32 9 (.slice y.A y.b.length y.c)).run Try.prog ((w.drewN q).drewN m) = .ok (.string (str y.b)) ((w.drewN q).drewN m) := fun m => run_bytes_str (P := Try.prog) _ 32 9 5 y.c Try.underlying32 Try.underlying5 Try.underlying9 ((ey1.drewN q).drewN m) ey2
        obtain ⟨wq, hwq⟩ : ∃ wq, wq = w.drewN q := ⟨_, rfl⟩
        rw [← hwq] at g1q g2q cv1 cv2 ⊢
        have HWQ := Lib.hid hwq
        clear hwq
        have i0 : (0 : Int) ≤ (j : Int) := by omega
        have i1 : (j : Int) < (n : Int) := by omega
        have hbx : (xs.map (·.b))[j]? = some x.b := by rw [List.getElem?_map, hx]; rfl
        have hby : (ys.map (·.b))[j]? = some y.b := by rw [List.getElem?_map, hy]; rfl
        by_cases hxy : x.b = y.b
        · have HT2 := Lib.hid (take_eq_succ HT.out hbx (by rw [hxy]; exact hby))
          have d1 : str x.b = str y.b := by rw [hxy]
          rw [d1] at cv1
          clear hx hy hu1 hu2 hrx hry ex1 ex2 ey1 ey2 hbx hby hxy d1
          go_wp2_with fail
          go_quiet (fail)
          go_wp2_with fail
          go_roundw
          case rel => exact ⟨j + 1, q + nq, by omega, by go_num, HT2, by rw [HWQ.out]; exact World.drewN_drewN _ _ _⟩
          case measure => simp [intOf]; omega
        · have HE : Hid (decide (xs.map (·.b) = ys.map (·.b)) = false) := decide_eq_false (ne_at hbx hby hxy)
          have hs : str x.b ≠ str y.b := fun h => hxy (str_inj ex2 ey2 h)
          have d1 : ((str x.b).toList == (str y.b).toList) = false := by simpa using (fun h => hs (ba_eq h))
          clear hx hy hu1 hu2 hrx hry ex1 ex2 ey1 ey2 hbx hby hxy hs
          go_wp2_with fail
          go_quiet (fail)
          go_wp2_with fail
          go_ret
          exact ⟨by rw [HE.out]; rfl, _, by rw [HWQ.out]; exact World.drewN_drewN _ _ _⟩
      · obtain rfl : j = n := by omega
        have HE : Hid (decide (xs.map (·.b) = ys.map (·.b)) = true) := decide_eq_true (by
          have := HT.out
          rwa [List.take_of_length_le (by simp [HN.out]), List.take_of_length_le (by simp [HN'.out])] at this)
        have d : decide ((j : Int) < (j : Int)) = false := by simp
        go_wp2_with fail
        go_ret
        exact ⟨by rw [HE.out]; rfl, q, rfl⟩
end Go.Proofs.Ytnjafhlpnoikcaa
