/-
  Lists of numbers and of rows in memory; which arguments are proper. No condition.
-/
import Derived.Test.YtaadaekpmblpaaaRows
import Derived.Test.YtaadaekpmblpaaaRow
import Derived.WalkKit
import Derived.WalkSpells
import Derived.WalkLawsBesides
import Derived.Outline
import Derived.BigQuiet
namespace Go.Proofs.Ytaadaekpmblpaaa
open Go.RowKit
set_option linter.unusedVariables false

abbrev Ints (w : World) (B : Nat) (A : Option Addr) (n : Nat) (l : List Int) : Prop := Reads w B 1 A n (l.map (Value.int .i64))
theorem Ints.len {w : World} {B n : Nat} {A : Option Addr} {l : List Int} (h : Ints w B A n l) : l.length = n := by have := h.1; simpa using this
theorem Ints.at_ {w : World} {B n k : Nat} {A : Option Addr} {l : List Int} (h : Ints w B A n l) (hk : k < n) :
    ∃ b off x, A = some ⟨b, off, none⟩ ∧ b < B ∧ l[k]? = some x ∧ w.cell? ⟨b, off + k, none⟩ = some (.int .i64 x) := by
  obtain ⟨b, off, u, e, hb, hu, hc⟩ := h.at1 hk
  rw [List.getElem?_map] at hu
  cases hx : l[k]? with
  | none => rw [hx] at hu; cases hu
  | some x =>
    rw [hx] at hu
    simp at hu
    subst hu
    exact ⟨b, off, x, e, hb, rfl, hc⟩

def hdv (h : Option Addr × Nat × Nat) : Value := .slice h.1 h.2.1 h.2.2
/-- a slice of slices of numbers -/
def Mat (w : World) (B : Nat) (A : Option Addr) (n : Nat) (rows : List (List Int)) : Prop :=
  ∃ hs : List (Option Addr × Nat × Nat), Reads w B 1 A n (hs.map hdv) ∧ hs.length = rows.length ∧ ∀ (i : Nat) h r, hs[i]? = some h → rows[i]? = some r → Ints w B h.1 h.2.1 r
theorem Mat.len {w : World} {B n : Nat} {A : Option Addr} {l : List (List Int)} (h : Mat w B A n l) : l.length = n := by
  obtain ⟨hs, h1, h2, -⟩ := h
  have := h1.1
  simp at this
  omega
theorem Mat.row {w : World} {B n k : Nat} {A : Option Addr} {l : List (List Int)} (h : Mat w B A n l) (hk : k < n) :
    ∃ b off A' n' c' r, A = some ⟨b, off, none⟩ ∧ b < B ∧ l[k]? = some r ∧ w.cell? ⟨b, off + k, none⟩ = some (.slice A' n' c') ∧ Ints w B A' n' r := by
  have hl := h.len
  obtain ⟨hs, h1, h2, h3⟩ := h
  obtain ⟨b, off, u, e, hb, hu, hc⟩ := h1.at1 hk
  have hk1 : k < hs.length := by omega
  have hk2 : k < l.length := by omega
  rw [List.getElem?_map, List.getElem?_eq_getElem hk1] at hu
  simp at hu
  subst hu
  exact ⟨b, off, _, _, _, l[k], e, hb, List.getElem?_eq_getElem hk2, hc, h3 k _ _ (List.getElem?_eq_getElem hk1) (List.getElem?_eq_getElem hk2)⟩
theorem Mat.keep {w w' : World} {B n : Nat} {A : Option Addr} {l : List (List Int)} (h : Mat w B A n l) (hk : ∀ p : Addr, p.block < B → w'.cell? p = w.cell? p) : Mat w' B A n l := by
  obtain ⟨hs, h1, h2, h3⟩ := h
  exact ⟨hs, h1.keep hk, h2, fun i h r e1 e2 => (h3 i h r e1 e2).keep hk⟩
theorem Mat.more {w : World} {B B' n : Nat} {A : Option Addr} {l : List (List Int)} (h : Mat w B A n l) (hB : B ≤ B') : Mat w B' A n l := by
  obtain ⟨hs, h1, h2, h3⟩ := h
  exact ⟨hs, h1.more hB, h2, fun i h r e1 e2 => (h3 i h r e1 e2).more hB⟩
theorem Mat.below {w w' : World} {B n : Nat} {A : Option Addr} {l : List (List Int)} (h : Mat w B A n l) (hb : Below B w w') : Mat w' B A n l := h.keep fun _ hp => hb.cell hp

def inside (lo hi : Int) (l : List Int) : Bool := l.all fun x => decide (lo ≤ x) && decide (x ≤ hi)
def properL (drop add : List Int) (cost : List (List Int)) : Bool :=
  decide (drop.length ≤ 400) && decide (add.length ≤ 400) && decide (cost.length = drop.length) && inside 0 1048576 drop && inside 0 1048576 add && cost.all fun r => decide (r.length = add.length) && inside (-1) 1048576 r

theorem all_take_step {α : Type} {p : α → Bool} {l : List α} {j : Nat} {x : α} (h : l[j]? = some x) (hx : p x = true) (hj : (l.take j).all p = true) : (l.take (j + 1)).all p = true := by
  rw [List.take_add_one, h, List.all_append, hj]
  simp [hx]
theorem all_no {α : Type} {p : α → Bool} {l : List α} {j : Nat} {x : α} (h : l[j]? = some x) (hx : p x = false) : l.all p = false := by
  rw [List.all_eq_false]
  exact ⟨x, List.mem_of_getElem? h, by simp [hx]⟩

set_option maxRecDepth 100000 in
set_option maxHeartbeats 400000 in
theorem within_any (A : Option Addr) (n c B : Nat) (l : List Int) (lo hi : Int) (w : World) (hr : Ints w B A n l) (hn : n ≤ maxLen) :
    Calls Try.prog 28 #[.slice A n c, .int .i64 lo, .int .i64 hi] w fun e w' => e = .returned (.bool (inside lo hi l)) ∧ w = w' := by
  have hl := hr.len
  have HL := Lib.hid hl
  have HR := Lib.hid hr
  unfold maxLen at hn
  obtain ⟨res, hres⟩ : ∃ b, inside lo hi l = b := ⟨_, rfl⟩
  rw [hres]
  have HE := Lib.hid hres
  clear hl hr hres
  go_enter Try.func28, Try.ntmps28
  go_wp2_with fail
  go_loop [11] (fun i => ∃ j : Nat, j ≤ n ∧ i = .int .i64 (j : Int) ∧ Hid (inside lo hi (l.take j) = true)) (fun i => n - (intOf i).toNat)
  case atStart => exact ⟨0, by omega, rfl, by show inside lo hi (l.take 0) = true; simp [inside]⟩
  case round =>
    obtain ⟨j, hj, rfl, HA⟩ := hrel
    by_cases hlt : j < n
    · obtain ⟨b, off, x, rfl, hb, hx, hcell⟩ := HR.out.at_ hlt
      have HX := Lib.hid hx
      clear hx hb
      by_cases h1 : x < lo
      · have hf : Hid (res = false) := by
          show res = false
          rw [← HE.out]
          exact all_no HX.out (by simp; omega)
        go_wp2_with fail
        go_ret
        exact ⟨by rw [hf.out]; rfl, rfl⟩
      · by_cases h2 : hi < x
        · have hf : Hid (res = false) := by
            show res = false
            rw [← HE.out]
            exact all_no HX.out (by simp; omega)
          go_wp2_with fail
          go_ret
          exact ⟨by rw [hf.out]; rfl, rfl⟩
        · have HS : Hid (inside lo hi (l.take (j + 1)) = true) := all_take_step HX.out (by simp; omega) HA.out
          go_wp2_with fail
          go_round
          case rel => exact ⟨j + 1, by omega, by go_num, HS⟩
          case measure => simp [intOf]; omega
    · have hf : Hid (res = true) := by
        show res = true
        rw [← HE.out, ← HA.out, List.take_of_length_le (by rw [HL.out]; omega)]
      go_wp2_with fail
      go_ret
      exact ⟨by rw [hf.out]; rfl, rfl⟩

set_option maxRecDepth 100000 in
set_option maxHeartbeats 400000 in
theorem small_any (A : Option Addr) (n c B : Nat) (l : List Int) (lo : Int) (w : World) (hr : Ints w B A n l) (hn : n ≤ maxLen) :
    Calls Try.prog 29 #[.slice A n c, .int .i64 lo] w fun e w' => e = .returned (.bool (inside lo 1048576 l)) ∧ w = w' := by
  have hl := hr.len
  have HL := Lib.hid hl
  have HR := Lib.hid hr
  unfold maxLen at hn
  obtain ⟨res, hres⟩ : ∃ b, inside lo 1048576 l = b := ⟨_, rfl⟩
  rw [hres]
  have HE := Lib.hid hres
  clear hl hr hres
  go_enter Try.func29, Try.ntmps29
  go_wp2_with fail
  go_loop [5] (fun i => ∃ j : Nat, j ≤ n ∧ i = .int .i64 (j : Int) ∧ Hid (inside lo 1048576 (l.take j) = true)) (fun i => n - (intOf i).toNat)
  case atStart => exact ⟨0, by omega, rfl, by show inside lo 1048576 (l.take 0) = true; simp [inside]⟩
  case round =>
    obtain ⟨j, hj, rfl, HA⟩ := hrel
    by_cases hlt : j < n
    · obtain ⟨b, off, x, rfl, hb, hx, hcell⟩ := HR.out.at_ hlt
      have HX := Lib.hid hx
      clear hx hb
      by_cases h1 : x < lo
      · have hf : Hid (res = false) := by
          show res = false
          rw [← HE.out]
          exact all_no HX.out (by simp; omega)
        go_wp2_with fail
        go_ret
        exact ⟨by rw [hf.out]; rfl, rfl⟩
      · by_cases h2 : 1048576 < x
        · have hf : Hid (res = false) := by
            show res = false
            rw [← HE.out]
            exact all_no HX.out (by simp; omega)
          go_wp2_with fail
          go_ret
          exact ⟨by rw [hf.out]; rfl, rfl⟩
        · have HS : Hid (inside lo 1048576 (l.take (j + 1)) = true) := all_take_step HX.out (by simp; omega) HA.out
          go_wp2_with fail
          go_round
          case rel => exact ⟨j + 1, by omega, by go_num, HS⟩
          case measure => simp [intOf]; omega
    · have hf : Hid (res = true) := by
        show res = true
        rw [← HE.out, ← HA.out, List.take_of_length_le (by rw [HL.out]; omega)]
      go_wp2_with fail
      go_ret
      exact ⟨by rw [hf.out]; rfl, rfl⟩

/-- the three arguments as they lie in memory -/
structure Three (w : World) (B : Nat) (A1 : Option Addr) (n1 : Nat) (A2 : Option Addr) (n2 : Nat) (A3 : Option Addr) (n3 : Nat) (drop add : List Int) (cost : List (List Int)) : Prop where
  d : Ints w B A1 n1 drop
  a : Ints w B A2 n2 add
  c : Mat w B A3 n3 cost
  l1 : n1 ≤ 1000000000
  l2 : n2 ≤ 1000000000
  l3 : n3 ≤ 1000000000
  lr : ∀ r ∈ cost, r.length ≤ 1000000000

def costOk (n : Nat) (r : List Int) : Bool := decide (r.length = n) && inside (-1) 1048576 r
theorem proper_split (drop add : List Int) (cost : List (List Int)) : properL drop add cost = (decide (drop.length ≤ 400) && decide (add.length ≤ 400) && decide (cost.length = drop.length) && inside 0 1048576 drop && inside 0 1048576 add && cost.all (costOk add.length)) := rfl

set_option maxRecDepth 100000 in
set_option maxHeartbeats 400000 in
theorem proper_any (A1 : Option Addr) (n1 c1 : Nat) (A2 : Option Addr) (n2 c2 : Nat) (A3 : Option Addr) (n3 c3 B : Nat) (drop add : List Int) (cost : List (List Int)) (w : World) (h : Three w B A1 n1 A2 n2 A3 n3 drop add cost) :
    Calls Try.prog 21 #[.slice A1 n1 c1, .slice A2 n2 c2, .slice A3 n3 c3] w fun e w' => e = .returned (.bool (properL drop add cost)) ∧ w = w' := by
  have e1 := h.d.len
  have e2 := h.a.len
  have e3 := h.c.len
  have HM := Lib.hid h.c
  have HLR := Lib.hid h.lr
  have W1 := Lib.hid (within_any A1 n1 c1 B drop 0 1048576 w h.d (by have := h.l1; unfold maxLen; omega))
  have W2 := Lib.hid (within_any A2 n2 c2 B add 0 1048576 w h.a (by have := h.l2; unfold maxLen; omega))
  have hl1 := h.l1
  have hl2 := h.l2
  have hl3 := h.l3
  obtain ⟨res, hres⟩ : ∃ b, properL drop add cost = b := ⟨_, rfl⟩
  rw [hres]
  rw [proper_split, e1, e2, e3] at hres
  obtain ⟨i1, hi1⟩ : ∃ b, inside 0 1048576 drop = b := ⟨_, rfl⟩
  obtain ⟨i2, hi2⟩ : ∃ b, inside 0 1048576 add = b := ⟨_, rfl⟩
  rw [hi1] at hres W1
  rw [hi2] at hres W2
  have HE := Lib.hid hres
  have HN3 := Lib.hid e3
  clear hi1 hi2 hres h e1 e2 e3
  by_cases h1 : 400 < n1
  · have hf : Hid (res = false) := by show res = false; rw [← HE.out]; simp; omega
    go_enter Try.func21, Try.ntmps21
    go_wp2_with fail
    go_ret
    exact ⟨by rw [hf.out]; rfl, rfl⟩
  by_cases h2 : 400 < n2
  · have hf : Hid (res = false) := by show res = false; rw [← HE.out]; simp; omega
    go_enter Try.func21, Try.ntmps21
    go_wp2_with fail
    go_ret
    exact ⟨by rw [hf.out]; rfl, rfl⟩
  by_cases h3 : n3 = n1
  rotate_left
  · have hf : Hid (res = false) := by show res = false; rw [← HE.out]; simp; omega
    have h3' : ((n3 : Int) != (n1 : Int)) = true := by simp; omega
    go_enter Try.func21, Try.ntmps21
    go_wp2_with fail
    go_ret
    exact ⟨by rw [hf.out]; rfl, rfl⟩
  subst h3
  cases i1 with
  | false =>
    have hf : Hid (res = false) := by show res = false; rw [← HE.out]; simp
    go_enter Try.func21, Try.ntmps21
    go_wp2_with fail
    refine (W1.out).mono ?_
    rintro e w1 ⟨rfl, rfl⟩
    go_wp2_with fail
    go_ret
    exact ⟨by rw [hf.out]; rfl, rfl⟩
  | true =>
  cases i2 with
  | false =>
    have hf : Hid (res = false) := by show res = false; rw [← HE.out]; simp
    go_enter Try.func21, Try.ntmps21
    go_wp2_with fail
    refine (W1.out).mono ?_
    rintro e w1 ⟨rfl, rfl⟩
    go_wp2_with fail
    refine (W2.out).mono ?_
    rintro e w1 ⟨rfl, rfl⟩
    go_wp2_with fail
    go_ret
    exact ⟨by rw [hf.out]; rfl, rfl⟩
  | true =>
  have HE2 : Hid (cost.all (costOk n2) = res) := by
    show cost.all (costOk n2) = res
    rw [← HE.out]
    simp [show n3 ≤ 400 by omega, show n2 ≤ 400 by omega]
  clear HE
  go_enter Try.func21, Try.ntmps21
  go_wp2_with fail
  refine (W1.out).mono ?_
  rintro e w1 ⟨rfl, rfl⟩
  go_wp2_with fail
  refine (W2.out).mono ?_
  rintro e w1 ⟨rfl, rfl⟩
  go_wp2_with fail
  go_loop [34] (fun i => ∃ j : Nat, j ≤ n3 ∧ i = .int .i64 (j : Int) ∧ Hid ((cost.take j).all (costOk n2) = true)) (fun i => n3 - (intOf i).toNat)
  case atStart => exact ⟨0, by omega, rfl, by show (cost.take 0).all _ = true; simp⟩
  case round =>
    obtain ⟨j, hj, rfl, HA⟩ := hrel
    by_cases hlt : j < n3
    · obtain ⟨b, off, A', n', c', r, rfl, hb, hx, hcell, hrow⟩ := HM.out.row hlt
      have HX := Lib.hid hx
      have hrl := hrow.len
      have hr9 := HLR.out r (List.mem_of_getElem? hx)
      have W3 := Lib.hid (within_any A' n' c' B r (-1) 1048576 w hrow (by unfold maxLen; omega))
      have HRL := Lib.hid hrl
      obtain ⟨i3, hi3⟩ : ∃ b, inside (-1) 1048576 r = b := ⟨_, rfl⟩
      rw [hi3] at W3
      have HI3 := Lib.hid hi3
      clear hx hb hrow hi3 hrl
      by_cases h4 : n' = n2
      rotate_left
      · have h4' : ((n' : Int) != (n2 : Int)) = true := by simp; omega
        have hf : Hid (res = false) := by
          show res = false
          rw [← HE2.out]
          exact all_no HX.out (by unfold costOk; rw [HRL.out]; simp [h4])
        go_wp2_with fail
        go_ret
        exact ⟨by rw [hf.out]; rfl, rfl⟩
      subst h4
      cases i3 with
      | false =>
        have hf : Hid (res = false) := by
          show res = false
          rw [← HE2.out]
          exact all_no HX.out (by unfold costOk; rw [HI3.out]; simp)
        go_wp2_with fail
        refine (W3.out).mono ?_
        rintro e w1 ⟨rfl, rfl⟩
        go_wp2_with fail
        go_ret
        exact ⟨by rw [hf.out]; rfl, rfl⟩
      | true =>
        have HS : Hid ((cost.take (j + 1)).all (costOk n') = true) := all_take_step HX.out (by unfold costOk; rw [HI3.out, HRL.out]; simp) HA.out
        go_wp2_with fail
        refine (W3.out).mono ?_
        rintro e w1 ⟨rfl, rfl⟩
        go_wp2_with fail
        go_round
        case rel => exact ⟨j + 1, by omega, by go_num, HS⟩
        case measure => simp [intOf]; omega
    · have hf : Hid (res = true) := by
        show res = true
        rw [← HE2.out, ← HA.out, List.take_of_length_le (by rw [HN3.out]; omega)]
      go_wp2_with fail
      go_ret
      exact ⟨by rw [hf.out]; rfl, rfl⟩
end Go.Proofs.Ytaadaekpmblpaaa
