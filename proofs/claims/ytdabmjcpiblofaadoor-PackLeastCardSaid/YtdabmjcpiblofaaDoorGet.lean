/-
  What the two GetInt return: the program's and the reference's. No condition.
-/
import Derived.Test.YtdabmjcpiblofaaDoorRead
namespace Go.Proofs.YtdabmjcpiblofaaDoor
open Go.RowKit
set_option linter.unusedVariables false

theorem from_ok (A : Option Addr) (n c : Nat) (z : Int) (w : World) (h0 : 0 ≤ z) (h1 : z ≤ n) (hn : n ≤ 1000000000) :
    Calls Tryd.prog 84 #[.slice A n c, .int .i64 z] w fun e w' => e = .returned (.pointer (some ⟨w.heap.size, 0, none⟩)) ∧ w.alloc (.cells #[.slice A n c, .int .i64 z, .bool false] 123) = w' := by
  have d1 : decide (z < 0) = false := by simp; omega
  have d2 : decide ((n : Int) < z) = false := by simp; omega
  go_enter Tryd.func84, Tryd.ntmps84
  go_wp2_with fail
  all_goals go_ret
  all_goals exact ⟨rfl, rfl⟩
theorem from_bad (A : Option Addr) (n c : Nat) (z : Int) (w : World) (h : z < 0 ∨ (n : Int) < z) (hn : n ≤ 1000000000) :
    Calls Tryd.prog 84 #[.slice A n c, .int .i64 z] w fun e w' => e = .returned (.pointer (some ⟨w.heap.size, 0, none⟩)) ∧ w.alloc (.cells #[.slice A n c, .int .i64 z, .bool true] 123) = w' := by
  by_cases h0 : z < 0
  · have d1 : decide (z < 0) = true := by simpa using h0
    go_enter Tryd.func84, Tryd.ntmps84
    go_wp2_with fail
    go_ret
    exact ⟨rfl, rfl⟩
  · have d1 : decide (z < 0) = false := by simpa using h0
    have d2 : decide ((n : Int) < z) = true := by simp; omega
    go_enter Tryd.func84, Tryd.ntmps84
    go_wp2_with fail
    go_ret
    exact ⟨rfl, rfl⟩

/-- the number at a position that may be none, and the position behind it -/
def getI (bs : List Nat) (z : Int) : Option (Int × Nat) := if 0 ≤ z ∧ z ≤ bs.length then numP bs z.toNat else none
/-- as three results -/
def resI : Option (Int × Nat) → Ending
  | some y => .returned (.tuple #[.int .i64 y.1, .int .i64 (y.2 : Int), .int .i64 0])
  | none => .returned (.tuple #[.int .i64 0, .int .i64 0, .int .i64 13])

theorem getI_ok {bs : List Nat} {n p : Nat} (hl : bs.length = n) (h : p ≤ n) : getI bs (p : Int) = numP bs p := by
  unfold getI; rw [if_pos ⟨by omega, by omega⟩]; simp
theorem getI_bad {bs : List Nat} {n : Nat} {z : Int} (hl : bs.length = n) (h : z < 0 ∨ (n : Int) < z) : getI bs z = none := by
  unfold getI; rw [if_neg (by omega)]

set_option maxRecDepth 100000 in
set_option maxHeartbeats 400000 in
theorem getInt_any (A : Option Addr) (n c : Nat) (z : Int) (bs : List Nat) (w : World) (hn : n ≤ 1000000000) (hr : Reads w w.heap.size 1 A n (bs.map byt)) (hbs : ∀ x ∈ bs, x < 256) :
    Calls Tryd.prog 80 #[.slice A n c, .int .i64 z] w fun e w' => e = resI (getI bs z) ∧ Below w.heap.size w w' := by
  have hl : bs.length = n := by have := hr.1; simpa using this
  by_cases hz : z < 0 ∨ (n : Int) < z
  · rw [getI_bad hl hz]
    have hb := Blk.new w 123 #[.slice A n c, .int .i64 z, .bool true]
    have HR := Lib.hid hr
    have HS := Lib.hid hbs
    clear hr hbs hl
    go_enter Tryd.func80, Tryd.ntmps80
    go_wp2_with fail
    refine (from_bad A n c z w hz hn).mono ?_
    rintro e w1 ⟨rfl, rfl⟩
    go_wp2_with fail
    refine (number_bad w.heap.size A n c z _ hb).mono ?_
    rintro e w2 ⟨rfl, ⟨z2, hb2⟩, hg2⟩
    have c2 := hb2.cell 2
    simp at c2
    have HG := Lib.hid hg2
    have HB := Lib.hid hb
    clear hg2 hb2 hb
    go_wp2_with fail
    go_ret3
    exact ⟨rfl, ((Below.refl _ w).alloc (Nat.le_refl _) _).grown HG.out (by simp) (fun k hk => by injection hk; omega)⟩
  · obtain ⟨p, rfl⟩ := Int.eq_ofNat_of_zero_le (show 0 ≤ z by omega)
    have hp : p ≤ n := by omega
    rw [getI_ok hl hp]
    have hb := Blk.new w 123 #[.slice A n c, .int .i64 (p : Int), .bool false]
    have hr2 : Reads (w.alloc (.cells #[.slice A n c, .int .i64 (p : Int), .bool false] 123)) w.heap.size 1 A n (bs.map byt) := hr.alloc (Nat.le_refl _) _
    have HN := Lib.hid (number_ok w.heap.size A n c p bs _ hb hp hn hr2 hbs)
    clear hr hbs hl hr2 hb
    generalize numP bs p = o at HN ⊢
    rcases o with _ | ⟨x, q⟩
    all_goals
      go_enter Tryd.func80, Tryd.ntmps80
      go_wp2_with fail
      refine (from_ok A n c (p : Int) w (by omega) (by omega) hn).mono ?_
      rintro e w1 ⟨rfl, rfl⟩
      go_wp2_with fail
      refine (HN.out).mono ?_
      rintro e w2 ⟨rfl, hrd, hg2⟩
      have HG := Lib.hid (((Below.refl w.heap.size w).alloc (Nat.le_refl _) _).grown hg2 (by simp) (fun k hk => by injection hk; omega))
      clear hg2 HN
    · obtain ⟨z2, hb2⟩ := hrd
      have c2 := hb2.cell 2
      simp at c2
      clear hb2
      go_wp2_with fail
      go_ret3
      exact ⟨rfl, HG.out⟩
    · obtain ⟨hb2, hq⟩ := hrd
      have c1 := hb2.cell 1
      have c2 := hb2.cell 2
      simp at c1 c2
      clear hb2
      go_wp2_with fail
      go_quiet (fail)
      go_wp2_with fail
      go_ret3
      exact ⟨rfl, below_drewN HG.out _⟩

theorem resI_eq {a b x : Int} {q : Nat} (ha : a = x) (hb : b = (q : Int)) : Ending.returned (.tuple #[.int .i64 a, .int .i64 b, .int .i64 0]) = resI (some (x, q)) := by subst ha; subst hb; rfl
theorem unz_odd {U : Nat} (h : U < 18446744073709551616) (ho : ((U : Int) % 2 == 1) = true) : wrap64 (wrap64 (-wrap64 (IntKind.u64.wrap ((U : Int) / 2))) - 1) = unzig U := by
  rw [beq_iff_eq] at ho
  have e : IntKind.u64.wrap ((U : Int) / 2) = (U : Int) / 2 := by rw [IntKind.wrap_u64]; omega
  rw [unzig_odd (by omega), e, wrap_half U h, IntWalk.wrap64_in (-((U : Int) / 2)) ⟨by omega, by omega⟩, IntWalk.wrap64_in _ ⟨by omega, by omega⟩]
theorem unz_even {U : Nat} (h : U < 18446744073709551616) (ho : ((U : Int) % 2 == 1) = false) : wrap64 (IntKind.u64.wrap ((U : Int) / 2)) = unzig U := by
  rw [beq_eq_false_iff_ne] at ho
  have e : IntKind.u64.wrap ((U : Int) / 2) = (U : Int) / 2 := by rw [IntKind.wrap_u64]; omega
  rw [unzig_even (by omega), e, wrap_half U h]
theorem num_cases2 {i x : Nat} (hi : i ≤ 9) (h : ¬ ((i = 9 ∧ 1 < x) ∨ (0 < i ∧ x = 0))) :
    (((i : Int) == 9) = true ∧ decide ((1 : Int) < (x : Int)) = false ∧ decide ((0 : Int) < (i : Int)) = true ∧ ((x : Int) == 0) = false) ∨
    (((i : Int) == 9) = false ∧ decide ((1 : Int) < (x : Int)) = decide ((1 : Int) < (x : Int)) ∧ decide ((0 : Int) < (i : Int)) = true ∧ ((x : Int) == 0) = false) ∨
    (((i : Int) == 9) = false ∧ decide ((1 : Int) < (x : Int)) = decide ((1 : Int) < (x : Int)) ∧ decide (0 < i) = false ∧ i ≤ 0) := by
  by_cases h9 : i = 9
  · exact .inl ⟨by rw [beq_iff_eq]; omega, by rw [decide_eq_false_iff_not]; omega, by rw [decide_eq_true_eq]; omega, by rw [beq_eq_false_iff_ne]; omega⟩
  · by_cases h0 : 0 < i
    · exact .inr (.inl ⟨by rw [beq_eq_false_iff_ne]; omega, rfl, by rw [decide_eq_true_eq]; omega, by rw [beq_eq_false_iff_ne]; omega⟩)
    · exact .inr (.inr ⟨by rw [beq_eq_false_iff_ne]; omega, rfl, by rw [decide_eq_false_iff_not]; omega, by omega⟩)
theorem numP_rel {bs : List Nat} {p i acc : Nat} {o : Option (Nat × Nat)} (h : scan 0 0 (bs.drop p) = scan i acc (bs.drop (p + i))) (h2 : scan i acc (bs.drop (p + i)) = o) : numP bs p = o.map fun y => (unzig y.1, p + y.2) := by
  unfold numP; rw [h, h2]

set_option maxRecDepth 100000 in
set_option maxHeartbeats 1000000 in
theorem refGetInt_any (A : Option Addr) (n c : Nat) (z : Int) (bs : List Nat) (w : World) (hn : n ≤ 1000000000) (B : Nat) (hr : Reads w B 1 A n (bs.map byt)) (hbs : ∀ x ∈ bs, x < 256) :
    Calls Tryd.prog 74 #[.slice A n c, .int .i64 z] w fun e w' => e = resI (getI bs z) ∧ w = w' := by
  have hl : bs.length = n := by have := hr.1; simpa using this
  by_cases hz : z < 0 ∨ (n : Int) < z
  · rw [getI_bad hl hz]
    clear hr hbs hl
    go_enter Tryd.func74, Tryd.ntmps74
    go_wp2_with fail
    all_goals go_ret3
    all_goals exact ⟨rfl, rfl⟩
  · obtain ⟨p, rfl⟩ := Int.eq_ofNat_of_zero_le (show 0 ≤ z by omega)
    have hp : p ≤ n := by omega
    rw [getI_ok hl hp]
    have HR := Lib.hid hr
    have HS := Lib.hid hbs
    have HL := Lib.hid hl
    clear hr hbs hl hz
    have d1 : decide ((p : Int) < 0) = false := by simp
    have d2 : decide (n < p) = false := by simp; omega
    go_enter Tryd.func74, Tryd.ntmps74
    go_wp2_with fail
    go_loop [7, 8] (fun u s => ∃ i acc : Nat, i ≤ 9 ∧ p + i ≤ n ∧ u = .int .u64 (acc : Int) ∧ s = .int .i64 (i : Int) ∧ Hid (acc < 2 ^ (7 * i)) ∧ Hid (scan 0 0 (bs.drop p) = scan i acc (bs.drop (p + i)))) (fun _ s => (10 - intOf s).toNat)
    case atStart => exact ⟨0, 0, by omega, by omega, rfl, rfl, by show (0 : Nat) < 2 ^ (7 * 0); simp, rfl⟩
    case round =>
      obtain ⟨i, acc, hi, hpi, rfl, rfl, HA, HSC⟩ := hrel
      by_cases he : n ≤ p + i
      · have hno := numP_none (HSC.out.trans (scan_end (by rw [HL.out]; exact he)))
        have HN := Lib.hid hno
        clear hno
        go_wp2_with fail
        go_ret3
        rw [HN.out]
        exact ⟨rfl, rfl⟩
      · obtain ⟨x, hx⟩ : ∃ x, bs[p + i]? = some x := ⟨bs[p + i]'(by rw [HL.out]; omega), List.getElem?_eq_getElem _⟩
        have hx256 : x < 256 := HS.out x (List.mem_of_getElem? hx)
        obtain ⟨b, off, u, rfl, had, hu, hcell⟩ := (HR.out).at1 (show p + i < n by omega)
        obtain rfl : u = .int .u8 (x : Int) := by
          rw [List.getElem?_map, hx] at hu
          simpa [byt] using hu.symm
        clear hu
        have HX := Lib.hid hx
        clear hx
        by_cases hb1 : (i = 9 ∧ 1 < x) ∨ (0 < i ∧ x = 0)
        · have hno : numP bs p = none := numP_none (HSC.out.trans (scan_no HX.out hb1))
          have HN := Lib.hid hno
          clear hno
          go_wp2_with fail
          all_goals go_ret3
          all_goals rw [HN.out]
          all_goals exact ⟨rfl, rfl⟩
        · obtain ⟨U, hUe⟩ : ∃ U, acc + x % 128 * 2 ^ (7 * i) = U := ⟨_, rfl⟩
          have hUl := u_lt HA.out hi (fun h => hb1 (.inl h)) hUe
          have hor := or_spelt HA.out hi (fun h => hb1 (.inl h)) hUe
          have hw := wrap_half U hUl
          have hacc2 : U < 2 ^ (7 * (i + 1)) := by rw [← hUe]; exact acc_step HA.out
          have HU := Lib.hid hacc2
          have HUe := Lib.hid hUe
          have HB1 := Lib.hid hb1
          have hcase := num_cases2 hi hb1
          have HUL := Lib.hid hUl
          have HW := Lib.hid hw
          clear hacc2 hUe hUl hb1 hw
          by_cases hl : x < 128
          · have hyes : numP bs p = some (unzig U, p + (i + 1)) := numP_some (HSC.out.trans (by rw [scan_done HX.out HB1.out hl, HUe.out]))
            have HY := Lib.hid hyes
            clear hyes
            rcases hcase with ⟨t1, t2, t3, t4⟩ | ⟨t1, t2, t3, t4⟩ | ⟨t1, t2, t3, t4⟩
            all_goals
              go_wp2_with fail
              all_goals go_ret3
              all_goals rw [HY.out]
              all_goals first | exact ⟨resI_eq (unz_odd HUL.out (by assumption)) (by omega), rfl⟩ | exact ⟨resI_eq (unz_even HUL.out (by assumption)) (by omega), rfl⟩
          · have hi8 : i ≤ 8 := by have := HB1.out; omega
            have hnext : scan 0 0 (bs.drop p) = scan (i + 1) U (bs.drop (p + (i + 1))) := HSC.out.trans (by rw [scan_more HX.out HB1.out hl, HUe.out]; rfl)
            have HN := Lib.hid hnext
            clear hnext
            rcases hcase with ⟨t1, t2, t3, t4⟩ | ⟨t1, t2, t3, t4⟩ | ⟨t1, t2, t3, t4⟩
            all_goals
              go_wp2_with fail
              go_round
              case rel => exact ⟨i + 1, U, by omega, by omega, rfl, by go_num, HU, HN⟩
              case measure => simp [intOf]; omega
end Go.Proofs.YtdabmjcpiblofaaDoor
