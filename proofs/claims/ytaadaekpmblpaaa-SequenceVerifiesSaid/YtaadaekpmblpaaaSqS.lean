/-
  SamePairs, Same: equal ones are equal. No condition.
-/
import Derived.Test.YtaadaekpmblpaaaSqT
namespace Go.Proofs.Ytaadaekpmblpaaa
open Go.RowKit
set_option linter.unusedVariables false

set_option maxRecDepth 100000 in
set_option maxHeartbeats 400000 in
theorem samePairs_eq (A : Option Addr) (n c : Nat) (A' : Option Addr) (c' : Nat) (ps : List (Int × Int)) (w : World) (B : Nat) (hn : n ≤ 1000000) (h1 : Prs w B A n ps) (h2 : Prs w B A' n ps) :
    Calls Try.prog 25 #[.slice A n c, .slice A' n c'] w fun e w' => e = .returned (.bool true) ∧ ∃ m, w' = w.drewN m := by
  have H1 := Lib.hid h1
  have H2 := Lib.hid h2
  have hg := guard45
  have he := equal_pair
  clear h1 h2
  go_enter Try.func25, Try.ntmps25
  go_wp2_with fail
  go_loopw [5] (fun i wr => ∃ (j d : Nat), j ≤ n ∧ i = .int .i64 (j : Int) ∧ wr = w.drewN d) (fun i _ => n - (intOf i).toNat)
  case atStart => exact ⟨0, 0, by omega, rfl, rfl⟩
  case round =>
    obtain ⟨j, d, hj, rfl, rfl⟩ := hrel
    by_cases hlt : j < n
    · obtain ⟨b, off, x, y, rfl, hb, hx, c1, c2⟩ := Prs.at_ H1.out hlt
      obtain ⟨b', off', x', y', rfl, hb', hx', c1', c2'⟩ := Prs.at_ H2.out hlt
      rw [hx] at hx'
      injection hx' with hx'
      injection hx' with hx1 hx2
      subst hx1 hx2
      clear hx hb hb'
      go_wp2_with fail
      go_quiet (fail)
      go_wp2_with fail
      go_roundw
      case rel => exact ⟨j + 1, _, by omega, by go_num, rfl⟩
      case measure => simp [intOf] <;> omega
    · go_wp2_with fail
      go_ret
      exact ⟨rfl, _, rfl⟩

def SamePost (w : World) (e : Ending) (w' : World) : Prop := e = .returned (.bool true) ∧ Below w.heap.size w w'

set_option maxRecDepth 100000 in
set_option maxHeartbeats 4000000 in
theorem same_eq (A : Option Addr) (n c : Nat) (x : Int) (A1 : Option Addr) (n1 c1 : Nat) (A' : Option Addr) (c' : Nat) (A1' : Option Addr) (c1' : Nat) (ps : List (Int × Int)) (pot : List (List Int)) (w : World) (hn : n ≤ 1000000) (hn1 : n1 ≤ 1000000) (hx : ∀ r ∈ pot, r.length ≤ 1000000)
    (h1 : Prs w w.heap.size A n ps) (h2 : Prs w w.heap.size A' n ps) (h3 : Mat w w.heap.size A1 n1 pot) (h4 : Mat w w.heap.size A1' n1 pot) :
    Calls Try.prog 13 #[.agg #[.slice A n c, .int .i64 x, .slice A1 n1 c1], .agg #[.slice A' n c', .int .i64 x, .slice A1' n1 c1']] w (SamePost w) := by
  obtain ⟨w1, hw1⟩ : ∃ w1, w1 = (w.alloc (Obj.cells #[.slice A n c, .int .i64 x, .slice A1 n1 c1] 28)).alloc (Obj.cells #[.slice A' n c', .int .i64 x, .slice A1' n1 c1'] 28) := ⟨_, rfl⟩
  have hB1 : Below w.heap.size w w1 := by subst hw1; exact ((Below.refl _ w).alloc (Nat.le_refl _) _).alloc (by simp) _
  have hK1 : Blk w1 w.heap.size 28 #[.slice A n c, .int .i64 x, .slice A1 n1 c1] := by subst hw1; exact (Blk.new _ _ _).alloc _
  have hK2 : Blk w1 (w.heap.size + 1) 28 #[.slice A' n c', .int .i64 x, .slice A1' n1 c1'] := by
    subst hw1
    have := Blk.new (w.alloc (Obj.cells #[.slice A n c, .int .i64 x, .slice A1 n1 c1] 28)) 28 #[.slice A' n c', .int .i64 x, .slice A1' n1 c1']
    simpa using this
  have HP := Lib.hid (fun d => samePairs_eq A n c A' c' ps (w1.drewN d) w.heap.size hn (h1.below (below_drewN hB1 d)) (h2.below (below_drewN hB1 d)))
  have a0 := hK1.cell 0
  have a1 := hK1.cell 1
  have a2 := hK1.cell 2
  have b0 := hK2.cell 0
  have b1 := hK2.cell 1
  have b2 := hK2.cell 2
  simp at a0 a1 a2 b0 b1 b2
  have HB1 := Lib.hid hB1
  have HM1 := Lib.hid (h3.below hB1)
  have HM2 := Lib.hid (h4.below hB1)
  have HX := Lib.hid hx
  have HW := Lib.hid hw1
  clear h1 h2 h3 h4 hx hB1 hK1 hK2 hw1
  go_enter Try.func13, Try.ntmps13
  go_wp2_with fail
  rw [← HW.out]
  refine (HP.out 0).mono ?_
  rintro e w2 ⟨rfl, m0, rfl⟩
  go_wp2_with fail
  go_loopw [5] (fun i wr => ∃ (j d : Nat), j ≤ n1 ∧ i = .int .i64 (j : Int) ∧ wr = w1.drewN d) (fun i _ => n1 - (intOf i).toNat)
  case atStart => exact ⟨0, _, by omega, rfl, rfl⟩
  case round =>
    obtain ⟨j, d, hj, rfl, rfl⟩ := hrel
    by_cases hlt : j < n1
    · obtain ⟨b, off, Ar, nr, cr, r, rfl, hb, hx, hcell, hrow⟩ := HM1.out.row hlt
      obtain ⟨b', off', Ar', nr', cr', r', rfl, hb', hx', hcell', hrow'⟩ := HM2.out.row hlt
      rw [hx] at hx'
      injection hx' with hx'
      subst hx'
      obtain rfl : nr' = nr := by rw [← Ints.len hrow, ← Ints.len hrow']
      have hnr : nr' ≤ 1000000 := by rw [← Ints.len hrow]; exact HX.out r (List.mem_of_getElem? hx)
      have HR := Lib.hid hrow
      have HR' := Lib.hid hrow'
      clear hx hb hb' hrow hrow'
      go_wp2_with fail
      go_quiet (fail)
      go_wp2_with fail
      go_loopw [6] (fun i wr => ∃ (k d : Nat), k ≤ nr' ∧ i = .int .i64 (k : Int) ∧ wr = w1.drewN d) (fun i _ => nr' - (intOf i).toNat)
      case atStart => exact ⟨0, _, by omega, rfl, World.drewN_drewN _ _ _⟩
      case round =>
        obtain ⟨k, d, hk, rfl, rfl⟩ := hrel
        by_cases hkt : k < nr'
        · obtain ⟨bb, oo, xx, rfl, hbb, hxx, hcc⟩ := Ints.at_ HR.out hkt
          obtain ⟨bb', oo', xx', rfl, hbb', hxx', hcc'⟩ := Ints.at_ HR'.out hkt
          rw [hxx] at hxx'
          injection hxx' with hxx'
          subst hxx'
          clear hbb hbb' hxx
          go_wp2_with fail
          go_quiet (fail)
          go_wp2_with fail
          go_roundw
          case rel => exact ⟨k + 1, _, by omega, by go_num, rfl⟩
          case measure => simp [intOf] <;> omega
        · go_wp2_with fail
          go_roundw
          case rel => exact ⟨j + 1, _, by omega, by go_num, rfl⟩
          case measure => simp [intOf] <;> omega
    · go_wp2_with fail
      go_ret
      exact ⟨rfl, below_drewN HB1.out _⟩
end Go.Proofs.Ytaadaekpmblpaaa
