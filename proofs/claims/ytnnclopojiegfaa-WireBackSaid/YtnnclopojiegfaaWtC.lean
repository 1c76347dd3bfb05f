/-
  The reader's flag. No condition.
-/
import Derived.Test.YtnnclopojiegfaaWtB
namespace Go.Proofs.Ytnnclopojiegfaa
open Go.RowKit
set_option linter.unusedVariables false

def FlagPost (w : World) (r : Nat) (A : Option Addr) (n c : Nat) (o : Option (Bool × Nat)) (e : Ending) (w' : World) : Prop :=
  ∃ b, e = .returned (.bool b) ∧ (∀ y, o = some y → y.1 = b) ∧ Rd w' r A n c (o.map (·.2)) ∧ w.grownBy w' (some r)

set_option maxRecDepth 100000 in
set_option maxHeartbeats 400000 in
theorem flag_bad (r : Nat) (A : Option Addr) (n c : Nat) (z : Int) (w : World) (hb : Blk w r 55 #[.slice A n c, .int .i64 z, .bool true]) :
    Calls Try.prog 49 #[.pointer (some ⟨r, 0, none⟩)] w (FlagPost w r A n c none) := by
  have H1 := Lib.hid (octet_bad r A n c z w hb)
  clear hb
  go_enter Try.func49, Try.ntmps49
  go_wp2_with fail
  refine (H1.out).mono ?_
  rintro e w1 ⟨rfl, hb1, hg1⟩
  have HB := Lib.hid hb1
  have HG := Lib.hid hg1
  clear hb1 hg1 H1
  go_wp2_with fail
  go_ret
  exact ⟨_, rfl, (fun y h => by cases h), ⟨z, HB.out⟩, HG.out⟩

set_option maxRecDepth 100000 in
set_option maxHeartbeats 400000 in
theorem flag_ok (r : Nat) (A : Option Addr) (n c p : Nat) (bs : List Nat) (w : World) (hb : Blk w r 55 #[.slice A n c, .int .i64 (p : Int), .bool false]) (hp : p ≤ n) (hn : n ≤ 1000000000)
    (hr : Reads w r 1 A n (bs.map byt)) :
    Calls Try.prog 49 #[.pointer (some ⟨r, 0, none⟩)] w (FlagPost w r A n c (flagP bs p)) := by
  have hl : bs.length = n := by have := hr.1; simpa using this
  by_cases hlt : p < n
  · obtain ⟨x, hx⟩ : ∃ x, bs[p]? = some x := ⟨_, List.getElem?_eq_getElem (by omega)⟩
    have H1 := Lib.hid (octet_ok r A n c p x bs w hb hlt hn hr hx)
    have hf : flagP bs p = if 1 < x then none else some (x == 1, p + 1) := by unfold flagP; rw [hx]; rfl
    rw [hf]
    by_cases h1 : 1 < x
    · rw [if_pos h1]
      have d1 : decide ((1 : Int) < (x : Int)) = true := decide_eq_true (by omega)
      have d1' : decide (1 < x) = true := decide_eq_true h1
      clear hb hr hx hf
      go_enter Try.func49, Try.ntmps49
      go_wp2_with fail
      refine (H1.out).mono ?_
      rintro e w1 ⟨rfl, hb1, hg1⟩
      have c2 := hb1.cell 2
      have f2 := hb1.frozen 2
      simp at c2
      have HB := Lib.hid hb1
      have HG := Lib.hid hg1
      clear hb1 hg1 H1
      go_wp2_with fail
      go_ret
      exact ⟨_, rfl, (fun y h => by cases h), ⟨_, by simpa using HB.out.set_ 2 (.bool true)⟩, only_setCell HG.out (.inl rfl) _⟩
    · rw [if_neg h1]
      have d1 : decide ((1 : Int) < (x : Int)) = false := decide_eq_false (by omega)
      have d1' : decide (1 < x) = false := decide_eq_false h1
      have HX : Hid ((x == 1) = ((x : Int) == 1)) := by
        unfold Hid
        rcases (show x = 0 ∨ x = 1 by omega) with rfl | rfl <;> rfl
      clear hb hr hx hf
      go_enter Try.func49, Try.ntmps49
      go_wp2_with fail
      refine (H1.out).mono ?_
      rintro e w1 ⟨rfl, hb1, hg1⟩
      have HB := Lib.hid hb1
      have HG := Lib.hid hg1
      clear hb1 hg1 H1
      go_wp2_with fail
      go_ret
      refine ⟨_, rfl, (fun y h => ?_), ⟨by simpa using HB.out, by show p + 1 ≤ n; omega⟩, HG.out⟩
      injection h with h
      subst h
      simpa using HX.out
  · have hf : flagP bs p = none := by unfold flagP; rw [List.getElem?_eq_none (by omega)]; rfl
    rw [hf]
    have H1 := Lib.hid (octet_end r A n c p w hb (by omega))
    clear hb hr hf
    go_enter Try.func49, Try.ntmps49
    go_wp2_with fail
    refine (H1.out).mono ?_
    rintro e w1 ⟨rfl, hb1, hg1⟩
    have HB := Lib.hid hb1
    have HG := Lib.hid hg1
    clear hb1 hg1 H1
    go_wp2_with fail
    go_ret
    exact ⟨_, rfl, (fun y h => by cases h), ⟨_, HB.out⟩, HG.out⟩
end Go.Proofs.Ytnnclopojiegfaa
