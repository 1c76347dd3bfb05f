/-
  Solve: its five arrays are made in any order. No condition.
-/
import Derived.Test.YtgmhinmakomabaaAsF
import Derived.Test.YtgmhinmakomabaaInv
namespace Go.Proofs.Ytgmhinmakomabaa
open Go.RowKit
set_option linter.unusedVariables false

theorem find_region {P : Program} {c : Code} {Q : Exit → Act → World → Prop} {a : Act} {w : World} (h : c.wp P Q a w) : c.wp P Q a w := h

/-- what an operation of the region has yielded -/
def MkFact (w0 w : World) (A : Option Addr) (n cc : Nat) (c : Nat → Nat → Int) (i : Nat) (v : Value) : Prop :=
  match i with
  | 0 => v = .slice A n cc
  | 1 | 3 | 6 | 9 => v = .int .i64 (n : Int)
  | 2 | 4 => ∃ g, v = .slice (some ⟨g, 0, none⟩) n n ∧ IVec w g n (fun _ => 0) ∧ w0.heap.size ≤ g
  | 5 | 8 => ∃ g, v = .slice (some ⟨g, 0, none⟩) 1 1 ∧ w.cell? ⟨g, 0, none⟩ = some (.int .i64 (-1))
  | 7 | 10 => ∃ g, v = .slice (some ⟨g, 0, none⟩) n n ∧ IVec w g n (fun _ => -1) ∧ w0.heap.size ≤ g
  | 11 => ∃ u b t o, v = .agg #[.slice A n cc, .slice (some ⟨u, 0, none⟩) n n, .slice (some ⟨b, 0, none⟩) n n, .slice (some ⟨t, 0, none⟩) n n, .slice (some ⟨o, 0, none⟩) n n] ∧
      IVec w u n (fun _ => 0) ∧ IVec w b n (fun _ => 0) ∧ IVec w t n (fun _ => -1) ∧ IVec w o n (fun _ => -1) ∧ w0.heap.size ≤ u ∧ w0.heap.size ≤ b ∧ w0.heap.size ≤ t ∧ w0.heap.size ≤ o ∧ u ≠ b ∧ u ≠ t ∧ u ≠ o ∧ b ≠ t ∧ b ≠ o ∧ t ≠ o
  | _ => ∃ b : SB, v = .pointer (some ⟨b.g, 0, none⟩) ∧ Sv w w0.heap.size A n cc b c (fun _ => 0) (fun _ => 0) (fun _ => -1) (fun _ => -1)
theorem MkFact.below {w0 w w' : World} {A : Option Addr} {n cc : Nat} {c : Nat → Nat → Int} {i : Nat} {v : Value} (h : MkFact w0 w A n cc c i v) (hb : Below w.heap.size w w') (h0 : w0.heap.size ≤ w.heap.size) : MkFact w0 w' A n cc c i v := by
  unfold MkFact at h ⊢
  split at h
  · exact h
  · exact h
  · exact h
  · exact h
  · exact h
  · obtain ⟨g, a, b, d⟩ := h; exact ⟨g, a, b.below hb (Vec.lt b), d⟩
  · obtain ⟨g, a, b, d⟩ := h; exact ⟨g, a, b.below hb (Vec.lt b), d⟩
  · obtain ⟨g, a, b⟩ := h; exact ⟨g, a, (hb.cell (World.block_lt_of_cell? w _ b)).trans b⟩
  · obtain ⟨g, a, b⟩ := h; exact ⟨g, a, (hb.cell (World.block_lt_of_cell? w _ b)).trans b⟩
  · obtain ⟨g, a, b, d⟩ := h; exact ⟨g, a, b.below hb (Vec.lt b), d⟩
  · obtain ⟨g, a, b, d⟩ := h; exact ⟨g, a, b.below hb (Vec.lt b), d⟩
  · obtain ⟨u, b, t, o, a, h1, h2, h3, h4, h5⟩ := h
    exact ⟨u, b, t, o, a, h1.below hb (Vec.lt h1), h2.below hb (Vec.lt h2), h3.below hb (Vec.lt h3), h4.below hb (Vec.lt h4), h5⟩
  · obtain ⟨b, a, h1⟩ := h
    exact ⟨b, a, h1.below hb h0 h1.lt⟩
/-- which operations make an array -/
def mkArr (i : Nat) : Bool := i == 2 || i == 4 || i == 7 || i == 10
/-- the frame, with the yields of the region's operations -/
def mkAct (w : World) (A : Option Addr) (n cc : Nat) (v : Nat → Value) : Act :=
  { tmps := #[.slice A n cc, undef, .pointer (some { block := w.heap.size, off := 0 }), .int .i64 0, .int .i64 (n : Int), v 13, undef, undef, undef, undef, undef, .slice A n cc, .bool true, .bool false, undef, .slice A n cc, .int .i64 (n : Int),
      v 0, v 1, v 2, v 3, v 4, v 5, v 6, v 7, v 8, v 9, v 10, v 11, v 12, undef, undef, undef, undef, undef, undef, undef, undef, undef, undef, undef, undef, undef, undef, undef, undef, undef, undef, undef, undef, undef, undef, undef, undef, undef, undef, undef, undef, undef, undef, undef, undef, undef, undef, undef, undef, undef, undef, undef, undef, undef, undef, undef, undef, undef, undef, undef, undef, undef, undef],
    defers := [] }
/-- what is known whatever has run -/
def MkInv (w w0 : World) (A : Option Addr) (n cc : Nat) (c : Nat → Nat → Int) (listed : Array Bool) (a : Act) (wr : World) : Prop :=
  listed.size = 14 ∧ ∃ v, a = mkAct w A n cc v ∧ Below w0.heap.size w0 wr ∧ (∀ i, i < 14 → listed.getD i false = true → MkFact w0 wr A n cc c i (v i)) ∧
    (∀ i j, i < j → j < 14 → mkArr i = true → mkArr j = true → listed.getD i false = true → listed.getD j false = true → (v i).ownBlock ≠ (v j).ownBlock)
theorem MkInv.step {w w0 wr wr' : World} {A : Option Addr} {n cc : Nat} {c : Nat → Nat → Int} {listed : Array Bool} {v : Nat → Value} {i : Nat} {u : Value} (hs : listed.size = 14) (hb0 : Below w0.heap.size w0 wr)
    (hf : ∀ i, i < 14 → listed.getD i false = true → MkFact w0 wr A n cc c i (v i)) (hd : ∀ i j, i < j → j < 14 → mkArr i = true → mkArr j = true → listed.getD i false = true → listed.getD j false = true → (v i).ownBlock ≠ (v j).ownBlock)
    (hi : i < 14) (hb : Below wr.heap.size wr wr') (hu : MkFact w0 wr' A n cc c i u) (hn : mkArr i = true → ∀ g, u.ownBlock = some g → wr.heap.size ≤ g) :
    MkInv w w0 A n cc c (listed.setIfInBounds i true) (mkAct w A n cc (upd v i u)) wr' := by
  have hlt : ∀ k, k < 14 → mkArr k = true → listed.getD k false = true → ∃ g, (v k).ownBlock = some g ∧ g < wr.heap.size := fun k hk hm hl => by
    have h1 := hf k hk hl
    unfold mkArr at hm
    simp only [Bool.or_eq_true, beq_iff_eq] at hm
    rcases hm with ((rfl | rfl) | rfl) | rfl
    all_goals
      obtain ⟨g, e, hv, _⟩ := h1
      exact ⟨g, by rw [e]; rfl, Vec.lt hv⟩
  have hnew : mkArr i = true → ∃ g, u.ownBlock = some g ∧ wr.heap.size ≤ g := fun hm => by
    have hm' := hm
    unfold mkArr at hm
    simp only [Bool.or_eq_true, beq_iff_eq] at hm
    rcases hm with ((rfl | rfl) | rfl) | rfl
    all_goals
      obtain ⟨g, e, hv, _⟩ := hu
      have e2 : u.ownBlock = some g := by rw [e]; rfl
      exact ⟨g, e2, hn hm' g e2⟩
  refine ⟨by simpa using hs, upd v i u, rfl, hb0.trans (hb.mono hb0.size), fun j hj hl => ?_, fun j k hjk hk hmj hmk hlj hlk => ?_⟩
  · by_cases e : j = i
    · subst e; rw [upd_same]; exact hu
    · rw [upd_ne _ _ e]
      rw [getD_set _ _ _ _ (by omega), if_neg e] at hl
      exact (hf j hj hl).below hb hb0.size
  · rw [getD_set _ _ _ _ (by omega)] at hlj hlk
    by_cases e1 : j = i
    · subst e1
      rw [if_neg (by omega)] at hlk
      rw [upd_same, upd_ne _ _ (by omega)]
      obtain ⟨g, a1, a2⟩ := hlt k hk hmk hlk
      obtain ⟨g', b1, b2⟩ := hnew hmj
      rw [a1, b1]
      intro e
      injection e with e
      omega
    · rw [if_neg e1] at hlj
      rw [upd_ne _ _ e1]
      by_cases e2 : k = i
      · subst e2
        rw [upd_same]
        obtain ⟨g, a1, a2⟩ := hlt j (by omega) hmj hlj
        obtain ⟨g', b1, b2⟩ := hnew hmk
        rw [a1, b1]
        intro e
        injection e with e
        omega
      · rw [if_neg e2] at hlk
        rw [upd_ne _ _ e2]
        exact hd j k hjk hk hmj hmk hlj hlk
end Go.Proofs.Ytgmhinmakomabaa
