/-
  forget: the walk. No condition.
-/
import Derived.Test.YtnjafhlpnoikcaaDkF
namespace Go.Proofs.Ytnjafhlpnoikcaa
open Go.RowKit
set_option linter.unusedVariables false

def ForgetPost (w : World) (d : Nat) (c0 c1 v c3 c4 c5 : Value) (e : Ending) (w' : World) : Prop :=
  e = .returned (.tuple #[]) ∧ Blk w' d 73 #[c0, c1, cutV v, c3, c4, c5] ∧ w'.ownsRow 0 77 2 (cutV v) 0 [] ∧ Chg w w' (fun b => b = d ∨ v.ownBlock = some b) ∧ w'.heap.size = w.heap.size
theorem cutV_own (v : Value) : (cutV v).ownBlock = v.ownBlock := by
  cases v with
  | slice a n c => cases a <;> rfl
  | _ => rfl

set_option maxRecDepth 100000 in
set_option maxHeartbeats 400000 in
theorem forget_any (d : Nat) (c0 c1 v c3 c4 c5 : Value) (n : Nat) (xs : List Value) (w : World) (h : Blk w d 73 #[c0, c1, v, c3, c4, c5]) (ho : w.ownsRow 0 77 2 v n xs) (hn : n ≤ 1000000000) :
    Calls Try.prog 38 #[.pointer (some ⟨d, 0, none⟩)] w (ForgetPost w d c0 c1 v c3 c4 c5) := by
  have hne : v.ownBlock ≠ some d := own_blk_ne ho h (by decide)
  have a2 : w.cell? ⟨d, 2, none⟩ = some v := by rw [h.cell]; rfl
  obtain ⟨w1, hrun, ho1, hg1, hs1⟩ := clear_own (w := w) 0 ho
  have hb1 : Blk w1 d 73 #[c0, c1, v, c3, c4, c5] := h.grown hg1 (fun e => hne e.symm)
  have b2 : w1.cell? ⟨d, 2, none⟩ = some v := by rw [hb1.cell]; rfl
  have f2 := hb1.frozen 2
  have HE : Hid (ForgetPost w d c0 c1 v c3 c4 c5 (.returned (.tuple #[])) (w1.setCell ⟨d, 2, none⟩ (cutV v))) := by
    refine ⟨rfl, by simpa using hb1.set_ 2 (cutV v), ?_, ?_, by simp [World.setCell, hs1]⟩
    · exact owns_chg ho1 (chg_d w1 d 2 (cutV v)) (fun g hg e => hne (by rw [cutV_own] at hg; rw [hg, e]))
    · exact (Chg.of_grown hg1 (fun g e => .inr e)).setCell (p := ⟨d, 2, none⟩) (.inl (.inl rfl)) _
  obtain ⟨A, c, rfl, -, -⟩ := reads_of_owns ho
  have HR := Lib.hid hrun
  have HC : Hid (n ≤ c) := by
    show n ≤ c
    rcases ho.2 with ⟨h0, h1⟩ | ⟨g, cap, cur, hv, _, _, hnc, _⟩
    · omega
    · injection hv with _ _ hc; omega
  have HCC : Hid (A = none → c = 0) := by
    intro hA
    rcases ho.2 with ⟨h0, h1⟩ | ⟨g, cap, cur, hv, _⟩
    · injection h0
    · injection hv with hA' _ _; rw [hA] at hA'; cases hA'
  clear h ho ho1 hg1 hs1 hrun hb1 hne
  cases A with
  | none =>
    obtain rfl : c = 0 := HCC.out rfl
    obtain rfl : n = 0 := by have := HC.out; omega
    go_enter Try.func38, Try.ntmps38
    go_wp2_with (refine wpList_clear rfl (.tmp 5) 67 rfl _ rfl w1 HR.out ?_)
    go_end0
    exact HE.out
  | some ad =>
    go_enter Try.func38, Try.ntmps38
    go_wp2_with (refine wpList_clear rfl (.tmp 5) 67 rfl _ rfl w1 HR.out ?_)
    go_end0
    exact HE.out
end Go.Proofs.Ytnjafhlpnoikcaa
