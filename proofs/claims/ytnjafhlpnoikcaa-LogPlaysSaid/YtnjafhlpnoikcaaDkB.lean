/-
  spend, Fuse: the power of a disk. No condition.
-/
import Derived.Test.YtnjafhlpnoikcaaDkA
namespace Go.Proofs.Ytnjafhlpnoikcaa
open Go.RowKit
set_option linter.unusedVariables false
section
variable {w w' : World} {M I M' : Nat → Prop}
theorem Waits.keep {e : TypeId} {v : Value} {ws : List Wr} (h : Waits w e M I v ws) (hc : Chg w w' M') (h1 : ∀ g, v.ownBlock = some g → ¬ M' g) (h2 : ∀ b, I b → ¬ M' b) : Waits w' e M I v ws :=
  ⟨owns_chg h.own hc h1, h.mine, fun x hx => by
    obtain ⟨q1, q2, q3⟩ := h.byt x hx
    exact ⟨(q1.chg hc (Nat.le_refl _) (fun ad e => h2 _ (q2 ad e))).more hc.size, q2, q3⟩⟩
theorem chg_d (w : World) (d i : Nat) (u : Value) : Chg w (w.setCell ⟨d, i, none⟩ u) (fun b => b = d) := (Chg.refl w (fun b => b = d)).setCell (p := ⟨d, i, none⟩) (.inl rfl) u
theorem Chg.setd {a b : World} {d : Nat} (h : Chg a b (fun b => b = d)) (i : Nat) (u : Value) : Chg a (b.setCell ⟨d, i, none⟩ u) (fun b => b = d) := h.setCell (p := ⟨d, i, none⟩) (.inl rfl) u
/-- the power alone is changed -/
theorem DiskX.power {d gd gs cd cs : Nat} {v : Value} {left : Int} {ws : List Wr} {s : DS} (h : DiskX w d gd gs cd cs v left ws s M I) (hc : Chg w w' (fun b => b = d)) {off' : Bool} {fuse' : Option Nat} {left' : Int}
    (hb : Blk w' d 73 #[.slice (some ⟨gd, 0, none⟩) s.dur.length cd, .slice (some ⟨gs, 0, none⟩) s.dur.length cs, v, .bool off', .bool fuse'.isSome, .int .i64 left'])
    (hf : ∀ k, fuse' = some k → left' = (k : Int)) (hl : 0 ≤ left' ∧ left' ≤ 9223372036854775807) : DiskX w' d gd gs cd cs v left' ws { s with off := off', fuse := fuse' } M I := by
  have e1 := h.dur.ne_ h.blk (by decide)
  have e2 := h.seen.ne_ h.blk (by decide)
  exact ⟨hb, h.dur.chg hc e1, h.seen.chg hc e2, h.ne, h.md, h.mgd, h.mgs, h.waits.keep hc (fun g hg e => own_blk_ne h.waits.own h.blk (by decide) (e ▸ hg)) (fun b hI e => h.apart b (e ▸ h.md) hI), h.wsv, ⟨h.ok.lo, h.ok.hi, h.ok.byt, h.ok.few, h.ok.fit⟩, hf, hl, h.apart, fun b hb => Nat.lt_of_lt_of_le (h.lt b hb) hc.size⟩
end

def SpendPost (w : World) (d gd gs cd cs : Nat) (v : Value) (ws : List Wr) (s : DS) (M I : Nat → Prop) (e : Ending) (w' : World) : Prop :=
  e = .returned (.bool (spendS s).1) ∧ (∃ left', DiskX w' d gd gs cd cs v left' ws (spendS s).2 M I) ∧ Chg w w' (fun b => b = d) ∧ w'.heap.size = w.heap.size

set_option maxRecDepth 100000 in
set_option maxHeartbeats 400000 in
theorem spend_any (d gd gs cd cs : Nat) (v : Value) (left : Int) (ws : List Wr) (s : DS) (M I : Nat → Prop) (w : World) (h : DiskX w d gd gs cd cs v left ws s M I) :
    Calls Try.prog 33 #[.pointer (some ⟨d, 3, none⟩)] w (SpendPost w d gd gs cd cs v ws s M I) := by
  obtain ⟨c0, c1, c2, c3, c4, c5⟩ := h.cells
  have f3 := h.blk.frozen 3
  have f5 := h.blk.frozen 5
  have HX := Lib.hid h
  cases hf : s.fuse with
  | none =>
    have HE : Hid (SpendPost w d gd gs cd cs v ws s M I (.returned (.bool true)) w) := by
      refine ⟨?_, ⟨left, ?_⟩, Chg.refl _ _, rfl⟩
      · simp [spendS, hf]
      · simpa [spendS, hf] using h
    rw [hf] at c4
    clear h hf
    go_enter Try.func33, Try.ntmps33
    go_wp2_with fail
    go_ret
    exact HE.out
  | some k =>
    have hl := h.fuse k hf
    have hl2 := h.left.2
    subst hl
    rw [hf] at c4
    cases k with
    | zero =>
      have HE : Hid (SpendPost w d gd gs cd cs v ws s M I (.returned (.bool false)) (w.setCell ⟨d, 3, none⟩ (.bool true))) := by
        refine ⟨by simp [spendS, hf], ⟨(0 : Nat), ?_⟩, chg_d w d 3 _, by simp [World.setCell]⟩
        have hb := h.blk.set_ 3 (.bool true)
        have := h.power (off' := true) (fuse' := s.fuse) (chg_d w d 3 (.bool true)) (by simpa using hb) h.fuse h.left
        simpa [spendS, hf] using this
      clear h hf
      rw [show ((0 : Nat) : Int) = 0 from rfl] at c5
      go_enter Try.func33, Try.ntmps33
      go_wp2_with fail
      go_ret
      exact HE.out
    | succ k =>
      have HE : Hid (SpendPost w d gd gs cd cs v ws s M I (.returned (.bool true)) (w.setCell ⟨d, 5, none⟩ (.int .i64 (k : Int)))) := by
        refine ⟨by simp [spendS, hf], ⟨(k : Int), ?_⟩, chg_d w d 5 _, by simp [World.setCell]⟩
        have hb := h.blk.set_ 5 (.int .i64 (k : Int))
        have := h.power (off' := s.off) (fuse' := some k) (left' := (k : Int)) (chg_d w d 5 (.int .i64 (k : Int))) (by simpa [hf] using hb) (fun j hj => by injection hj with hj; rw [hj]) ⟨by omega, by omega⟩
        simpa [spendS, hf] using this
      have hne : (((k : Int) + 1) == 0) = false := by simp; omega
      rw [show ((k + 1 : Nat) : Int) = (k : Int) + 1 by omega] at c5
      clear h hf
      go_enter Try.func33, Try.ntmps33
      go_wp2_with fail
      go_ret
      exact HE.out

def FusePost (w : World) (d : Nat) (s : DS) (M I : Nat → Prop) (n : Int) (e : Ending) (w' : World) : Prop :=
  e = .returned (.tuple #[]) ∧ DiskAt w' d (fuseS s n) M I ∧ Chg w w' (fun b => b = d) ∧ w'.heap.size = w.heap.size
set_option maxRecDepth 100000 in
set_option maxHeartbeats 400000 in
theorem fuse_any (d : Nat) (s : DS) (M I : Nat → Prop) (n : Int) (w : World) (h : DiskAt w d s M I) (hn : n ≤ 9223372036854775807) :
    Calls Try.prog 11 #[.pointer (some ⟨d, 0, none⟩), .int .i64 n] w (FusePost w d s M I n) := by
  obtain ⟨gd, gs, cd, cs, v, left, ws, h⟩ := h
  obtain ⟨c0, c1, c2, c3, c4, c5⟩ := h.cells
  have f4 := h.blk.frozen 4
  have f5 := h.blk.frozen 5
  have HE : Hid (∀ (b : Bool) (l : Int), b = decide (0 ≤ n) → l = max n 0 → FusePost w d s M I n (.returned (.tuple #[])) ((w.setCell ⟨d, 4, none⟩ (.bool b)).setCell ⟨d, 5, none⟩ (.int .i64 l))) := by
    intro b l hb hl
    refine ⟨rfl, ⟨gd, gs, cd, cs, v, l, ws, ?_⟩, (chg_d w d 4 _).setd 5 _, by simp [World.setCell]⟩
    have hb' := (h.blk.set_ 4 (.bool b)).set_ 5 (.int .i64 l)
    have := h.power (off' := s.off) (fuse' := (fuseS s n).fuse) (left' := l) ((chg_d w d 4 (.bool b)).setd 5 (.int .i64 l)) (by
      have e : (fuseS s n).fuse.isSome = b := by
        rw [hb]
        unfold fuseS
        by_cases hn : n < 0
        · simp [hn]
        · simp [hn]; omega
      rw [e]
      simpa using hb') (fun k hk => by
      unfold fuseS at hk
      by_cases hn : n < 0
      · simp [hn] at hk
      · simp [hn] at hk; omega) ⟨by omega, by omega⟩
    exact this
  clear h
  go_enter Try.func11, Try.ntmps11
  go_wp2_with fail
  all_goals
    go_end0
    exact HE.out _ _ (by simp <;> omega) (by omega)
end Go.Proofs.Ytnjafhlpnoikcaa
