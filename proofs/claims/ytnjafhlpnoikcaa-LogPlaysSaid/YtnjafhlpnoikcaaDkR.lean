/-
  The reference's disk in memory; its small functions. No condition.
-/
import Derived.Test.YtnjafhlpnoikcaaDkN
namespace Go.Proofs.Ytnjafhlpnoikcaa
open Go.RowKit
set_option linter.unusedVariables false

def leftR : Option Nat → Int
  | none => -1
  | some k => (k : Int)
/-- the reference's disk at block r -/
structure RefX (w : World) (r g c : Nat) (v : Value) (ws : List Wr) (s : DS) (M I : Nat → Prop) : Prop where
  blk : Blk w r 81 #[.slice (some ⟨g, 0, none⟩) s.dur.length c, v, .int .i64 (leftR s.fuse), .bool s.off]
  dur : RowB w g c s.dur
  mr : M r
  mg : M g
  waits : Waits w 83 M I v ws
  wsv : ws.map wof = s.wait
  ok : s.ok
  left : leftR s.fuse ≤ 9223372036854775807
  apart : ∀ b, M b → ¬ I b
  lt : ∀ b, M b ∨ I b → b < w.heap.size
def RefAt (w : World) (r : Nat) (s : DS) (M I : Nat → Prop) : Prop := ∃ g c v ws, RefX w r g c v ws s M I
def RThen (w : World) (r : Nat) (s' : DS) (M I : Nat → Prop) (w' : World) : Prop :=
  ∃ M' I', RefAt w' r s' M' I' ∧ Chg w w' M ∧ (∀ x, M' x → M x ∨ w.heap.size ≤ x) ∧ (∀ x, I' x → I x ∨ w.heap.size ≤ x)
section
variable {w w' : World} {M I M' : Nat → Prop} {r g c : Nat} {v : Value} {ws : List Wr} {s : DS}
theorem rthen_same (h : RefAt w' r s M I) (hc : Chg w w' M) : RThen w r s M I w' := ⟨M, I, h, hc, fun _ h => .inl h, fun _ h => .inl h⟩
theorem RefX.chg (h : RefX w r g c v ws s M I) (hc : Chg w w' M') (h1 : ∀ b, M' b → ¬ M b) (h2 : ∀ b, M' b → ¬ I b) : RefX w' r g c v ws s M I :=
  ⟨h.blk.chg hc (fun hm => h1 _ hm h.mr), h.dur.chg hc (fun hm => h1 _ hm h.mg), h.mr, h.mg, h.waits.chg hc h1 h2, h.wsv, h.ok, h.left, h.apart, fun b hb => Nat.lt_of_lt_of_le (h.lt b hb) hc.size⟩
theorem RefAt.chg (h : RefAt w r s M I) (hc : Chg w w' M') (h1 : ∀ b, M' b → ¬ M b) (h2 : ∀ b, M' b → ¬ I b) : RefAt w' r s M I := by
  obtain ⟨g, c, v, ws, hx⟩ := h
  exact ⟨g, c, v, ws, hx.chg hc h1 h2⟩
theorem RefX.cells (h : RefX w r g c v ws s M I) : w.cell? ⟨r, 0, none⟩ = some (.slice (some ⟨g, 0, none⟩) s.dur.length c) ∧ w.cell? ⟨r, 1, none⟩ = some v ∧ w.cell? ⟨r, 2, none⟩ = some (.int .i64 (leftR s.fuse)) ∧ w.cell? ⟨r, 3, none⟩ = some (.bool s.off) :=
  ⟨by rw [h.blk.cell]; rfl, by rw [h.blk.cell]; rfl, by rw [h.blk.cell]; rfl, by rw [h.blk.cell]; rfl⟩
theorem RefX.ds (h : RefX w r g c v ws s M I) : g ≠ r ∧ v.ownBlock ≠ some r ∧ v.ownBlock ≠ some g :=
  ⟨h.dur.ne_ h.blk (by decide), own_blk_ne h.waits.own h.blk (by decide), h.dur.own_ne h.waits.own (by decide)⟩
/-- the power alone is changed -/
theorem RefX.power (h : RefX w r g c v ws s M I) (hc : Chg w w' (fun b => b = r)) {off' : Bool} {fuse' : Option Nat}
    (hb : Blk w' r 81 #[.slice (some ⟨g, 0, none⟩) s.dur.length c, v, .int .i64 (leftR fuse'), .bool off']) (hl : leftR fuse' ≤ 9223372036854775807) : RefX w' r g c v ws { s with off := off', fuse := fuse' } M I :=
  ⟨hb, h.dur.chg hc h.ds.1, h.mr, h.mg, h.waits.keep hc (fun g hg e => h.ds.2.1 (e ▸ hg)) (fun b hI e => h.apart b (e ▸ h.mr) hI), h.wsv, ⟨h.ok.lo, h.ok.hi, h.ok.byt, h.ok.few, h.ok.fit⟩, hl, h.apart, fun b hb => Nat.lt_of_lt_of_le (h.lt b hb) hc.size⟩
end

set_option maxRecDepth 100000 in
set_option maxHeartbeats 400000 in
theorem rpending_any (r : Nat) (s : DS) (M I : Nat → Prop) (w : World) (h : RefAt w r s M I) : Calls Try.prog 50 #[.pointer (some ⟨r, 0, none⟩)] w fun e w' => e = .returned (.int .i64 s.wait.length) ∧ w = w' := by
  obtain ⟨g, c, v, ws, hx⟩ := h
  obtain ⟨c0, c1, c2, c3⟩ := hx.cells
  obtain ⟨A, cc, rfl⟩ := hx.waits.slice
  have hl : s.wait.length = ws.length := by rw [← hx.wsv]; simp
  rw [hl]
  clear hx hl
  go_enter Try.func50, Try.ntmps50
  go_wp2_with fail
  go_ret
  simp
set_option maxRecDepth 100000 in
set_option maxHeartbeats 400000 in
theorem rsize_any (r : Nat) (s : DS) (M I : Nat → Prop) (w : World) (h : RefAt w r s M I) : Calls Try.prog 43 #[.pointer (some ⟨r, 0, none⟩)] w fun e w' => e = .returned (.int .i64 s.dur.length) ∧ w = w' := by
  obtain ⟨g, c, v, ws, hx⟩ := h
  obtain ⟨c0, c1, c2, c3⟩ := hx.cells
  clear hx
  go_enter Try.func43, Try.ntmps43
  go_wp2_with fail
  go_ret
  simp

set_option maxRecDepth 100000 in
set_option maxHeartbeats 800000 in
theorem rinside_any (d g N c : Nat) (a n : Int) (w : World) (hN : N ≤ 131072) (hn : n ≤ 9223372036854775807) (hc : w.cell? ⟨d, 0, none⟩ = some (.slice (some ⟨g, 0, none⟩) N c)) :
    Calls Try.prog 40 #[.pointer (some ⟨d, 0, none⟩), .int .i64 a, .int .i64 n] w fun e w' => e = .returned (.bool (insideB N a n)) ∧ w = w' := by
  by_cases h1 : 0 ≤ a
  rotate_left
  · have e : insideB N a n = false := by simp [insideB]; omega
    have d1 : decide (0 ≤ a) = false := by simpa using h1
    rw [e]
    go_enter Try.func40, Try.ntmps40
    go_wp2_with fail
    go_ret
    exact ⟨rfl, rfl⟩
  have d1 : decide (0 ≤ a) = true := by simpa using h1
  by_cases h2 : 0 ≤ n
  rotate_left
  · have e : insideB N a n = false := by simp [insideB]; omega
    have d2 : decide (0 ≤ n) = false := by simpa using h2
    rw [e]
    go_enter Try.func40, Try.ntmps40
    go_wp2_with fail
    go_ret
    exact ⟨rfl, rfl⟩
  have d2 : decide (0 ≤ n) = true := by simpa using h2
  by_cases h3 : a ≤ N
  rotate_left
  · have e : insideB N a n = false := by simp [insideB]; omega
    have d3 : decide (a ≤ (N : Int)) = false := by simpa using h3
    rw [e]
    go_enter Try.func40, Try.ntmps40
    go_wp2_with fail
    go_ret
    exact ⟨rfl, rfl⟩
  have d3 : decide (a ≤ (N : Int)) = true := by simpa using h3
  have e : insideB N a n = decide (n ≤ (N : Int) - a) := by simp [insideB, h1, h2, h3]
  rw [e]
  go_enter Try.func40, Try.ntmps40
  go_wp2_with fail
  go_ret
  exact ⟨rfl, rfl⟩

def BurnPost (w : World) (r g c : Nat) (v : Value) (ws : List Wr) (s : DS) (M I : Nat → Prop) (e : Ending) (w' : World) : Prop :=
  e = .returned (.bool (spendS s).1) ∧ RefX w' r g c v ws (spendS s).2 M I ∧ Chg w w' (fun b => b = r) ∧ w'.heap.size = w.heap.size
set_option maxRecDepth 100000 in
set_option maxHeartbeats 400000 in
theorem burn_any (r g c : Nat) (v : Value) (ws : List Wr) (s : DS) (M I : Nat → Prop) (w : World) (h : RefX w r g c v ws s M I) :
    Calls Try.prog 41 #[.pointer (some ⟨r, 0, none⟩)] w (BurnPost w r g c v ws s M I) := by
  obtain ⟨c0, c1, c2, c3⟩ := h.cells
  have f3 := h.blk.frozen 3
  have f2 := h.blk.frozen 2
  cases hf : s.fuse with
  | none =>
    have HE : Hid (BurnPost w r g c v ws s M I (.returned (.bool true)) w) := by
      refine ⟨?_, ?_, Chg.refl _ _, rfl⟩
      · simp [spendS, hf]
      · simpa [spendS, hf] using h
    rw [hf] at c2
    have c2' : w.cell? ⟨r, 2, none⟩ = some (.int .i64 (-1)) := c2
    clear h hf c2
    go_enter Try.func41, Try.ntmps41
    go_wp2_with fail
    go_ret
    exact HE.out
  | some k =>
    have hl := h.left
    rw [hf] at c2 hl
    cases k with
    | zero =>
      have HE : Hid (BurnPost w r g c v ws s M I (.returned (.bool false)) (w.setCell ⟨r, 3, none⟩ (.bool true))) := by
        refine ⟨by simp [spendS, hf], ?_, chg_d w r 3 _, by simp [World.setCell]⟩
        have hb := h.blk.set_ 3 (.bool true)
        have := h.power (off' := true) (fuse' := s.fuse) (chg_d w r 3 (.bool true)) (by simpa using hb) h.left
        simpa [spendS, hf] using this
      have c2' : w.cell? ⟨r, 2, none⟩ = some (.int .i64 0) := c2
      clear h hf c2
      go_enter Try.func41, Try.ntmps41
      go_wp2_with fail
      go_ret
      exact HE.out
    | succ k =>
      have hl' : ((k + 1 : Nat) : Int) ≤ 9223372036854775807 := hl
      have HE : Hid (BurnPost w r g c v ws s M I (.returned (.bool true)) (w.setCell ⟨r, 2, none⟩ (.int .i64 (k : Int)))) := by
        refine ⟨by simp [spendS, hf], ?_, chg_d w r 2 _, by simp [World.setCell]⟩
        have hb := h.blk.set_ 2 (.int .i64 (k : Int))
        have := h.power (off' := s.off) (fuse' := some k) (chg_d w r 2 (.int .i64 (k : Int))) (by simpa [leftR] using hb) (by simp [leftR]; omega)
        simpa [spendS, hf] using this
      have hne : (((k : Int) + 1) == 0) = false := by simp; omega
      have c2' : w.cell? ⟨r, 2, none⟩ = some (.int .i64 ((k : Int) + 1)) := by rw [c2]; simp [leftR]
      clear h hf c2 hl
      go_enter Try.func41, Try.ntmps41
      go_wp2_with fail
      go_ret
      exact HE.out

def RFusePost (w : World) (r : Nat) (s : DS) (M I : Nat → Prop) (n : Int) (e : Ending) (w' : World) : Prop :=
  e = .returned (.tuple #[]) ∧ RThen w r (fuseS s n) M I w'
set_option maxRecDepth 100000 in
set_option maxHeartbeats 400000 in
theorem rfuse_any (r : Nat) (s : DS) (M I : Nat → Prop) (n : Int) (w : World) (h : RefAt w r s M I) (hn : n ≤ 9223372036854775807) :
    Calls Try.prog 27 #[.pointer (some ⟨r, 0, none⟩), .int .i64 n] w (RFusePost w r s M I n) := by
  obtain ⟨g, c, v, ws, h⟩ := h
  obtain ⟨c0, c1, c2, c3⟩ := h.cells
  have f2 := h.blk.frozen 2
  have HE : Hid (∀ l : Int, l = max n (-1) → RFusePost w r s M I n (.returned (.tuple #[])) (w.setCell ⟨r, 2, none⟩ (.int .i64 l))) := by
    intro l hl
    have e : leftR (fuseS s n).fuse = l := by
      rw [hl]
      unfold fuseS
      by_cases hn : n < 0
      · simp [hn, leftR]; omega
      · simp [hn, leftR]; omega
    refine ⟨rfl, rthen_same ⟨g, c, v, ws, ?_⟩ ((chg_d w r 2 _).mono (fun i e => by rw [e]; exact h.mr))⟩
    have hb := h.blk.set_ 2 (.int .i64 l)
    exact h.power (off' := s.off) (fuse' := (fuseS s n).fuse) (chg_d w r 2 (.int .i64 l)) (by rw [e]; simpa using hb) (by rw [e]; omega)
  clear h
  go_enter Try.func27, Try.ntmps27
  go_wp2_with fail
  all_goals
    go_end0
    exact HE.out _ (by omega)

def RNewPost (w : World) (n : Nat) (e : Ending) (w' : World) : Prop :=
  ∃ r M, e = .returned (.tuple #[.pointer (some ⟨r, 0, none⟩), .int .i64 0]) ∧ RefAt w' r (newS n) M (fun _ => False) ∧ (∀ b, M b → w.heap.size ≤ b) ∧ Below w.heap.size w w'
theorem rnew_made (n : Nat) (w : World) (h1 : 64 ≤ n) (h2 : n ≤ 131072) : RNewPost w n (.returned (.tuple #[.pointer (some ⟨w.heap.size + 1, 0, none⟩), .int .i64 0]))
    ((w.alloc (.cells (Array.replicate n (.int .u8 0)) 5)).alloc (.cells #[.slice (some ⟨w.heap.size, 0, none⟩) n n, .slice none 0 0, .int .i64 (-1), .bool false] 81)) := by
  have e : ((List.replicate n 0).map byt).toArray = Array.replicate n (Value.int .u8 0) := by simp [byt]
  refine ⟨w.heap.size + 1, fun b => w.heap.size ≤ b ∧ b < w.heap.size + 2, rfl, ⟨w.heap.size, n, .slice none 0 0, [], ?_⟩, fun b h => h.1, ((Below.refl _ w).alloc (Nat.le_refl _) _).alloc (by simp) _⟩
  refine ⟨?_, ?_, ⟨by omega, by omega⟩, ⟨by omega, by omega⟩, ⟨⟨rfl, .inl ⟨rfl, rfl⟩⟩, fun g hg => by simp [Value.ownBlock] at hg, fun x hx => by cases hx⟩, rfl, ⟨by simpa [newS] using h1, by simpa [newS] using h2, fun x hx => ?_, by simp [newS], fun p hp => by simp [newS] at hp⟩, by simp [newS, leftR], fun _ _ h => h, fun b hb => ?_⟩
  · have := Blk.new (w.alloc (.cells (Array.replicate n (.int .u8 0)) 5)) 81 #[.slice (some ⟨w.heap.size, 0, none⟩) n n, .slice none 0 0, .int .i64 (-1), .bool false]
    simpa [newS, leftR] using this
  · have h := (Blk.new w 5 (Array.replicate n (.int .u8 0))).alloc (.cells #[.slice (some ⟨w.heap.size, 0, none⟩) n n, .slice none 0 0, .int .i64 (-1), .bool false] 81)
    rw [← e] at h
    have := RowB.of_blk h
    simp only [List.length_replicate] at this
    rw [e] at this
    exact this
  · simp [newS] at hx; omega
  · rcases hb with hb | hb
    · simp; omega
    · exact hb.elim
set_option maxRecDepth 100000 in
set_option maxHeartbeats 400000 in
theorem rnew_yes (n : Nat) (w : World) (h1 : 64 ≤ n) (h2 : n ≤ 131072) : Calls Try.prog 18 #[.int .i64 (n : Int)] w (RNewPost w n) := by
  have mk := make_bytes n (by omega)
  have d1 : decide ((n : Int) < 64) = false := by simp; omega
  have d2 : decide ((131072 : Int) < (n : Int)) = false := by simp; omega
  have HE := Lib.hid (rnew_made n w h1 h2)
  go_enter Try.func18, Try.ntmps18
  go_wp2_with fail
  refine bodyPost_ret (v := .tuple #[.pointer (some ⟨w.heap.size + 1, 0, none⟩), .int .i64 0]) (by simp [results, Try.results18, go_sem]) rfl ?_
  exact HE.out
end Go.Proofs.Ytnjafhlpnoikcaa
