/-
  New: a disk is made. No condition.
-/
import Derived.Test.YtnjafhlpnoikcaaDkC
import Derived.Laws.MakeOwn
namespace Go.Proofs.Ytnjafhlpnoikcaa
open Go.RowKit
set_option linter.unusedVariables false

theorem madeCells_one (v : Value) (n : Nat) : madeCells #[v] n = (List.replicate n v).toArray := by
  unfold madeCells
  apply Array.ext
  · simp
  · intro i h1 h2
    simp [Nat.mod_one]
theorem make_bytes (n : Nat) (hn : n ≤ 1000000) (w : World) : (Instr.makeSlice 32 (.int .i64 (n : Int)) (.int .i64 (n : Int))).run Try.prog w = .ok (.slice (some ⟨w.heap.size, 0, none⟩) n n) (w.alloc (.cells (Array.replicate n (Value.int .u8 0)) 5)) := by
  obtain ⟨i, hi, hz, hs, hb⟩ := info_parts byte_info
  have h := run_make (P := Try.prog) w 32 5 i (.int .u8 0) Try.underlying32 hi hz .i64 .i64 n n (by omega) (by omega) (by rw [hb]; omega) (by omega)
  rw [hs] at h
  simpa [madeCells_one, Value.cells] using h

def newS (n : Nat) : DS := { dur := List.replicate n 0, wait := [], off := false, fuse := none }
def NewPost (w : World) (n : Nat) (e : Ending) (w' : World) : Prop :=
  ∃ d M, e = .returned (.tuple #[.pointer (some ⟨d, 0, none⟩), .int .i64 0]) ∧ DiskAt w' d (newS n) M (fun _ => False) ∧ (∀ b, M b → w.heap.size ≤ b) ∧ Below w.heap.size w w'

theorem new_made (n : Nat) (w : World) (h1 : 64 ≤ n) (h2 : n ≤ 131072) : NewPost w n (.returned (.tuple #[.pointer (some ⟨w.heap.size, 0, none⟩), .int .i64 0]))
    (((w.alloc (.cells #[.slice (some ⟨w.heap.size + 1, 0, none⟩) n n, .slice (some ⟨w.heap.size + 1 + 1, 0, none⟩) n n, .slice none 0 0, .bool false, .bool false, .int .i64 0] 73)).alloc (.cells (Array.replicate n (.int .u8 0)) 5)).alloc (.cells (Array.replicate n (.int .u8 0)) 5)) := by
  have e : ((List.replicate n 0).map byt).toArray = Array.replicate n (Value.int .u8 0) := by simp [byt]
  refine ⟨w.heap.size, fun b => w.heap.size ≤ b ∧ b < w.heap.size + 3, rfl, ⟨w.heap.size + 1, w.heap.size + 2, n, n, .slice none 0 0, 0, [], ?_⟩, fun b h => h.1, (((Below.refl _ w).alloc (Nat.le_refl _) _).alloc (by simp) _).alloc (by simp; omega) _⟩
  refine ⟨?_, ?_, ?_, by omega, ⟨by omega, by omega⟩, ⟨by omega, by omega⟩, ⟨by omega, by omega⟩, ⟨⟨rfl, .inl ⟨rfl, rfl⟩⟩, fun g hg => by simp [Value.ownBlock] at hg, fun x hx => by cases hx⟩, rfl, ⟨by simpa [newS] using h1, by simpa [newS] using h2, fun x hx => ?_, by simp [newS], fun p hp => by simp [newS] at hp⟩, fun k hk => by simp [newS] at hk, ⟨by omega, by omega⟩, fun _ _ h => h, fun b hb => ?_⟩
  · have := ((Blk.new w 73 #[.slice (some ⟨w.heap.size + 1, 0, none⟩) n n, .slice (some ⟨w.heap.size + 1 + 1, 0, none⟩) n n, .slice none 0 0, .bool false, .bool false, .int .i64 0]).alloc (.cells (Array.replicate n (.int .u8 0)) 5)).alloc (.cells (Array.replicate n (.int .u8 0)) 5)
    simpa [newS] using this
  · have := (Blk.new (w.alloc (.cells #[.slice (some ⟨w.heap.size + 1, 0, none⟩) n n, .slice (some ⟨w.heap.size + 1 + 1, 0, none⟩) n n, .slice none 0 0, .bool false, .bool false, .int .i64 0] 73)) 5 (Array.replicate n (.int .u8 0))).alloc (.cells (Array.replicate n (.int .u8 0)) 5)
    have h2 : RowB _ (w.heap.size + 1) (List.replicate n 0).length (List.replicate n 0) := RowB.of_blk (by rw [e]; simpa using this)
    rw [List.length_replicate] at h2
    exact h2
  · have := Blk.new ((w.alloc (.cells #[.slice (some ⟨w.heap.size + 1, 0, none⟩) n n, .slice (some ⟨w.heap.size + 1 + 1, 0, none⟩) n n, .slice none 0 0, .bool false, .bool false, .int .i64 0] 73)).alloc (.cells (Array.replicate n (.int .u8 0)) 5)) 5 (Array.replicate n (.int .u8 0))
    have h2 : RowB _ (w.heap.size + 2) (List.replicate n 0).length (List.replicate n 0) := RowB.of_blk (by rw [e]; simpa using this)
    rw [List.length_replicate] at h2
    exact h2
  · simp [newS] at hx; omega
  · rcases hb with hb | hb
    · simp; omega
    · exact hb.elim

set_option maxRecDepth 100000 in
set_option maxHeartbeats 400000 in
theorem new_yes (n : Nat) (w : World) (h1 : 64 ≤ n) (h2 : n ≤ 131072) : Calls Try.prog 9 #[.int .i64 (n : Int)] w (NewPost w n) := by
  have mk := make_bytes n (by omega)
  have d1 : decide ((n : Int) < 64) = false := by simp; omega
  have d2 : decide ((131072 : Int) < (n : Int)) = false := by simp; omega
  go_enter Try.func9, Try.ntmps9
  go_wp2_with fail
  refine bodyPost_ret (v := .tuple #[.pointer (some ⟨w.heap.size, 0, none⟩), .int .i64 0]) (by simp [results, Try.results9, go_sem]) rfl ?_
  exact new_made n w h1 h2
set_option maxRecDepth 100000 in
set_option maxHeartbeats 400000 in
theorem new_no (n : Int) (w : World) (h : n < 64 ∨ 131072 < n) : Calls Try.prog 9 #[.int .i64 n] w fun e w' => e = .returned (.tuple #[.pointer none, .int .i64 5]) ∧ w = w' := by
  by_cases h1 : n < 64
  · have d1 : decide (n < 64) = true := by simpa using h1
    go_enter Try.func9, Try.ntmps9
    go_wp2_with fail
    go_ret2
    exact ⟨rfl, rfl⟩
  · have d1 : decide (n < 64) = false := by simpa using h1
    have h2 : 131072 < n := by omega
    go_enter Try.func9, Try.ntmps9
    go_wp2_with fail
    go_ret2
    exact ⟨rfl, rfl⟩
end Go.Proofs.Ytnjafhlpnoikcaa
