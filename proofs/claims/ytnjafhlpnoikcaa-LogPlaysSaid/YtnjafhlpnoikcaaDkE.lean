/-
  Read. No condition.
-/
import Derived.Test.YtnjafhlpnoikcaaDkD
namespace Go.Proofs.Ytnjafhlpnoikcaa
open Go.RowKit
set_option linter.unusedVariables false

def ReadPost (w : World) (r : List Nat × Int) (e : Ending) (w' : World) : Prop :=
  ∃ A c, e = .returned (.tuple #[.slice A r.1.length c, .int .i64 r.2]) ∧ Reads w' w'.heap.size 1 A r.1.length (r.1.map byt) ∧ r.1.length ≤ c ∧ (∀ ad, A = some ad → w.heap.size ≤ ad.block) ∧ Below w.heap.size w w'
theorem read_none (w : World) (x : Int) : ReadPost w ([], x) (.returned (.tuple #[.slice none 0 0, .int .i64 x])) w := ⟨none, 0, rfl, Reads.none_, Nat.le_refl _, (fun ad e => by cases e), Below.refl _ _⟩
theorem inside_parts {N : Nat} {a n : Int} (h : insideB N a n = true) : ∃ a' n' : Nat, a = a' ∧ n = n' ∧ a' + n' ≤ N := by
  unfold insideB at h
  simp only [Bool.and_eq_true, decide_eq_true_eq] at h
  exact ⟨a.toNat, n.toNat, by omega, by omega, by omega⟩
/-- a part of a block of bytes -/
theorem blk_reads {w : World} {g : Nat} {l : List Nat} (h : Blk w g 5 (l.map byt).toArray) (a n : Nat) (hn : a + n ≤ l.length) : Reads w w.heap.size 1 (some ⟨g, a, none⟩) n (((l.drop a).take n).map byt) := by
  refine ⟨by simp; omega, fun _ => ⟨_, rfl, h.lt, fun j u hu => ?_⟩⟩
  rw [Addr.add_lit, h.cell]
  rw [List.getElem?_map, List.getElem?_take] at hu
  split at hu
  · rw [List.getElem?_drop] at hu
    simpa using hu
  · cases hu

set_option maxRecDepth 100000 in
set_option maxHeartbeats 400000 in
theorem read_any (d : Nat) (s : DS) (M I : Nat → Prop) (a n : Int) (w : World) (h : DiskAt w d s M I) (hn : n ≤ 9223372036854775807) :
    Calls Try.prog 46 #[.pointer (some ⟨d, 0, none⟩), .int .i64 a, .int .i64 n] w (ReadPost w (readS s a n)) := by
  obtain ⟨gd, gs, cd, cs, v, left, ws, h⟩ := h
  obtain ⟨c0, c1, c2, c3, c4, c5⟩ := h.cells
  have hN := h.ok.hi
  have HI := Lib.hid (inside_any d gd s.dur.length cd a n w hN hn c0)
  have hseen : (seenL s.dur s.wait).length = s.dur.length := seen_len _ _ h.ok.fit rfl
  obtain ⟨N, hNN⟩ : ∃ N, s.dur.length = N := ⟨_, rfl⟩
  have HNN := Lib.hid hNN
  have hcs : N ≤ cs := by have := h.seen.len; omega
  unfold readS
  rw [hNN] at c0 c1 hN HI hseen ⊢
  cases ho : s.off with
  | true =>
    rw [ho] at c3
    rw [if_pos rfl]
    have HE := Lib.hid (read_none w 15)
    clear h ho hNN hseen
    go_enter Try.func46, Try.ntmps46
    go_wp2_with fail
    go_ret2
    exact HE.out
  | false =>
    rw [ho] at c3
    rw [if_neg (by decide)]
    cases hi : insideB N a n with
    | false =>
      rw [hi] at HI
      have HE := Lib.hid (read_none w 5)
      rw [if_pos (by decide)]
      clear h ho hNN hseen hi
      go_enter Try.func46, Try.ntmps46
      go_wp2_with fail
      refine (HI.out).mono ?_
      rintro e w1 ⟨rfl, rfl⟩
      go_wp2_with fail
      go_ret2
      exact HE.out
    | true =>
      rw [hi] at HI
      rw [if_neg (by decide)]
      obtain ⟨a', n', rfl, rfl, han⟩ := inside_parts hi
      simp only [Int.toNat_natCast]
      have hlen : (((seenL s.dur s.wait).drop a').take n').length = n' := by simp; omega
      have hr := h.seen.reads a' n' (by rw [hseen]; exact han)
      obtain ⟨b, hb⟩ : ∃ b, ((seenL s.dur s.wait).drop a').take n' = b := ⟨_, rfl⟩
      rw [hb] at hlen hr ⊢
      subst hlen
      have HC := Lib.hid (fun A c (hA : b.length = 0 ∨ A = some ⟨gs, a', none⟩) => clone_any A c w.heap.size b w (by omega) (by
        rcases hA with hA | hA
        · have : b = [] := List.eq_nil_of_length_eq_zero hA
          subst this
          exact Reads.none_
        · rw [hA]; exact hr) (Nat.le_refl _))
      clear h ho hNN hseen hi hr hb
      by_cases haN : cs = a'
      · have hz : b.length = 0 := by omega
        obtain rfl : b = [] := List.eq_nil_of_length_eq_zero hz
        have HC0 : Hid (∀ A c, Calls Try.prog 34 #[.slice A 0 c] w (ClonePost w [])) := fun A c => HC.out A c (.inl rfl)
        have hNa : N = a' := by omega
        have hNc : N = cs := by omega
        subst hNa
        subst hNc
        clear hz HC haN
        go_enter Try.func46, Try.ntmps46
        go_wp2_with fail
        refine (HI.out).mono ?_
        rintro e w1 ⟨rfl, rfl⟩
        go_wp2_with fail
        refine (HC0.out _ _).mono ?_
        rintro e w2 ⟨A, c, rfl, hr2, hnw, hcp, hb2⟩
        have HE : Hid (ReadPost w ([], 0) (.returned (.tuple #[.slice A 0 c, .int .i64 0])) w2) := ⟨A, c, rfl, hr2, hcp, fun ad e => (hnw ad e).1, hb2⟩
        clear hr2 hb2 hcp hnw
        go_wp2_with fail
        go_ret2
        exact HE.out
      · go_enter Try.func46, Try.ntmps46
        go_wp2_with fail
        refine (HI.out).mono ?_
        rintro e w1 ⟨rfl, rfl⟩
        go_wp2_with fail
        refine (HC.out (some ⟨gs, a', none⟩) _ (.inr rfl)).mono ?_
        rintro e w2 ⟨A, c, rfl, hr2, hnw, hcp, hb2⟩
        have HE : Hid (ReadPost w (b, 0) (.returned (.tuple #[.slice A b.length c, .int .i64 0])) w2) := ⟨A, c, rfl, hr2, hcp, fun ad e => (hnw ad e).1, hb2⟩
        clear hr2 hb2 hcp hnw
        go_wp2_with fail
        go_ret2
        exact HE.out
end Go.Proofs.Ytnjafhlpnoikcaa
