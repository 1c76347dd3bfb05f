/-
  Clone of bytes; New. No condition.
-/
import Derived.Test.YtnjafhlpnoikcaaDkB
namespace Go.Proofs.Ytnjafhlpnoikcaa
open Go.RowKit
set_option linter.unusedVariables false

theorem byte_info : (Try.prog.info? 5).map (fun i => (i.zero, i.size, i.bytes)) = some (some (.int .u8 0), 1, 1) := by kernel_rfl
theorem owns_none (w : World) (e : TypeId) : (w.alloc (.cells #[] e)).ownsRow w.heap.size e 1 (.slice (some ⟨w.heap.size, 0, none⟩) 0 0) 0 [] :=
  World.ownsRow_made w #[] 0 (Nat.le_refl _) (by unfold maxLen; omega) (by simp)

/-- a copy of bytes: nil, or in a new block -/
def ClonePost (w : World) (b : List Nat) (e : Ending) (w' : World) : Prop :=
  ∃ A c, e = .returned (.slice A b.length c) ∧ Reads w' w'.heap.size 1 A b.length (b.map byt) ∧ (∀ ad, A = some ad → w.heap.size ≤ ad.block ∧ ad.block < w'.heap.size) ∧ b.length ≤ c ∧ Below w.heap.size w w'
theorem own_cap {w : World} {base : Nat} {e : TypeId} {size n c : Nat} {A : Option Addr} {xs : List Value} (h : w.ownsRow base e size (.slice A n c) n xs) : n ≤ c := by
  rcases h.2 with ⟨h0, h1⟩ | ⟨g, cap, cur, hv, _, _, hnc, _⟩
  · omega
  · injection hv with _ _ hc; omega

set_option maxRecDepth 100000 in
set_option maxHeartbeats 400000 in
theorem clone_any (A : Option Addr) (c B : Nat) (b : List Nat) (w : World) (hb : b.length ≤ 1000000000) (hr : Reads w B 1 A b.length (b.map byt)) (hB : B ≤ w.heap.size) :
    Calls Try.prog 34 #[.slice A b.length c] w (ClonePost w b) := by
  obtain ⟨i0, hi, hi0, hi1, hi2⟩ := info_parts byte_info
  have hq := fun (w : World) (a : Option Addr) (n c : Nat) => Lib.run_eql_slice_nil (P := Try.prog) w 32 5 a n c 0 0 Try.underlying32
  cases A with
  | none =>
    have h0 : b.length = 0 := by
      rcases Nat.eq_zero_or_pos b.length with h | h
      · exact h
      · obtain ⟨ad, e, _⟩ := hr.2 h; cases e
    have hb0 : b = [] := List.eq_nil_of_length_eq_zero h0
    subst hb0
    have HE : Hid (ClonePost w [] (.returned (.slice none 0 0)) w) := ⟨none, 0, rfl, Reads.none_, (fun ad e => by cases e), Nat.le_refl _, Below.refl _ _⟩
    clear hr
    go_enter Try.func34, Try.ntmps34
    go_wp2_with fail
    go_ret
    exact HE.out
  | some ad =>
    have HS := Lib.hid (src_reads (P := Try.prog) _ Try.underlying32 c ((hr.more hB).alloc (Nat.le_refl _) (.cells #[] 5)) (byt_one b))
    clear hr
    go_enter Try.func34, Try.ntmps34
    go_wp2_with (at_builtin; refine wpList_append_row _ rfl (.tmp 5) (.tmp 6) 32 32 rfl w.heap.size 5 i0 (.int .u8 0) 1 1 Try.underlying32 hi hi0 hi1 hi2 rfl (by decide) _ _ _ rfl (owns_none w 5) _ b.length (b.map byt) rfl HS.out ?c1 ?c2 ?c3 ?_)
    case c1 => unfold maxLen; omega
    case c2 => omega
    case c3 => simp
    intro v1 w1 hown1 hg1
    have hB1 : Below w.heap.size w w1 := ((Below.refl _ w).alloc (Nat.le_refl _) _).trans (hg1.below (by simp) (fun g hg => by simp [Value.ownBlock] at hg; omega))
    obtain ⟨A', c', rfl, hrd, hat⟩ := reads_of_owns hown1
    have HE : Hid (ClonePost w b (.returned (.slice A' b.length c')) w1) := ⟨A', c', rfl, by simpa using hrd, (fun ad e => ⟨(hat ad e).1, own_lt hown1 ad.block (by rw [e]; rfl)⟩), by have := own_cap hown1; omega, hB1⟩
    clear hown1 hg1 hB1 hrd hat
    go_wp2_with fail
    go_ret
    exact HE.out
end Go.Proofs.Ytnjafhlpnoikcaa
