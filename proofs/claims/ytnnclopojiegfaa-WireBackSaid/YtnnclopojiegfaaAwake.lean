/-
  The sanity check returns true. No condition.
-/
import Derived.Test.YtnnclopojiegfaaPutC
namespace Go.Proofs.Ytnnclopojiegfaa
open Go.RowKit
set_option linter.unusedVariables false

set_option maxRecDepth 100000 in
set_option maxHeartbeats 400000 in
theorem commit_any (cv : Value) (c : WCommit) (w : World) (hc : IsCommit w w.heap.size cv c) (hok : c.ok) (hk : 100 * c.size ≤ 800000000) :
    Calls Try.prog 15 #[cv] w (New w (encCommit c)) := by
  obtain ⟨A1, c1, A2, c2, A3, c3, rfl, hr1, hr2, hr3⟩ := hc
  have hP := putCommit_any w.heap.size 0 (.slice none 0 0) (.agg #[.int .i64 c.stamp, .slice A1 c.parents.length c1, .slice A2 c.picks.length c2, .string c.note, .slice A3 c.writes.length c3]) [] c
    (w.alloc (.cells #[.int .i64 c.stamp, .slice A1 c.parents.length c1, .slice A2 c.picks.length c2, .string c.note, .slice A3 c.writes.length c3] 36)) (World.ownsRow_nil _ _ _ _) (by simp)
    ⟨A1, c1, A2, c2, A3, c3, rfl, hr1.alloc (Nat.le_refl _) _, hr2.alloc (Nat.le_refl _) _, hr3.alloc (Nat.le_refl _) _⟩ hok (by omega)
  have HP := Lib.hid hP
  clear hP hr1 hr2 hr3 hok hk
  go_enter Try.func15, Try.ntmps15
  go_wp2_with fail
  refine (HP.out).mono ?_
  rintro e w1 ⟨v1, rfl, hown, hg⟩
  have R : New w (encCommit c) (.returned v1) w1 := ⟨v1, rfl, by simpa using hown, ((Below.refl _ w).alloc (Nat.le_refl _) _).trans (hg.below (by simp) (fun g h => by simp [Value.ownBlock] at h))⟩
  clear hown hg HP
  go_wp2_with fail
  go_ret
  exact R

theorem enc64 : encI 64 = [128, 1] := by
  have : zig 64 = 128 := by decide
  unfold encI; rw [this, encU_ge (by omega), encU_lt (by omega)]
theorem enc0 : encI 0 = [0] := by
  have : zig 0 = 0 := by decide
  unfold encI; rw [this, encU_lt (by omega)]
def zeroCommit : WCommit := ⟨0, [], [], ByteArray.empty, []⟩
theorem enc_zero : encCommit zeroCommit = [0, 0, 0, 0, 0] := by
  have h1 : encL [] = [0] := by
    unfold encL
    rw [show ((List.length ([] : List Int) : Nat) : Int) = 0 from rfl, enc0]
    rfl
  have h2 : encT ByteArray.empty = [0] := by
    unfold encT
    rw [show ((ByteArray.empty.size : Nat) : Int) = 0 from rfl, enc0]
    rfl
  unfold encCommit zeroCommit
  rw [h1, h2, show ((List.length ([] : List WCell) : Nat) : Int) = 0 from rfl, enc0]
  rfl
theorem zero_ok : zeroCommit.ok := ⟨⟨by decide, by decide⟩, (fun _ h => by cases h), (fun _ h => by cases h), (fun _ h => by cases h)⟩
theorem zero_is (w : World) : IsCommit w w.heap.size (.agg #[.int .i64 0, .slice none 0 0, .slice none 0 0, .string ByteArray.empty, .slice none 0 0]) zeroCommit :=
  ⟨none, 0, none, 0, none, 0, rfl, Reads.none_, Reads.none_, Reads.none_⟩
theorem get64 : getI [128, 1] 0 = some (64, 2) := by decide
theorem get128 : getI [128, 0] 0 = none := by decide

theorem new_reads {w w' : World} {bs : List Nat} {v : Value} (h : w'.ownsRow w.heap.size 5 1 v bs.length (bs.map byt)) : ∃ A c, v = .slice A bs.length c ∧ Reads w' w'.heap.size 1 A bs.length (bs.map byt) := by
  obtain ⟨A, c, e, hr, _⟩ := reads_of_owns h
  exact ⟨A, c, e, hr⟩

set_option maxRecDepth 100000 in
set_option maxHeartbeats 400000 in
theorem awake_any (w : World) : Calls Try.prog 8 #[] w fun e w' => e = .returned (.bool true) ∧ Below w.heap.size w w' := by
  have h1 := int_any none 0 0 [] 64 w (by omega) Reads.none_ (by omega) (by omega)
  rw [enc64, List.nil_append] at h1
  have H1 := Lib.hid h1
  clear h1
  go_enter Try.func8, Try.ntmps8
  go_wp2_with fail
  refine (H1.out).mono ?_
  rintro e w1 ⟨v1, rfl, hown1, hb1⟩
  obtain ⟨A1, c1, rfl, hr1⟩ := new_reads hown1
  have h2 := getInt_any A1 2 c1 0 [128, 1] w1 (by omega) hr1 (by decide)
  rw [get64] at h2
  simp only [resI] at h2
  have H2 := Lib.hid h2
  have HB1 := Lib.hid hb1
  clear h2 hown1 hr1 hb1 H1
  go_wp2_with fail
  refine (H2.out).mono ?_
  rintro e w2 ⟨rfl, hb2⟩
  have HB2 := Lib.hid (HB1.out.trans (hb2.mono HB1.out.size))
  clear hb2 H2 HB1
  have h3 := getInt_any (some ⟨w2.heap.size, 0, none⟩) 2 2 0 [128, 0] (w2.alloc (.cells #[.int .u8 128, .int .u8 0] 5)) (by omega) (Reads.of_own (base := w2.heap.size) (e := 5) (c := 2) ⟨rfl, .inr ⟨w2.heap.size, 2, _, rfl, Nat.le_refl _, heap_alloc_new w2 _, by omega, by unfold maxLen; omega, rfl, rfl⟩⟩) (by decide)
  rw [get128] at h3
  simp only [resI] at h3
  have H3 := Lib.hid h3
  clear h3
  go_wp2_with fail
  refine (H3.out).mono ?_
  rintro e w3 ⟨rfl, hb3⟩
  have HB3 := Lib.hid ((HB2.out.alloc HB2.out.size _).trans (hb3.mono (by simp; exact Nat.le_succ_of_le HB2.out.size)))
  clear hb3 H3 HB2
  have h4 := commit_any _ zeroCommit w3 (zero_is w3) zero_ok (by decide)
  rw [enc_zero] at h4
  have H4 := Lib.hid h4
  clear h4
  go_wp2_with fail
  refine (H4.out).mono ?_
  rintro e w4 ⟨v4, rfl, hown4, hb4⟩
  obtain ⟨A4, c4, rfl, hr4⟩ := new_reads hown4
  have HB4 := Lib.hid (HB3.out.trans (hb4.mono HB3.out.size))
  clear hb4 H4 HB3 hown4 hr4
  go_wp2_with fail
  go_ret
  exact ⟨rfl, HB4.out⟩
end Go.Proofs.Ytnnclopojiegfaa
