/-
  The dice: Roll, Next. No condition.
-/
import Derived.Test.YtaadaekpmblpaaaSqA
import Derived.Test.YtaadaekpmblpaaaTail
namespace Go.Proofs.Ytaadaekpmblpaaa
open Go.RowKit
set_option linter.unusedVariables false

theorem i64_info : (Try.prog.info? 3).map (fun i => (i.zero, i.size, i.bytes)) = some (some (.int .i64 0), 1, 8) := by kernel_rfl
def inI64 (x : Int) : Prop := -9223372036854775808 ≤ x ∧ x ≤ 9223372036854775807
theorem int_one (l : List Int) : ∀ u ∈ l.map (Value.int .i64), u.oneCell' = true := fun u hu => by
  obtain ⟨_, _, rfl⟩ := List.mem_map.1 hu
  rfl
theorem owns_empty (w : World) (e : TypeId) : (w.alloc (.cells #[] e)).ownsRow w.heap.size e 1 (.slice (some ⟨w.heap.size, 0, none⟩) 0 0) 0 [] :=
  World.ownsRow_made w #[] 0 (Nat.le_refl _) (by unfold maxLen; omega) (by simp)

/-- dice at block d -/
def Dice (w : World) (d : Nat) : Prop :=
  ∃ A n c k l, Blk w d 55 #[.slice A n c, .int .i64 ((k : Nat) : Int)] ∧ Ints w d A n l ∧ k ≤ n ∧ n ≤ 1000 ∧ ∀ x ∈ l, inI64 x
def RollPost (w : World) (e : Ending) (w' : World) : Prop :=
  ∃ d, e = .returned (.pointer (some ⟨d, 0, none⟩)) ∧ Dice w' d ∧ w.heap.size ≤ d ∧ d < w'.heap.size ∧ Below w.heap.size w w'

set_option maxRecDepth 100000 in
set_option maxHeartbeats 400000 in
theorem roll_any (A : Option Addr) (n c : Nat) (l : List Int) (w : World) (hn : n ≤ 1000) (hr : Ints w w.heap.size A n l) (hl : ∀ x ∈ l, inI64 x) :
    Calls Try.prog 26 #[.slice A n c] w (RollPost w) := by
  obtain ⟨i0, hi, hi0, hi1, hi2⟩ := info_parts i64_info
  have HS := Lib.hid (src_reads (P := Try.prog) _ Try.underlying22 c (hr.alloc (Nat.le_refl _) (.cells #[] 3)) (int_one l))
  have HL := Lib.hid hl
  clear hr hl
  go_enter Try.func26, Try.ntmps26
  go_wp2_with (at_builtin; refine wpList_append_row _ rfl (.tmp 3) (.tmp 4) 22 22 rfl w.heap.size 3 i0 (.int .i64 0) 1 8 Try.underlying22 hi hi0 hi1 hi2 rfl (by decide) _ _ _ rfl (owns_empty w 3) _ n (l.map (Value.int .i64)) rfl HS.out ?c1 ?c2 ?c3 ?_)
  case c1 => unfold maxLen; omega
  case c2 => omega
  case c3 => simp
  intro v1 w1 hown1 hg1
  have hB : Below w.heap.size w w1 := ((Below.refl _ w).alloc (Nat.le_refl _) _).trans (hg1.below (by simp) (fun g hg => by simp [Value.ownBlock] at hg; omega))
  obtain ⟨A', c', rfl, hrd, hat⟩ := reads_of_owns hown1
  have HR : Hid (Ints w1 w1.heap.size A' n l) := hrd
  have HB := Lib.hid hB
  have hs := hB.size
  clear hown1 hg1 hrd hB hat
  go_wp2_with fail
  go_ret
  refine ⟨w1.heap.size, rfl, ⟨A', n, c', 0, l, ?_, HR.out.alloc (Nat.le_refl _) _, by omega, hn, HL.out⟩, hs, by simp, HB.out.alloc hs _⟩
  simpa using Blk.new w1 55 _

def NextPost (w : World) (d : Nat) (m : Int) (e : Ending) (w' : World) : Prop :=
  ∃ v : Int, e = .returned (.int .i64 v) ∧ 0 ≤ v ∧ v < m ∧ Dice w' d ∧ w.grownBy w' (some d) ∧ w'.heap.size = w.heap.size
theorem NextPost.mk0 {w : World} {d : Nat} {m : Int} (h0 : 0 < m) (h : Dice w d) (k : Nat) : NextPost w d m (.returned (.int .i64 0)) (w.drewN k) :=
  ⟨0, rfl, by omega, h0, h, only_drewN (World.grownBy.refl w _) _, rfl⟩

set_option maxRecDepth 100000 in
set_option maxHeartbeats 400000 in
theorem next_any (d : Nat) (m : Int) (w : World) (h : Dice w d) (h0 : 0 < m) (hm : m ≤ 1000000000) :
    Calls Try.prog 27 #[.pointer (some ⟨d, 0, none⟩), .int .i64 m] w (NextPost w d m) := by
  have HD := Lib.hid (NextPost.mk0 h0 h)
  obtain ⟨A, n, c, k, l, hb, hr, hk, hn, hl⟩ := h
  have c0 := hb.cell 0
  have c1 := hb.cell 1
  have f1 := hb.frozen 1
  simp at c0 c1
  by_cases hlt : k < n
  · obtain ⟨b, off, x, rfl, hbd, hx, hcell⟩ := Ints.at_ hr hlt
    have hxi := hl x (List.mem_of_getElem? hx)
    have HM := Lib.hid (fun w => mod_any x m w h0 hm hxi.1 hxi.2)
    have y1 := Int.emod_nonneg x (show m ≠ 0 by omega)
    have y2 := Int.emod_lt_of_pos x h0
    obtain ⟨y, hy⟩ : ∃ y, x % m = y := ⟨_, rfl⟩
    rw [hy] at HM y1 y2
    have hd : decide (n ≤ k) = false := by simpa using hlt
    have hd2 : decide ((n : Int) ≤ (k : Int)) = false := by simpa using hlt
    have hbne : ¬ b = d := by omega
    have HB := Lib.hid hb
    have HR := Lib.hid hr
    have HL := Lib.hid hl
    clear hb hr hxi hx hy hl HD
    go_enter Try.func27, Try.ntmps27
    go_wp2_with fail
    go_quiet (fail)
    go_wp2_with fail
    generalize hw2 : World.setCell (w.drewN nq) { block := d, off := 1 } (Value.int IntKind.i64 ((k : Int) + 1)) = w2
    have hb2 : Blk w2 d 55 #[.slice (some ⟨b, off, none⟩) n c, .int .i64 ((k : Int) + 1)] := by rw [← hw2]; exact (HB.out.drewN _).set_ 1 _
    have hg2 : w.grownBy w2 (some d) := by rw [← hw2]; exact only_setCell (only_drewN (World.grownBy.refl w _) _) (.inl rfl) _
    have hsz : w2.heap.size = w.heap.size := by rw [← hw2]; simp [World.setCell]
    have e0 := hb2.cell 0
    have e1 := hb2.cell 1
    simp at e0 e1
    have hcell2 : w2.cell? ⟨b, off + k, none⟩ = some (.int .i64 x) := hg2.cell hcell (fun e => hbne (by injection e))
    have HB2 := Lib.hid hb2
    have HG2 := Lib.hid hg2
    have HR2 := Lib.hid (HR.out.grown hg2 (Nat.le_of_lt HB.out.lt) (fun g hg => by injection hg with hg; omega))
    have HSZ := Lib.hid hsz
    clear hw2 hb2 hg2 c0 c1 hcell hsz
    go_quiet (exact quiet_left (HM.out _))
    go_wp2_with fail
    go_ret
    exact ⟨y, rfl, y1, y2, ⟨some ⟨b, off, none⟩, n, c, k + 1, l, by rw [Int.natCast_add]; exact HB2.out, HR2.out, hlt, hn, HL.out⟩, only_drewN HG2.out _, HSZ.out⟩
  · have hd : decide (n ≤ k) = true := by simpa using hlt
    have hd2 : decide ((n : Int) ≤ (k : Int)) = true := by simpa using hlt
    clear hb hr hl
    go_enter Try.func27, Try.ntmps27
    go_wp2_with fail
    go_quiet (fail)
    go_wp2_with fail
    go_ret
    exact HD.out _
end Go.Proofs.Ytaadaekpmblpaaa
