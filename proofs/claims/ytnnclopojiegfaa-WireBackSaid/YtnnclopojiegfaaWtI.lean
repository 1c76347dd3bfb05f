/-
  The reader's list of commits. No condition.
-/
import Derived.Test.YtnnclopojiegfaaWtIa
namespace Go.Proofs.Ytnnclopojiegfaa
open Go.RowKit
set_option linter.unusedVariables false

set_option maxRecDepth 100000 in
set_option maxHeartbeats 1000000 in
theorem coms_any {w : World} {r n c : Nat} {A : Option Addr} {bs : List Nat} {s : Option Nat} (h : Rd w r A n c s) (hi : RdIn w r A n c bs) :
    Calls Try.prog 37 #[.pointer (some ⟨r, 0, none⟩), .func (.func 38) #[.pointer (some ⟨r, 0, none⟩)] #[]] w (LPost ccell CX.c (GV w.heap.size) 5 w r A n c (s.bind (listP (commitP bs) bs))) := by
  have hl := hi.len
  have hn := hi.hn
  have L0 := Lib.hid (⟨h, hi, World.grownBy.refl w _, h.lt⟩ : LMid w w r A n c bs s)
  clear h hi
  go_enter Try.func37, Try.ntmps37
  go_wp2_with fail
  refine (number_any (L0.out).rd (L0.out).inn).mono ?_
  rintro e w1 ⟨a, rfl, K1, hrd, hg⟩
  replace K1 := Lib.hid K1
  have L1 := Lib.hid ((L0.out).next hrd hg)
  clear hrd hg L0
  generalize hs1 : (Option.map (fun x => x.snd) (s.bind (numP bs))) = s1 at L1
  rcases s1 with _ | q
  · obtain ⟨z1, hb1⟩ := (L1.out).rd
    have c2 := hb1.cell 2
    have f2 := hb1.frozen 2
    simp at c2
    have HB := Lib.hid hb1
    have HS := Lib.hid hs1
    clear hb1 hs1 hl
    go_wp2_with fail
    go_quiet (fail)
    go_wp2_with fail
    go_ret
    rw [bad_count (HS.out)]
    exact ⟨none, 0, [], rfl, (fun z hz => by cases hz), Reads.none_, (fun ad h => by cases h), ⟨_, ((HB.out).drewN _).set_ 2 _⟩, only_setCell (only_drewN (L1.out).gr _) (.inl rfl) _⟩
  · obtain ⟨hb1, hq⟩ := (L1.out).rd
    have hcnt := count_of (f := commitP bs) hs1 (K1.out)
    have c0 := hb1.cell 0
    have c1 := hb1.cell 1
    have c2 := hb1.cell 2
    have f2 := hb1.frozen 2
    simp at c0 c1 c2
    have HB := Lib.hid hb1
    clear hb1 hs1 K1
    by_cases hbad : a < 0 ∨ (bs.length : Int) - q < a
    · rw [if_pos hbad] at hcnt
      replace hcnt := Lib.hid hcnt
      rw [hl] at hbad
      have hd : (decide (a < 0) = true) ∨ (decide (a < 0) = false ∧ decide ((n : Int) - q < a) = true) := by simp; omega
      clear hl
      rcases hd with d1 | ⟨d1, d2⟩
      all_goals
        go_wp2_with fail
        go_quiet (fail)
        go_wp2_with fail
        go_ret
        rw [hcnt.out]
        exact ⟨none, 0, [], rfl, (fun z hz => by cases hz), Reads.none_, (fun ad h => by cases h), ⟨_, ((HB.out).drewN _).set_ 2 _⟩, only_setCell (only_drewN (L1.out).gr _) (.inl rfl) _⟩
    · rw [if_neg hbad] at hcnt
      rw [hl] at hbad
      obtain ⟨m, rfl⟩ := Int.eq_ofNat_of_zero_le (show 0 ≤ a by omega)
      have d1 : decide ((m : Int) < 0) = false := by simp
      have d2 : decide ((n : Int) - q < (m : Int)) = false := by simp; omega
      have hm : m ≤ 1000000000 := by omega
      rw [Int.toNat_natCast] at hcnt
      replace hcnt := Lib.hid hcnt
      clear hl hbad
      obtain ⟨i0, hi0, hz0, hz1, hz2⟩ := info_parts commit_info
      have R0 : Hid (∀ nq, LRel ccell CX.c (GV w.heap.size) 36 5 (commitP bs) w (w1.drewN nq) r A n c bs q m 0 (some q) [] (.slice none 0 0)) := fun nq =>
        ⟨Nat.zero_le _, rfl, rfl, (fun z hz => by injection hz with hz; rw [← hz]; exact ⟨rfl, fun x hx => by cases hx⟩), ⟨rfl, .inl ⟨rfl, rfl⟩⟩, (L1.out).drewN nq⟩
      clear L1 HB
      go_wp2_with fail
      go_quiet (fail)
      go_wp2_with fail
      clear c0 c1 c2 f2 d1 d2
      clear hq
      go_loopw [6, 7] (fun v iv wr => ∃ (i : Nat) (s' : Option Nat) (xs : List CX), iv = .int .i64 (i : Int) ∧ LRel ccell CX.c (GV w.heap.size) 36 5 (commitP bs) w wr r A n c bs q m i s' xs v) (fun _ iv _ => ((m : Int) - intOf iv).toNat)
      case atStart => exact ⟨0, some q, [], rfl, (R0.out) nq⟩
      case round =>
        obtain ⟨i, s', xs, rfl, hR⟩ := hrel
        have HR := Lib.hid hR
        have hle := hR.le
        clear hR R0
        by_cases him : i < m
        · have dim : decide ((i : Int) < (m : Int)) = true := by simp; omega
          rcases s' with _ | p
          · obtain ⟨z1, hb1⟩ := (HR.out).mid.rd
            have c2 := hb1.cell 2
            simp at c2
            clear hb1
            go_wp2_with fail
            go_ret
            exact (HR.out).done (.inr rfl) (hcnt.out)
          · have hb1 := (HR.out).mid.rd.1
            have c2 := hb1.cell 2
            simp at c2
            clear hb1
            go_wp2_with fail
            refine (commit_read (HR.out).mid.rd (HR.out).mid.inn).mono ?_
            rintro e w2 ⟨a, rfl, K2, hrd, hg⟩
            have GS := Lib.hid (fun (hz : ∃ z, (some p).bind (commitP bs) = some z) => (K2 _ hz.choose_spec).2)
            have HGR := Lib.hid hg
            replace K2 := Lib.hid (fun y hy => (K2 y hy).1)
            have L2 := Lib.hid ((HR.out).mid.next hrd hg)
            have O2 := Lib.hid ((HR.out).own.kept hg (.inr (own_ne (HR.out).own (HR.out).mid.old)))
            have hs2 := (L2.out).gr.size
            clear hrd hg c2
            go_wp2_with (at_builtin; refine wpList_append_row _ rfl (.tmp 47) (.tmp 50) 30 30 rfl w.heap.size 36 i0 (.agg #[.int .i64 0, .slice none 0 0, .slice none 0 0, .string ByteArray.empty, .slice none 0 0]) 5 96 Try.underlying30 hi0 hz0 hz1 hz2 rfl (by decide) _ _ _ rfl ((O2.out).alloc _) _ 1 _ rfl (src_new w2 Try.underlying30 [.int .i64 a.c.stamp, .slice a.A1 a.c.parents.length a.c1, .slice a.A2 a.c.picks.length a.c2, .string a.c.note, .slice a.A3 a.c.writes.length a.c3] 5 1 1 36 rfl (fun u hu => by simp at hu; rcases hu with rfl | rfl | rfl | rfl | rfl <;> rfl)) (by unfold maxLen; omega) (by omega) (by simp; omega) ?_)
            intro v3 w3 hown3 hg3
            have R3 := Lib.hid ((HR.out).step him (K2.out) hown3 (((L2.out).alloc _).grows hg3 (fun g hv => own_ge (O2.out) hv)) (fun hold hex => gv_step HGR.out (HR.out).mid.old (HR.out).mid.gr.size (fun g hv => own_lt (HR.out).own hv) hg3 hold (GS.out hex)))
            clear hown3 hg3 hs2
            go_wp2_with fail
            go_roundw
            case rel => exact ⟨i + 1, _, _, by go_num, R3.out⟩
            case measure => simp [intOf]; omega
        · have dim : decide ((i : Int) < (m : Int)) = false := by simp; omega
          go_wp2_with fail
          go_ret
          exact (HR.out).done (.inl (by omega)) (hcnt.out)
end Go.Proofs.Ytnnclopojiegfaa
