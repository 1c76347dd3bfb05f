/-
  The program's GetCommits and GetCommit. No condition.
-/
import Derived.Test.YtnnclopojiegfaaWtI
import Derived.Test.YtnnclopojiegfaaTail
namespace Go.Proofs.Ytnnclopojiegfaa
open Go.RowKit
set_option linter.unusedVariables false

/-- commits of one's own in memory -/
def ComsN (w : World) (lo : Nat) (A : Option Addr) (n : Nat) (xs : List CX) : Prop := Coms w A n xs ∧ (∀ x ∈ xs, GoodN w lo x) ∧ ∀ ad, A = some ad → lo ≤ ad.block ∧ ad.block < w.heap.size
/-- what GetCommits returns -/
def GotPost (w : World) (o : Option (List WCommit)) (e : Ending) (w' : World) : Prop :=
  (match o with
    | some l => ∃ B cc xs, e = .returned (.tuple #[.slice B xs.length cc, .int .i64 0]) ∧ xs.map CX.c = l ∧ ComsN w' w.heap.size B xs.length xs
    | none => e = .returned (.tuple #[.slice none 0 0, .int .i64 13])) ∧ Below w.heap.size w w'

theorem rd_start {w : World} {A : Option Addr} {n c p : Nat} {bs : List Nat} (hn : n ≤ 1000000000) (hnc : n ≤ c) (hr : Reads w w.heap.size 1 A n (bs.map byt)) (hbs : ∀ x ∈ bs, x < 256) (hp : p ≤ n) :
    Rd (w.alloc (.cells #[.slice A n c, .int .i64 (p : Int), .bool false] 55)) w.heap.size A n c (some p) ∧ RdIn (w.alloc (.cells #[.slice A n c, .int .i64 (p : Int), .bool false] 55)) w.heap.size A n c bs :=
  ⟨⟨Blk.new w 55 _, hp⟩, ⟨hn, hnc, hr.alloc (Nat.le_refl _) _, hbs⟩⟩
theorem rd_startB {w : World} {A : Option Addr} {n c : Nat} {z : Int} {bs : List Nat} (hn : n ≤ 1000000000) (hnc : n ≤ c) (hr : Reads w w.heap.size 1 A n (bs.map byt)) (hbs : ∀ x ∈ bs, x < 256) :
    Rd (w.alloc (.cells #[.slice A n c, .int .i64 z, .bool true] 55)) w.heap.size A n c none ∧ RdIn (w.alloc (.cells #[.slice A n c, .int .i64 z, .bool true] 55)) w.heap.size A n c bs :=
  ⟨⟨z, Blk.new w 55 _⟩, ⟨hn, hnc, hr.alloc (Nat.le_refl _) _, hbs⟩⟩
theorem below_of_own {w w2 : World} {o : Obj} (hg : (w.alloc o).grownBy w2 (some w.heap.size)) : Below w.heap.size w w2 :=
  ((Below.refl w.heap.size w).alloc (Nat.le_refl _) _).grown hg (by simp) (fun k hk => by injection hk; omega)

set_option maxRecDepth 100000 in
set_option maxHeartbeats 1000000 in
theorem getCommits_any (A : Option Addr) (n c : Nat) (bs : List Nat) (w : World) (hn : n ≤ 1000000000) (hnc : n ≤ c) (hr : Reads w w.heap.size 1 A n (bs.map byt)) (hbs : ∀ x ∈ bs, x < 256) :
    Calls Try.prog 23 #[.slice A n c] w (GotPost w (commitsP bs)) := by
  have hl : bs.length = n := by have := hr.1; simpa using this
  obtain ⟨hrd, hin⟩ := rd_start (p := 0) hn hnc hr hbs (Nat.zero_le _)
  have HL := Lib.hid (coms_any hrd hin)
  have HF := Lib.hid (from_ok A n c 0 w (Int.le_refl _) (by omega) hn)
  clear hrd hin hr hbs
  go_enter Try.func23, Try.ntmps23
  go_wp2_with fail
  refine (HF.out).mono ?_
  rintro e w1 ⟨rfl, rfl⟩
  clear HF
  go_wp2_with fail
  refine (HL.out).mono ?_
  rintro e w2 ⟨B, cc, xs, rfl, K, hr2, hB, hrd2, hg⟩
  have HB := Lib.hid (below_of_own hg)
  simp only [Option.bind_some] at K hrd2
  have hcp : commitsP bs = (listP (commitP bs) bs 0).bind fun y => if y.2 = bs.length then some y.1 else none := rfl
  clear HL
  generalize listP (commitP bs) bs 0 = o at K hrd2 hcp
  rcases o with _ | ⟨l, q⟩
  · obtain ⟨z2, hb2⟩ := hrd2
    have c2 := hb2.cell 2
    simp at c2
    have HP : Hid (commitsP bs = none) := hcp
    clear hb2 K hr2 hB hg hl hcp
    go_wp2_with fail
    go_ret2
    unfold GotPost
    rw [HP.out]
    exact ⟨rfl, HB.out⟩
  · obtain ⟨hb2, hq⟩ := hrd2
    have c1 := hb2.cell 1
    have c2 := hb2.cell 2
    simp at c1 c2
    obtain ⟨hxl, hG⟩ := K _ rfl
    have HC : Hid (ComsN w2 w.heap.size B xs.length xs) := by
      have hle : (w.alloc (.cells #[.slice A n c, .int .i64 ((0 : Nat) : Int), .bool false] 55)).heap.size = w.heap.size + 1 := by simp
      refine ⟨⟨rfl, hr2, fun x hx => ((hG x hx).1).good⟩, fun x hx => ((hG x hx).1).low (by omega), fun ad ha => ⟨by have := (hB ad ha).1; omega, (hB ad ha).2⟩⟩
    have HX := Lib.hid hxl
    simp only at hq
    simp only [Option.bind_some] at hcp
    clear hb2 K hr2 hB hg hG hxl
    by_cases hqn : q = n
    · have hd : ((q : Int) != (n : Int)) = false := by simp; omega
      rw [if_pos (by omega)] at hcp
      replace hcp := Lib.hid hcp
      go_wp2_with fail
      go_ret2
      unfold GotPost
      rw [hcp.out]
      exact ⟨⟨B, cc, xs, rfl, (HX.out).symm, HC.out⟩, HB.out⟩
    · have hd : ((q : Int) != (n : Int)) = true := by simp; omega
      rw [if_neg (by omega)] at hcp
      replace hcp := Lib.hid hcp
      go_wp2_with fail
      go_ret2
      unfold GotPost
      rw [hcp.out]
      exact ⟨rfl, HB.out⟩
end Go.Proofs.Ytnnclopojiegfaa
