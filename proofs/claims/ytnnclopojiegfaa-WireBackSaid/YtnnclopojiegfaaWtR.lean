/-
  The reference's SameCommit on equal arguments. No condition.
-/
import Derived.Test.YtnnclopojiegfaaWtQ
namespace Go.Proofs.Ytnnclopojiegfaa
open Go.RowKit
set_option linter.unusedVariables false

theorem wcell_at {w : World} {B n i : Nat} {A : Option Addr} {l : List WCell} {x : WCell} (h : Reads w B 6 A n (l.flatMap WCell.vals)) (hi : i < n) (hx : l[i]? = some x) : ∃ b o, A = some ⟨b, o, none⟩ ∧ b < B ∧
    w.cell? ⟨b, o + i * 6, none⟩ = some (.int .i64 x.id) ∧ w.cell? ⟨b, o + i * 6 + 1, none⟩ = some (.int .i64 x.field) ∧ w.cell? ⟨b, o + i * 6 + 2, none⟩ = some (.int .i64 x.n) ∧ w.cell? ⟨b, o + i * 6 + 3, none⟩ = some (.bool x.flag) ∧ w.cell? ⟨b, o + i * 6 + 4, none⟩ = some (.string x.text) ∧ w.cell? ⟨b, o + i * 6 + 5, none⟩ = some (.int .i64 x.ref) := by
  obtain ⟨b, o, e, hb, hc⟩ := h.head (by omega) (by omega)
  have k : ∀ r u, x.vals[r]? = some u → r < 6 → w.cell? ⟨b, o + (i * 6 + r), none⟩ = some u := fun r u hu hr => hc _ u (flat6 l i r x u hx hu hr)
  refine ⟨b, o, e, hb, k 0 _ rfl (by omega), ?_, ?_, ?_, ?_, ?_⟩
  · have := k 1 _ rfl (by omega); rwa [← Nat.add_assoc] at this
  · have := k 2 _ rfl (by omega); rwa [← Nat.add_assoc] at this
  · have := k 3 _ rfl (by omega); rwa [← Nat.add_assoc] at this
  · have := k 4 _ rfl (by omega); rwa [← Nat.add_assoc] at this
  · have := k 5 _ rfl (by omega); rwa [← Nat.add_assoc] at this

/-- a commit's value -/
def comV (x : CX) : Value := .agg #[.int .i64 x.c.stamp, .slice x.A1 x.c.parents.length x.c1, .slice x.A2 x.c.picks.length x.c2, .string x.c.note, .slice x.A3 x.c.writes.length x.c3]

/-- the two boxes of SameCommit -/
structure SB (w wr : World) (xs ys : Array Value) : Prop where
  b1 : Blk wr w.heap.size 36 xs
  b2 : Blk wr (w.heap.size + 1) 36 ys
  bel : Below w.heap.size w wr
theorem SB.start (w : World) (xs ys : Array Value) : SB w ((w.alloc (.cells xs 36)).alloc (.cells ys 36)) xs ys := by
  refine ⟨(Blk.new w 36 xs).alloc _, ?_, ((Below.refl _ w).alloc (Nat.le_refl _) _).alloc (by simp) _⟩
  have := Blk.new (w.alloc (.cells xs 36)) 36 ys
  have e : (w.alloc (.cells xs 36)).heap.size = w.heap.size + 1 := by simp
  rwa [e] at this
theorem SB.drewN {w wr : World} {xs ys : Array Value} (h : SB w wr xs ys) (k : Nat) : SB w (wr.drewN k) xs ys := ⟨h.b1, h.b2, below_drewN h.bel k⟩

set_option maxRecDepth 100000 in
set_option maxHeartbeats 2000000 in
theorem sameCommit_any {w : World} {c : WCommit} {A1 A2 A3 B1 B2 B3 : Option Addr} {c1 c2 c3 d1 d2 d3 : Nat} (hx : GoodC w ⟨c, A1, c1, A2, c2, A3, c3⟩) (hy : GoodC w ⟨c, B1, d1, B2, d2, B3, d3⟩) :
    Calls Try.prog 28 #[.agg #[.int .i64 c.stamp, .slice A1 c.parents.length c1, .slice A2 c.picks.length c2, .string c.note, .slice A3 c.writes.length c3], .agg #[.int .i64 c.stamp, .slice B1 c.parents.length d1, .slice B2 c.picks.length d2, .string c.note, .slice B3 c.writes.length d3]] w fun e w' => e = .returned (.bool true) ∧ Below w.heap.size w w' := by
  obtain ⟨stamp, parents, picks, note, writes⟩ := c
  have HI : Hid (∀ w', Below w.heap.size w w' → Calls Try.prog 43 #[.slice A1 parents.length c1, .slice B1 parents.length d1] w' fun e w2 => e = .returned (.bool true) ∧ ∃ k, w2 = w'.drewN k) := fun w' hb => sameInts_any hx.l1 (hx.r1.below hb) (hy.r1.below hb)
  have HJ : Hid (∀ w', Below w.heap.size w w' → Calls Try.prog 43 #[.slice A2 picks.length c2, .slice B2 picks.length d2] w' fun e w2 => e = .returned (.bool true) ∧ ∃ k, w2 = w'.drewN k) := fun w' hb => sameInts_any hx.l2 (hx.r2.below hb) (hy.r2.below hb)
  have R1 : Hid (Reads w w.heap.size 6 A3 writes.length (writes.flatMap WCell.vals)) := hx.r3
  have R2 : Hid (Reads w w.heap.size 6 B3 writes.length (writes.flatMap WCell.vals)) := hy.r3
  have hl3 : writes.length ≤ 140737488351232 := hx.l3
  have hn1 : ((stamp : Int) != stamp) = false := by simp
  have hn2 : ((writes.length : Int) != (writes.length : Int)) = false := by simp
  have SB0 := Lib.hid (SB.start w #[.int .i64 stamp, .slice A1 parents.length c1, .slice A2 picks.length c2, .string note, .slice A3 writes.length c3] #[.int .i64 stamp, .slice B1 parents.length d1, .slice B2 picks.length d2, .string note, .slice B3 writes.length d3])
  clear hx hy
  go_enter Try.func28, Try.ntmps28
  go_wp2_with fail
  refine (HI.out _ (SB0.out).bel).mono ?_
  rintro e w1 ⟨rfl, k1, hw1⟩
  have S1 := Lib.hid ((SB0.out).drewN k1)
  rw [← hw1] at S1
  clear hw1 SB0 HI
  have p2 := (S1.out).b1.cell 2
  have q2 := (S1.out).b2.cell 2
  have p4 := (S1.out).b1.cell 4
  have q4 := (S1.out).b2.cell 4
  simp at p2 q2 p4 q4
  go_wp2_with fail
  refine (HJ.out _ (S1.out).bel).mono ?_
  rintro e w2 ⟨rfl, k2, hw2⟩
  have S2 := Lib.hid ((S1.out).drewN k2)
  rw [← hw2] at S2
  clear hw2 S1 HJ p2 q2 p4 q4
  have p4 := (S2.out).b1.cell 4
  have q4 := (S2.out).b2.cell 4
  simp at p4 q4
  go_wp2_with fail
  clear p4 q4
  go_loopw [5] (fun iv wr => ∃ (i : Nat), iv = .int .i64 (i : Int) ∧ i ≤ writes.length ∧ SB w wr #[.int .i64 stamp, .slice A1 parents.length c1, .slice A2 picks.length c2, .string note, .slice A3 writes.length c3] #[.int .i64 stamp, .slice B1 parents.length d1, .slice B2 picks.length d2, .string note, .slice B3 writes.length d3]) (fun iv _ => ((writes.length : Int) - intOf iv).toNat)
  case atStart => exact ⟨0, rfl, Nat.zero_le _, S2.out⟩
  case round =>
    obtain ⟨i, rfl, hi, hS⟩ := hrel
    have SR := Lib.hid hS
    have p4 := hS.b1.cell 4
    have q4 := hS.b2.cell 4
    simp at p4 q4
    clear hS
    by_cases hlt : i < writes.length
    · have dim : decide ((i : Int) < (writes.length : Int)) = true := by simp; omega
      obtain ⟨x, hx⟩ : ∃ x, writes[i]? = some x := ⟨writes[i]'hlt, List.getElem?_eq_getElem _⟩
      obtain ⟨b1, o1, rfl, hb1, x0, x1, x2, x3, x4, x5⟩ := wcell_at ((R1.out).below (SR.out).bel) hlt hx
      obtain ⟨b2, o2, rfl, hb2, y0, y1, y2, y3, y4, y5⟩ := wcell_at ((R2.out).below (SR.out).bel) hlt hx
      have hnle : ¬ writes.length ≤ i := by omega
      clear hx hb1 hb2
      go_wp2_with fail
      go_quiet (fail)
      go_wp2_with fail
      go_roundw
      case rel => exact ⟨i + 1, by go_num, by omega, (SR.out).drewN _⟩
      case measure => simp [intOf]; omega
    · have dim : decide ((i : Int) < (writes.length : Int)) = false := by simp; omega
      go_wp2_with fail
      go_ret
      exact ⟨rfl, (SR.out).bel⟩
theorem sameCommit_cx {w : World} {x y : CX} (hx : GoodC w x) (hy : GoodC w y) (h : x.c = y.c) :
    Calls Try.prog 28 #[.agg #[.int .i64 x.c.stamp, .slice x.A1 x.c.parents.length x.c1, .slice x.A2 x.c.picks.length x.c2, .string x.c.note, .slice x.A3 x.c.writes.length x.c3], .agg #[.int .i64 y.c.stamp, .slice y.A1 y.c.parents.length y.c1, .slice y.A2 y.c.picks.length y.c2, .string y.c.note, .slice y.A3 y.c.writes.length y.c3]] w fun e w' => e = .returned (.bool true) ∧ Below w.heap.size w w' := by
  obtain ⟨c, A1, c1, A2, c2, A3, c3⟩ := x
  obtain ⟨c', B1, d1, B2, d2, B3, d3⟩ := y
  obtain rfl : c = c' := h
  exact sameCommit_any hx hy

set_option maxRecDepth 100000 in
set_option maxHeartbeats 2000000 in
theorem sameCommits_any {w : World} {n c1 c2 : Nat} {A B : Option Addr} {xs ys : List CX} (hn : n ≤ 140737488351232) (hx : Coms w A n xs) (hy : Coms w B n ys) (h : xs.map CX.c = ys.map CX.c) :
    Calls Try.prog 27 #[.slice A n c1, .slice B n c2] w fun e w' => e = .returned (.bool true) ∧ Below w.heap.size w w' := by
  have HX := Lib.hid hx
  have HY := Lib.hid hy
  have HS : Hid (∀ (i : Nat) x y, xs[i]? = some x → ys[i]? = some y → ∀ w', Below w.heap.size w w' → Calls Try.prog 28 #[.agg #[.int .i64 x.c.stamp, .slice x.A1 x.c.parents.length x.c1, .slice x.A2 x.c.picks.length x.c2, .string x.c.note, .slice x.A3 x.c.writes.length x.c3], .agg #[.int .i64 y.c.stamp, .slice y.A1 y.c.parents.length y.c1, .slice y.A2 y.c.picks.length y.c2, .string y.c.note, .slice y.A3 y.c.writes.length y.c3]] w' fun e w2 => e = .returned (.bool true) ∧ Below w'.heap.size w' w2) := fun i x y h1 h2 w' hb => by
    refine sameCommit_cx ((hx.good x (List.mem_of_getElem? h1)).up hb) ((hy.good y (List.mem_of_getElem? h2)).up hb) ?_
    have e1 : (xs.map CX.c)[i]? = some x.c := by rw [List.getElem?_map, h1]; rfl
    have e2 : (ys.map CX.c)[i]? = some y.c := by rw [List.getElem?_map, h2]; rfl
    rw [h, e2] at e1
    injection e1 with e1
    exact e1.symm
  clear hx hy h
  go_enter Try.func27, Try.ntmps27
  go_wp2_with fail
  go_loopw [5] (fun iv wr => ∃ (i : Nat), iv = .int .i64 (i : Int) ∧ i ≤ n ∧ Below w.heap.size w wr) (fun iv _ => ((n : Int) - intOf iv).toNat)
  case atStart => exact ⟨0, rfl, Nat.zero_le _, Below.refl _ _⟩
  case round =>
    obtain ⟨i, rfl, hi, hB⟩ := hrel
    have BB := Lib.hid hB
    clear hB
    by_cases hlt : i < n
    · have dim : decide ((i : Int) < (n : Int)) = true := by simp; omega
      obtain ⟨x, hx⟩ : ∃ x, xs[i]? = some x := ⟨xs[i]'(by have := (HX.out).len; omega), List.getElem?_eq_getElem _⟩
      obtain ⟨y, hy⟩ : ∃ y, ys[i]? = some y := ⟨ys[i]'(by have := (HY.out).len; omega), List.getElem?_eq_getElem _⟩
      obtain ⟨b1, o1, rfl, hb1, x0, x1, x2, x3, x4⟩ := coms_at ((HX.out).up (BB.out)) hx
      obtain ⟨b2, o2, rfl, hb2, y0, y1, y2, y3, y4⟩ := coms_at ((HY.out).up (BB.out)) hy
      have hnle : ¬ n ≤ i := by omega
      have HC := Lib.hid ((HS.out) i x y hx hy wr.drew (BB.out).drew)
      clear hx hy hb1 hb2
      go_wp2_with fail
      refine region_tail 8 (by kernel_rfl) (by kernel_rfl) _ rfl ?_
      simp only [List.take_succ_cons, List.take_zero, List.drop_succ_cons, List.drop_zero]
      repeat (go_big_quiet_step (fail))
      refine wpQuiet_nil ?_
      go_wp2_with fail
      refine (HC.out).mono ?_
      rintro e w2 ⟨rfl, hb2⟩
      have B2 := Lib.hid ((BB.out).drew.trans (hb2.mono (BB.out).drew.size))
      clear hb2 HC
      go_wp2_with fail
      go_roundw
      case rel => exact ⟨i + 1, by go_num, by omega, B2.out⟩
      case measure => simp [intOf]; omega
    · have dim : decide ((i : Int) < (n : Int)) = false := by simp; omega
      go_wp2_with fail
      go_ret
      exact ⟨rfl, BB.out⟩
end Go.Proofs.Ytnnclopojiegfaa
