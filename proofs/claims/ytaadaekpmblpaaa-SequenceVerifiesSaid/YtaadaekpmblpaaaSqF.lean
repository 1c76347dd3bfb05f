/-
  Align: the program's walk. No condition.
-/
import Derived.Test.YtaadaekpmblpaaaSqE
namespace Go.Proofs.Ytaadaekpmblpaaa
open Go.RowKit
set_option linter.unusedVariables false

theorem pair_info : (Try.prog.info? 45).map (fun i => (i.zero, i.size, i.bytes)) = some (some (.agg #[.int .i64 0, .int .i64 0]), 2, 16) := by kernel_rfl

/-- what an alignment is in memory -/
def AlPost (w : World) (drop add : List Int) (cost : List (List Int)) (e : Ending) (w' : World) : Prop :=
  ∃ A n c g bs, e = .returned (.tuple #[.agg #[.slice A n c, .int .i64 (potF drop add cost drop.length add.length), .slice (some ⟨g, 0, none⟩) (drop.length + 1) (drop.length + 1)], .int .i64 0]) ∧
    Prs w' w'.heap.size A n (alignL drop add cost) ∧ Made w' g (drop.length + 1) (add.length + 1) bs (potF drop add cost) ∧ bs.length = drop.length + 1 ∧ Below w.heap.size w w' ∧ w.heap.size ≤ g
def AlNo (w : World) (e : Ending) (w' : World) : Prop :=
  e = .returned (.tuple #[.agg #[.slice none 0 0, .int .i64 0, .slice none 0 0], .int .i64 5]) ∧ Below w.heap.size w w'

set_option maxRecDepth 100000 in
set_option maxHeartbeats 400000 in
theorem align_no (A1 : Option Addr) (n1 c1 : Nat) (A2 : Option Addr) (n2 c2 : Nat) (A3 : Option Addr) (n3 c3 : Nat) (drop add : List Int) (cost : List (List Int)) (w : World)
    (h : Three w w.heap.size A1 n1 A2 n2 A3 n3 drop add cost) (hp : properL drop add cost = false) :
    Calls Try.prog 11 #[.slice A1 n1 c1, .slice A2 n2 c2, .slice A3 n3 c3] w (AlNo w) := by
  have HP := Lib.hid (fun o => proper_any A1 n1 c1 A2 n2 c2 A3 n3 c3 _ drop add cost _ (h.alloc o))
  rw [hp] at HP
  have HB : Hid (∀ o, Below w.heap.size w (w.alloc o)) := fun o => (Below.refl _ w).alloc (Nat.le_refl _) _
  clear h hp
  go_enter Try.func11, Try.ntmps11
  go_wp2_with fail
  refine (HP.out _).mono ?_
  rintro e w1 ⟨rfl, rfl⟩
  go_wp2_with fail
  exact bodyPost_ret (v := .tuple #[.agg #[.slice none 0 0, .int .i64 0, .slice none 0 0], .int .i64 5]) (by simp [results, Try.results11, go_sem]) rfl ⟨rfl, HB.out _⟩

theorem Made.more {w w1 : World} {g m n : Nat} {bs : List Nat} {f : Nat → Nat → Int} (h : Made w g m n bs f) (hb : Below w.heap.size w w1) : Made w1 g m n bs f := h.below hb (Nat.le_refl _)

/-- before place (i, j) of the way back -/
def BackSt (w1 wr : World) (drop add : List Int) (cost : List (List Int)) (v : Value) (i j : Nat) : Prop :=
  Below w1.heap.size w1 wr ∧ ∃ ps : List (Int × Int), wr.ownsRow w1.heap.size 45 2 v ps.length (ps.flatMap pcells) ∧ backF drop add cost drop.length add.length = ps ++ backF drop add cost i j ∧ ps.length + i ≤ drop.length
theorem BackSt.drewN {w1 wr : World} {drop add : List Int} {cost : List (List Int)} {v : Value} {i j : Nat} (h : BackSt w1 wr drop add cost v i j) (d : Nat) : BackSt w1 (wr.drewN d) drop add cost v i j := ⟨below_drewN h.1 d, h.2⟩
theorem BackSt.start (w1 : World) (drop add : List Int) (cost : List (List Int)) : BackSt w1 w1 drop add cost (.slice none 0 0) drop.length add.length :=
  ⟨Below.refl _ _, [], ⟨rfl, .inl ⟨rfl, rfl⟩⟩, rfl, by simp⟩
theorem BackSt.to {w1 wr : World} {drop add : List Int} {cost : List (List Int)} {v : Value} {i j i' j' : Nat} (h : BackSt w1 wr drop add cost v i j) (he : backF drop add cost i j = backF drop add cost i' j') (hi : i' ≤ i) : BackSt w1 wr drop add cost v i' j' := by
  obtain ⟨h1, ps, h2, h3, h4⟩ := h
  exact ⟨h1, ps, h2, by rw [h3, he], by omega⟩
theorem BackSt.push {w1 wr w3 : World} {drop add : List Int} {cost : List (List Int)} {v v' : Value} {i j : Nat} {ps : List (Int × Int)} {o : Obj} (h1 : Below w1.heap.size w1 wr) (h2 : wr.ownsRow w1.heap.size 45 2 v ps.length (ps.flatMap pcells))
    (h3 : backF drop add cost drop.length add.length = ps ++ backF drop add cost (i + 1) (j + 1)) (h4 : ps.length + (i + 1) ≤ drop.length) (he : backF drop add cost (i + 1) (j + 1) = ((i : Int), (j : Int)) :: backF drop add cost i j)
    (h5 : w3.ownsRow w1.heap.size 45 2 v' (ps.length + 1) (ps.flatMap pcells ++ [.int .i64 (i : Int), .int .i64 (j : Int)])) (h6 : Grows (wr.alloc o) w3 v v') : BackSt w1 w3 drop add cost v' i j := by
  refine ⟨(h1.alloc h1.size o).trans (h6.below (by have := h1.size; simp; omega) (fun g hg => ?_)), ps ++ [((i : Int), (j : Int))], ?_, by rw [h3, he]; simp, by simp; omega⟩
  · obtain ⟨A, c, hv, _, ha⟩ := reads_of_owns h2
    subst hv
    cases A with
    | none => simp [Value.ownBlock] at hg
    | some a =>
      simp [Value.ownBlock] at hg
      have := (ha a rfl).1
      subst hg
      exact this
  · simpa [pcells] using h5

/-- a row of pairs of one's own, turned round -/
theorem pr_of_owns {w : World} {base g c : Nat} {ps : List (Int × Int)} (h : w.ownsRow base 45 2 (.slice (some ⟨g, 0, none⟩) ps.length c) ps.length (ps.flatMap pcells)) : ∃ rest, Pr w g ps.length (fun k => ps.getD k (0, 0)) rest := by
  rcases h.2 with ⟨h0, _⟩ | ⟨g', cap, cur, hv, _, hh, _, _, _, htake⟩
  · cases h0
  · injection hv with hv
    injection hv with hv
    injection hv with hv
    subst hv
    refine ⟨cur.toList.drop (ps.length * 2), ?_⟩
    have e : (List.range ps.length).map (fun k => ps.getD k (0, 0)) = ps := by
      apply List.ext_getElem
      · simp
      · intro i h1 h2
        simp [List.getElem?_eq_getElem h2]
    unfold Pr
    rw [e, ← htake, List.take_append_drop]
    exact hh
theorem prs_of_pr {w : World} {g n c : Nat} {f : Nat → Int × Int} {rest : List Value} (h : Pr w g n f rest) : Prs w w.heap.size (some ⟨g, 0, none⟩) n ((List.range n).map f) := by
  refine ⟨by rw [pcells_len]; simp, fun _ => ⟨_, rfl, Blk.lt h, fun j u hu => ?_⟩⟩
  rw [Addr.add_lit, Nat.zero_add, Blk.cell h]
  have hj := (List.getElem?_eq_some_iff.1 hu).1
  simp only [List.getElem?_toArray]
  rw [List.getElem?_append_left hj]
  exact hu
theorem rev_list (ps : List (Int × Int)) : (List.range ps.length).map (fun k => ps.getD (ps.length - 1 - k) (0, 0)) = ps.reverse := by
  apply List.ext_getElem
  · simp
  · intro i h1 h2
    have hi : i < ps.length := by simpa using h1
    rw [List.getElem_map, List.getElem_range, List.getElem_reverse]
    simp [List.getElem?_eq_getElem (show ps.length - 1 - i < ps.length by omega)]
end Go.Proofs.Ytaadaekpmblpaaa
