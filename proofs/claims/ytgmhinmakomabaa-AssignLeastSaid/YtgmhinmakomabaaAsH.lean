/-
  Solve: the program's walk. No condition.
-/
import Derived.Test.YtgmhinmakomabaaAsG
namespace Go.Proofs.Ytgmhinmakomabaa
open Go.RowKit
set_option linter.unusedVariables false

/-- the solution, as it lies in memory -/
def SolPost (w : World) (n : Nat) (c : Nat → Nat → Int) (e : Ending) (w' : World) : Prop :=
  ∃ bt bu bv cost to u v, e = .returned (.tuple #[.agg #[.slice (some ⟨bt, 0, none⟩) n n, .int .i64 cost, .slice (some ⟨bu, 0, none⟩) n n, .slice (some ⟨bv, 0, none⟩) n n], .int .i64 0]) ∧
    First n c to ∧ Feas n c u v ∧ Tight n c u v to ∧ (∀ i, i < n → -1000000000 ≤ u i ∧ u i ≤ 1000000000) ∧ (∀ i, i < n → -1000000000 ≤ v i ∧ v i ≤ 1000000000) ∧ cost = costOf c to n ∧
    IVec w' bt n (fun i => (to i : Int)) ∧ IVec w' bu n u ∧ IVec w' bv n v ∧ bt ≠ bu ∧ bt ≠ bv ∧ bu ≠ bv ∧ w.heap.size ≤ bt ∧ w.heap.size ≤ bu ∧ w.heap.size ≤ bv ∧ Below w.heap.size w w'
def SolNo (w : World) (e : Ending) (w' : World) : Prop :=
  e = .returned (.tuple #[.agg #[.slice none 0 0, .int .i64 0, .slice none 0 0, .slice none 0 0], .int .i64 5]) ∧ Below w.heap.size w w'
/-- when the rows before k have columns -/
def SolA (w1 : World) (B n cc : Nat) (A : Option Addr) (b : SB) (c : Nat → Nat → Int) (k : Nat) (wr : World) : Prop :=
  ∃ u v to tf ow, Ph n k c u v to ow ∧ (∀ i, i < k → tf i = (to i : Int)) ∧ Sv wr B A n cc b c u v tf ow ∧ Below B w1 wr
theorem chg_below {w wr : World} {b : SB} {B : Nat} {M : Nat → Prop} (h : Chg w wr M) (hb : b.ok B) (hB : B ≤ w.heap.size) (hM : ∀ x, M x → b.has x) : Below B w wr :=
  h.below hB fun i hi => by
    rcases hM i hi with rfl | rfl | rfl | rfl | rfl
    · exact hb.g
    · exact hb.u
    · exact hb.v
    · exact hb.t
    · exact hb.o
/-- when the rows before k have their first columns -/
def SolB (w1 : World) (B n cc : Nat) (A : Option Addr) (b : SB) (c : Nat → Nat → Int) (u v : Nat → Int) (k : Nat) (wr : World) : Prop :=
  ∃ to tf ow, Lw n k c u v to ow ∧ (∀ i, i < n → tf i = (to i : Int)) ∧ Sv wr B A n cc b c u v tf ow ∧ Below B w1 wr
theorem sol_end {w w1 wr : World} {n cc : Nat} {A : Option Addr} {b : SB} {c : Nat → Nat → Int} {u v tf ow : Nat → Int} {to : Nat → Nat} {o : Obj} (hw1 : w1 = (w.alloc o).drew) (hf : Feas n c u v) (hl : Lw n n c u v to ow) (htf : ∀ i, i < n → tf i = (to i : Int)) (hs : Sv wr (w.heap.size + 1) A n cc b c u v tf ow) (hb : Below (w.heap.size + 1) w1 wr)
    (hu : ∀ i, i < n → -1000000000 ≤ u i ∧ u i ≤ 1000000000) (hv : ∀ i, i < n → -1000000000 ≤ v i ∧ v i ≤ 1000000000) (d : Nat) (v0 v1 v2 v3 : Value) :
    SolPost w n c (.returned (.tuple #[.agg #[.slice (some ⟨b.t, 0, none⟩) n n, .int .i64 (costOf c to n), .slice (some ⟨b.u, 0, none⟩) n n, .slice (some ⟨b.v, 0, none⟩) n n], .int .i64 0]))
      (((((wr.drewN d).setCell ⟨w.heap.size, 0, none⟩ v0).setCell ⟨w.heap.size, 1, none⟩ v1).setCell ⟨w.heap.size, 2, none⟩ v2).setCell ⟨w.heap.size, 3, none⟩ v3) := by
  have hb0 : Below w.heap.size w wr := (by rw [hw1]; exact below_drewN ((Below.refl _ w).alloc (Nat.le_refl _) _) 1 : Below w.heap.size w w1).trans (hb.mono (by omega))
  have n1 : b.t ≠ w.heap.size := by have := hs.ok.t; omega
  have n2 : b.u ≠ w.heap.size := by have := hs.ok.u; omega
  have n3 : b.v ≠ w.heap.size := by have := hs.ok.v; omega
  refine ⟨b.t, b.u, b.v, _, to, u, v, rfl, hl.first hf, hf, hl.tight, hu, hv, rfl, ?_, ?_, ?_, hs.ok.ut.symm, hs.ok.vt.symm, hs.ok.uv, by have := hs.ok.t; omega, by have := hs.ok.u; omega, by have := hs.ok.v; omega, ?_⟩
  · exact (((((hs.vt.congr (fun i hi => (htf i hi).symm)).drewN d).far n1 _).far n1 _).far n1 _).far n1 _
  · exact ((((hs.vu.drewN d).far n2 _).far n2 _).far n2 _).far n2 _
  · exact ((((hs.vv.drewN d).far n3 _).far n3 _).far n3 _).far n3 _
  · exact (((((below_drewN hb0 d).setCell (Nat.le_refl _) _).setCell (Nat.le_refl _) _).setCell (Nat.le_refl _) _).setCell (Nat.le_refl _) _)

set_option maxRecDepth 100000 in
set_option maxHeartbeats 4000000 in
theorem solve_yes (w : World) (A : Option Addr) (n cc : Nat) (m : List (List Int)) (h : Mat w w.heap.size A n m) (hm : matB m = true) :
    Calls Try.prog 10 #[.slice A n cc] w (SolPost w n (mget m)) := by
  have hl := h.len
  have HMX := Lib.hid (fun o => matrix_any A n cc w.heap.size m (w.alloc o) (h.keep fun p hp => World.cell?_alloc_lt w o p hp))
  rw [hm] at HMX
  have hn : n ≤ 40 := by
    unfold matB at hm
    simp only [Bool.and_eq_true, decide_eq_true_eq] at hm
    omega
  have hsq : Hid (∀ o, Sq (w.alloc o).drew (w.alloc o).drew.heap.size A n (mget m)) := fun o => ((h.sq hm).alloc (Nat.le_refl _) o).more (by simp)
  have mk1 := make_ints n (by omega)
  have HCB : Hid (CB n (mget m)) := by rw [← hl]; exact matB_bounds hm
  clear h hm hl
  go_enter Try.func10, Try.ntmps10
  go_wp2_with fail
  refine (HMX.out _).mono ?_
  rintro e w1 ⟨rfl, rfl⟩
  go_wp2_with fail
  refine wp_region_inv (by kernel_rfl) (MkInv w (w.alloc (Obj.cells #[Value.slice none 0 0, Value.int IntKind.i64 0, Value.slice none 0 0, Value.slice none 0 0] 27)).drew A n cc (mget m)) ?_ ?_ ?_
  · refine ⟨by simp, fun _ => undef, rfl, Below.refl _ _, fun i hi hl => ?_, fun i j _ _ _ _ hl => ?_⟩
    · simp [Array.getD] at hl
    · simp [Array.getD] at hl
  · have HSQ := Lib.hid (hsq.out (Obj.cells #[Value.slice none 0 0, Value.int IntKind.i64 0, Value.slice none 0 0, Value.slice none 0 0] 27))
    obtain ⟨w0, hw0⟩ : ∃ w0, w0 = (w.alloc (Obj.cells #[Value.slice none 0 0, Value.int IntKind.i64 0, Value.slice none 0 0, Value.slice none 0 0] 27)).drew := ⟨_, rfl⟩
    rw [← hw0] at HSQ ⊢
    clear hw0 hsq HMX
    intro listed a wr i hi hI
    obtain ⟨hs, v, rfl, hb0, hf, hd⟩ := hI
    have hi14 := (ready_unrun hi).1
    have ST := Lib.hid (fun (wr' : World) (u : Value) => MkInv.step (wr' := wr') (u := u) (w := w) (i := i) hs hb0 hf hd)
    simp at hi14
    have hc : i = 0 ∨ i = 1 ∨ i = 2 ∨ i = 3 ∨ i = 4 ∨ i = 5 ∨ i = 6 ∨ i = 7 ∨ i = 8 ∨ i = 9 ∨ i = 10 ∨ i = 11 ∨ i = 12 ∨ i = 13 := by omega
    rcases hc with rfl | rfl | rfl | rfl | rfl | rfl | rfl | rfl | rfl | rfl | rfl | rfl | rfl | rfl
    · refine wpOp_do rfl rfl (wp_yield (v := .slice A n cc) (w' := wr) rfl ?_)
      exact ST.out wr _ (by omega) (Below.refl _ _) rfl (fun h => by cases h)
    · refine wpOp_do rfl rfl (wp_yield (v := .int .i64 (n : Int)) (w' := wr) rfl ?_)
      exact ST.out wr _ (by omega) (Below.refl _ _) rfl (fun h => by cases h)
    · have hon := ready_on hi rfl
      simp [Region.binds] at hon
      have e1 : v 1 = .int .i64 (n : Int) := hf 1 (by omega) (by simpa using hon)
      refine wpOp_do rfl rfl (wp_yield (v := .slice (some ⟨wr.heap.size, 0, none⟩) n n) (w' := wr.alloc (.cells (Array.replicate n (Value.int .i64 0)) 3)) ?_ ?_)
      · simp [execOp, mkAct, Act.eval, e1, mk1]
      · exact ST.out _ _ (by omega) ((Below.refl _ _).alloc (Nat.le_refl _) _) ⟨_, rfl, Vec.new _ _ _ _, hb0.size⟩ (fun _ g hg => by simp [Value.ownBlock] at hg; omega)
    · refine wpOp_do rfl rfl (wp_yield (v := .int .i64 (n : Int)) (w' := wr) rfl ?_)
      exact ST.out wr _ (by omega) (Below.refl _ _) rfl (fun h => by cases h)
    · have hon := ready_on hi rfl
      simp [Region.binds] at hon
      have e1 : v 3 = .int .i64 (n : Int) := hf 3 (by omega) (by simpa using hon)
      refine wpOp_do rfl rfl (wp_yield (v := .slice (some ⟨wr.heap.size, 0, none⟩) n n) (w' := wr.alloc (.cells (Array.replicate n (Value.int .i64 0)) 3)) ?_ ?_)
      · simp [execOp, mkAct, Act.eval, e1, mk1]
      · exact ST.out _ _ (by omega) ((Below.refl _ _).alloc (Nat.le_refl _) _) ⟨_, rfl, Vec.new _ _ _ _, hb0.size⟩ (fun _ g hg => by simp [Value.ownBlock] at hg; omega)
    · refine wpOp_do rfl rfl (wp_yield (v := .slice (some ⟨wr.heap.size, 0, none⟩) 1 1) (w' := wr.alloc (.cells #[Value.int .i64 (-1)] 3)) ?_ ?_)
      · simp only [mkAct]
        go_simp
      · exact ST.out _ _ (by omega) ((Below.refl _ _).alloc (Nat.le_refl _) _) ⟨_, rfl, by simp⟩ (fun h => by cases h)
    · refine wpOp_do rfl rfl (wp_yield (v := .int .i64 (n : Int)) (w' := wr) rfl ?_)
      exact ST.out wr _ (by omega) (Below.refl _ _) rfl (fun h => by cases h)
    · have hon := ready_on hi rfl
      simp [Region.binds] at hon
      obtain ⟨g, e1, hg⟩ := hf 5 (by omega) (by simpa using hon.1)
      have e2 : v 6 = .int .i64 (n : Int) := hf 6 (by omega) (by simpa using hon.2)
      refine wpOp_do rfl rfl (wp_call_go 21 _ _ rfl Try.func21 (by kernel_rfl) (by kernel_rfl) #[.slice (some ⟨g, 0, none⟩) 1 1, .int .i64 (n : Int)] (by simp [mkAct, Act.eval, e1, e2]) (repeat_any wr n hn g hg) ?_)
      rintro e w' ⟨g', rfl, h1, h2, h3⟩
      exact ⟨_, rfl, ST.out _ _ (by omega) h3 ⟨_, rfl, h1, Nat.le_trans hb0.size h2⟩ (fun _ g hg => by simp [Value.ownBlock] at hg; omega)⟩
    · refine wpOp_do rfl rfl (wp_yield (v := .slice (some ⟨wr.heap.size, 0, none⟩) 1 1) (w' := wr.alloc (.cells #[Value.int .i64 (-1)] 3)) ?_ ?_)
      · simp only [mkAct]
        go_simp
      · exact ST.out _ _ (by omega) ((Below.refl _ _).alloc (Nat.le_refl _) _) ⟨_, rfl, by simp⟩ (fun h => by cases h)
    · refine wpOp_do rfl rfl (wp_yield (v := .int .i64 (n : Int)) (w' := wr) rfl ?_)
      exact ST.out wr _ (by omega) (Below.refl _ _) rfl (fun h => by cases h)
    · have hon := ready_on hi rfl
      simp [Region.binds] at hon
      obtain ⟨g, e1, hg⟩ := hf 8 (by omega) (by simpa using hon.1)
      have e2 : v 9 = .int .i64 (n : Int) := hf 9 (by omega) (by simpa using hon.2.1)
      refine wpOp_do rfl rfl (wp_call_go 21 _ _ rfl Try.func21 (by kernel_rfl) (by kernel_rfl) #[.slice (some ⟨g, 0, none⟩) 1 1, .int .i64 (n : Int)] (by simp [mkAct, Act.eval, e1, e2]) (repeat_any wr n hn g hg) ?_)
      rintro e w' ⟨g', rfl, h1, h2, h3⟩
      exact ⟨_, rfl, ST.out _ _ (by omega) h3 ⟨_, rfl, h1, Nat.le_trans hb0.size h2⟩ (fun _ g hg => by simp [Value.ownBlock] at hg; omega)⟩
    · have hon := ready_on hi rfl
      simp [Region.binds] at hon
      obtain ⟨l0, l2, l4, l7, l10⟩ := hon
      have e0 : v 0 = .slice A n cc := hf 0 (by omega) (by simpa using l0)
      obtain ⟨gu, e2, q2, r2⟩ := hf 2 (by omega) (by simpa using l2)
      obtain ⟨gv, e4, q4, r4⟩ := hf 4 (by omega) (by simpa using l4)
      obtain ⟨gt, e7, q7, r7⟩ := hf 7 (by omega) (by simpa using l7)
      obtain ⟨go, e10, q10, r10⟩ := hf 10 (by omega) (by simpa using l10)
      have d1 := hd 2 4 (by omega) (by omega) rfl rfl (by simpa using l2) (by simpa using l4)
      have d2 := hd 2 7 (by omega) (by omega) rfl rfl (by simpa using l2) (by simpa using l7)
      have d3 := hd 2 10 (by omega) (by omega) rfl rfl (by simpa using l2) (by simpa using l10)
      have d4 := hd 4 7 (by omega) (by omega) rfl rfl (by simpa using l4) (by simpa using l7)
      have d5 := hd 4 10 (by omega) (by omega) rfl rfl (by simpa using l4) (by simpa using l10)
      have d6 := hd 7 10 (by omega) (by omega) rfl rfl (by simpa using l7) (by simpa using l10)
      rw [e2, e4] at d1
      rw [e2, e7] at d2
      rw [e2, e10] at d3
      rw [e4, e7] at d4
      rw [e4, e10] at d5
      rw [e7, e10] at d6
      simp [Value.ownBlock] at d1 d2 d3 d4 d5 d6
      refine wpOp_do rfl rfl (wp_yield (v := .agg #[.slice A n cc, .slice (some ⟨gu, 0, none⟩) n n, .slice (some ⟨gv, 0, none⟩) n n, .slice (some ⟨gt, 0, none⟩) n n, .slice (some ⟨go, 0, none⟩) n n]) (w' := wr) ?_ ?_)
      · simp only [mkAct]
        go_simp
      · exact ST.out wr _ (by omega) (Below.refl _ _) ⟨gu, gv, gt, go, rfl, q2, q4, q7, q10, r2, r4, r7, r10, d1, d2, d3, d4, d5, d6⟩ (fun h => by cases h)
    · have hon := ready_on hi rfl
      simp [Region.binds] at hon
      obtain ⟨gu, gv, gt, go, e11, q2, q4, q7, q10, r2, r4, r7, r10, d1, d2, d3, d4, d5, d6⟩ := hf 11 (by omega) (by simpa using hon)
      refine wpOp_do rfl rfl (wp_yield (v := .pointer (some ⟨wr.heap.size, 0, none⟩)) (w' := wr.alloc (.cells #[.slice A n cc, .slice (some ⟨gu, 0, none⟩) n n, .slice (some ⟨gv, 0, none⟩) n n, .slice (some ⟨gt, 0, none⟩) n n, .slice (some ⟨go, 0, none⟩) n n] 45)) ?_ ?_)
      · simp only [mkAct]
        go_simp
      · have l2 := Vec.lt q2
        have l4 := Vec.lt q4
        have l7 := Vec.lt q7
        have l10 := Vec.lt q10
        exact ST.out _ _ (by omega) ((Below.refl _ _).alloc (Nat.le_refl _) _) ⟨⟨wr.heap.size, gu, gv, gt, go⟩, rfl, Blk.new _ _ _, HSQ.out.below (hb0.alloc hb0.size _), q2.alloc _, q4.alloc _, q7.alloc _, q10.alloc _,
          ⟨hb0.size, r2, r4, r7, r10, by show wr.heap.size ≠ gu; omega, by show wr.heap.size ≠ gv; omega, by show wr.heap.size ≠ gt; omega, by show wr.heap.size ≠ go; omega, d1, d2, d3, d4, d5, d6⟩, hn⟩ (fun h => by cases h)
    · have hon := ready_on hi rfl
      simp [Region.binds] at hon
      obtain ⟨b, e12, q⟩ := hf 12 (by omega) (by simpa using hon.1)
      refine wpOp_do rfl rfl (wp_yield (v := .pointer (some ⟨b.g, 0, none⟩)) (w' := wr) ?_ ?_)
      · simp only [mkAct]
        go_simp
      · exact ST.out wr _ (by omega) (Below.refl _ _) ⟨b, rfl, q⟩ (fun h => by cases h)
  · intro listed a wr hr hI
    obtain ⟨hs, v, rfl, hb0, hf, hd⟩ := hI
    have l0 : listed[0]?.getD false = true := by simpa using ready_nil (i := 0) hr rfl (by omega) (by simp)
    have l1 : listed[1]?.getD false = true := by simpa using ready_nil (i := 1) hr rfl (by omega) (by simp)
    have l2 : listed[2]?.getD false = true := by simpa using ready_nil (i := 2) hr rfl (by omega) (by simp [l1])
    have l3 : listed[3]?.getD false = true := by simpa using ready_nil (i := 3) hr rfl (by omega) (by simp)
    have l4 : listed[4]?.getD false = true := by simpa using ready_nil (i := 4) hr rfl (by omega) (by simp [l3])
    have l5 : listed[5]?.getD false = true := by simpa using ready_nil (i := 5) hr rfl (by omega) (by simp)
    have l6 : listed[6]?.getD false = true := by simpa using ready_nil (i := 6) hr rfl (by omega) (by simp)
    have l7 : listed[7]?.getD false = true := by simpa using ready_nil (i := 7) hr rfl (by omega) (by simp [l5, l6])
    have l8 : listed[8]?.getD false = true := by simpa using ready_nil (i := 8) hr rfl (by omega) (by simp)
    have l9 : listed[9]?.getD false = true := by simpa using ready_nil (i := 9) hr rfl (by omega) (by simp)
    have l10 : listed[10]?.getD false = true := by simpa using ready_nil (i := 10) hr rfl (by omega) (by simp [l7, l8, l9])
    have l11 : listed[11]?.getD false = true := by simpa using ready_nil (i := 11) hr rfl (by omega) (by simp [l0, l2, l4, l7, l10])
    have l12 : listed[12]?.getD false = true := by simpa using ready_nil (i := 12) hr rfl (by omega) (by simp [l11])
    have l13 : listed[13]?.getD false = true := by simpa using ready_nil (i := 13) hr rfl (by omega) (by simp [l0, l1, l2, l3, l4, l5, l6, l7, l8, l9, l10, l11, l12])
    obtain ⟨b, e13, hsv⟩ := hf 13 (by omega) (by simpa using l13)
    simp only [mkAct, e13]
    generalize v 0 = x0
    generalize v 1 = x1
    generalize v 2 = x2
    generalize v 3 = x3
    generalize v 4 = x4
    generalize v 5 = x5
    generalize v 6 = x6
    generalize v 7 = x7
    generalize v 8 = x8
    generalize v 9 = x9
    generalize v 10 = x10
    generalize v 11 = x11
    generalize v 12 = x12
    clear hr hf hd e13 l0 l1 l2 l3 l4 l5 l6 l7 l8 l9 l10 l11 l12 l13 hs HMX hsq mk1
    obtain ⟨w1, hw1⟩ : ∃ w1, w1 = (w.alloc (Obj.cells #[Value.slice none 0 0, Value.int IntKind.i64 0, Value.slice none 0 0, Value.slice none 0 0] 27)).drew := ⟨_, rfl⟩
    have hz : w1.heap.size = w.heap.size + 1 := by rw [hw1]; simp
    rw [← hw1, hz] at hb0 hsv
    obtain ⟨c, hc⟩ : ∃ c, mget m = c := ⟨_, rfl⟩
    rw [hc] at hsv HCB ⊢
    have HC := Lib.hid hc
    have HA : Hid (SolA w1 (w.heap.size + 1) n cc A b c 0 wr) := ⟨_, _, fun _ => 0, _, _, Ph.start HCB.out (fun _ _ => rfl) (fun _ _ => rfl) (fun _ _ => rfl) _, fun i hi => absurd hi (by omega), hsv, hb0⟩
    have hK1 : Hid (Blk w1 w.heap.size 27 #[Value.slice none 0 0, Value.int IntKind.i64 0, Value.slice none 0 0, Value.slice none 0 0]) := by rw [hw1]; exact (Blk.new w _ _).drew
    have HWW : Hid (w1 = (w.alloc (Obj.cells #[Value.slice none 0 0, Value.int IntKind.i64 0, Value.slice none 0 0, Value.slice none 0 0] 27)).drew) := hw1
    have HW1 : Hid (Below w.heap.size w w1) := by rw [hw1]; exact below_drewN ((Below.refl _ w).alloc (Nat.le_refl _) _) 1
    have HZ := Lib.hid hz
    have HOK := Lib.hid hsv.ok
    clear hw1 hz hb0 hsv hc
    go_wp2_with fail
    go_loopw [31] (fun s wr => ∃ k : Nat, k ≤ n ∧ s = .int .i64 (k : Int) ∧ Hid (SolA w1 (w.heap.size + 1) n cc A b c k wr)) (fun s _ => n - (intOf s).toNat)
    case atStart => exact ⟨0, by omega, rfl, HA⟩
    case round =>
      clear HA
      obtain ⟨w2, rfl⟩ : ∃ w2 : World, w2 = wr := ⟨_, rfl⟩
      obtain ⟨k, hk, rfl, HA⟩ := hrel
      by_cases hkt : k < n
      · obtain ⟨u, v, to, tf, ow, h1, h2, h3, h4⟩ := HA.out
        have HAU := Lib.hid (augment_any w2 (w.heap.size + 1) n cc A b c u v tf ow k to h1 hkt HCB.out h3 h2 (by have := h4.size; have := HZ.out; omega))
        have HB2 := Lib.hid h4
        clear h1 h2 h3 h4 HA
        go_wp2_with fail
        refine (HAU.out).mono ?_
        rintro e w3 ⟨rfl, u', v', to', tf', ow', g1, g2, g3, g4⟩
        have HA2 : Hid (SolA w1 (w.heap.size + 1) n cc A b c (k + 1) w3) := ⟨u', v', to', tf', ow', g1, g2, g3, HB2.out.trans ((chg_below g4 HOK.out (by have := HB2.out.size; have := HZ.out; omega) (fun x hx => .inr (by rcases hx with h | h | h | h <;> simp [h]))))⟩
        clear g1 g2 g3 g4 HAU HB2
        go_wp2_with fail
        go_roundw
        case rel => exact ⟨k + 1, by omega, by go_num, HA2⟩
        case measure => simp [intOf] <;> omega
      · obtain rfl : k = n := by omega
        obtain ⟨u, v, to, tf, ow, h1, h2, h3, h4⟩ := HA.out
        have HF := Lib.hid h1.feas
        have HU : Hid (∀ i, i < k → -1000000000 ≤ u i ∧ u i ≤ 1000000000) := fun i hi => by have := h1.ub HCB.out hi; omega
        have HV : Hid (∀ i, i < k → -1000000000 ≤ v i ∧ v i ≤ 1000000000) := fun i hi => by have := h1.vle i hi; omega
        have HB : Hid (SolB w1 (w.heap.size + 1) k cc A b c u v 0 w2) := ⟨to, tf, ow, h1.low, h2, h3, h4⟩
        clear h1 h2 h3 h4 HA
        go_wp2_with fail
        go_loopw [39] (fun s wr => ∃ p : Nat, p ≤ k ∧ s = .int .i64 (p : Int) ∧ Hid (SolB w1 (w.heap.size + 1) k cc A b c u v p wr)) (fun s _ => k - (intOf s).toNat)
        case atStart => exact ⟨0, by omega, rfl, HB⟩
        case round =>
          clear HB
          obtain ⟨w3, rfl⟩ : ∃ w3 : World, w3 = wr := ⟨_, rfl⟩
          obtain ⟨p, hp, rfl, HB⟩ := hrel
          by_cases hpt : p < k
          · obtain ⟨to, tf, ow, h1, h2, h3, h4⟩ := HB.out
            have HAU := Lib.hid (lower_any w3 (w.heap.size + 1) k cc A b c u v tf ow p to hpt h1 h2 h3 (by have := h4.size; have := HZ.out; omega) HU.out HV.out)
            have HB2 := Lib.hid h4
            clear h1 h2 h3 h4 HB
            go_wp2_with fail
            refine (HAU.out).mono ?_
            rintro e w4 ⟨rfl, to', tf', ow', g1, g2, g3, g4⟩
            have HA2 : Hid (SolB w1 (w.heap.size + 1) k cc A b c u v (p + 1) w4) := ⟨to', tf', ow', g1, g2, g3, HB2.out.trans ((chg_below g4 HOK.out (by have := HB2.out.size; have := HZ.out; omega) (fun x hx => .inr (by rcases hx with h | h <;> simp [h]))))⟩
            clear g1 g2 g3 g4 HAU HB2
            go_wp2_with fail
            go_roundw
            case rel => exact ⟨p + 1, by omega, by go_num, HA2⟩
            case measure => simp [intOf] <;> omega
          · obtain rfl : p = k := by omega
            obtain ⟨to, tf, ow, h1, h2, h3, h4⟩ := HB.out
            have HL := Lib.hid h1
            have HT := Lib.hid h2
            have HS := Lib.hid h3
            have HB4 := Lib.hid h4
            obtain ⟨c0, c1, c2, c3, c4⟩ := h3.cells
            clear h1 h2 h3 h4 HB
            go_wp2_with fail
            go_loop [8, 51] (fun s i => ∃ (q : Nat) (x : Int), q ≤ p ∧ i = .int .i64 (q : Int) ∧ s = .int .i64 x ∧ Hid (x = costOf c to q) ∧ 0 ≤ x ∧ x ≤ 1048576 * q) (fun _ i => p - (intOf i).toNat)
            case atStart => exact ⟨0, 0, by omega, rfl, rfl, rfl, by omega, by omega⟩
            case round =>
              obtain ⟨q, x, hq, rfl, rfl, HX, hx0, hx1⟩ := hrel
              by_cases hqt : q < p
              · have htq := HL.out.perf.1 q hqt
                obtain ⟨b1, o1, b2, o2, c', hAA, _, _, g3, g4⟩ := HS.out.sq q hqt
                subst hAA
                have g5 := g4 (to q) htq
                have g6 := HS.out.vt.at_ hqt
                rw [HT.out q hqt] at g6
                have q1 := HCB.out q (to q) hqt htq
                have HX2 : Hid (x + c q (to q) = costOf c to (q + 1)) := by show _ = _; rw [HX.out]; rfl
                obtain ⟨y, hy⟩ : ∃ y, c q (to q) = y := ⟨_, rfl⟩
                obtain ⟨z, hz⟩ : ∃ z, to q = z := ⟨_, rfl⟩
                rw [hz] at g5 g6 hy htq q1 HX2
                rw [hy] at g5 q1 HX2
                obtain ⟨q11, q12⟩ := q1
                clear g4 hy hz HX
                go_wp2_with fail
                go_round
                case rel => exact ⟨q + 1, x + y, by omega, by go_num, by go_num, HX2, by omega, by omega⟩
                case measure => simp [intOf] <;> omega
              · obtain rfl : q = p := by omega
                have hK := hK1.out.below HB4.out (by omega)
                have k0 := hK.cell 0
                have k1 := hK.cell 1
                have k2 := hK.cell 2
                have k3 := hK.cell 3
                have z0 := hK.frozen 0
                have z1 := hK.frozen 1
                have z2 := hK.frozen 2
                have z3 := hK.frozen 3
                simp at k0 k1 k2 k3
                have HE := Lib.hid (fun d v0 v1 v2 v3 => sol_end HWW.out HF.out HL.out HT.out HS.out (by have := HB4.out; exact this) HU.out HV.out d v0 v1 v2 v3)
                rw [← HX.out] at HE
                clear hK
                go_wp2_with fail
                refine region_tail 14 (by kernel_rfl) (by kernel_rfl) _ rfl ?_
                simp only [List.take_succ_cons, List.take_zero, List.drop_succ_cons, List.drop_zero]
                repeat (go_big_quiet_step (fail))
                refine wpQuiet_nil ?_
                go_wp2_with fail
                have hE := HE.out 1 (.slice (some ⟨b.t, 0, none⟩) q q) (.int .i64 x) (.slice (some ⟨b.u, 0, none⟩) q q) (.slice (some ⟨b.v, 0, none⟩) q q)
                rw [← HC.out] at hE
                clear HE
                refine bodyPost_ret (v := .tuple #[.agg #[.slice (some ⟨b.t, 0, none⟩) q q, .int .i64 x, .slice (some ⟨b.u, 0, none⟩) q q, .slice (some ⟨b.v, 0, none⟩) q q], .int .i64 0]) ?_ rfl hE
                simp [results, Try.results10, go_sem, k0, k1, k2, k3]

set_option maxRecDepth 100000 in
set_option maxHeartbeats 4000000 in
theorem solve_no (w : World) (A : Option Addr) (n cc : Nat) (m : List (List Int)) (h : Mat w w.heap.size A n m) (hm : matB m = false) :
    Calls Try.prog 10 #[.slice A n cc] w (SolNo w) := by
  have HMX := Lib.hid (fun o => matrix_any A n cc w.heap.size m (w.alloc o) (h.keep fun p hp => World.cell?_alloc_lt w o p hp))
  rw [hm] at HMX
  have HB : Hid (∀ o, Below w.heap.size w (w.alloc o)) := fun o => (Below.refl _ w).alloc (Nat.le_refl _) _
  clear h hm
  go_enter Try.func10, Try.ntmps10
  go_wp2_with fail
  refine (HMX.out _).mono ?_
  rintro e w1 ⟨rfl, rfl⟩
  go_wp2_with fail
  exact bodyPost_ret (v := .tuple #[.agg #[.slice none 0 0, .int .i64 0, .slice none 0 0, .slice none 0 0], .int .i64 5]) (by simp [results, Try.results10, go_sem]) rfl ⟨rfl, HB.out _⟩
end Go.Proofs.Ytgmhinmakomabaa
