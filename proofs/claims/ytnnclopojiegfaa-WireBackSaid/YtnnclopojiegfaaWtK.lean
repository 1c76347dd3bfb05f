/-
  The program's GetCommit. No condition.
-/
import Derived.Test.YtnnclopojiegfaaWtJ
namespace Go.Proofs.Ytnnclopojiegfaa
open Go.RowKit
set_option linter.unusedVariables false

theorem results_cell_row3 {P : Program} {fn : Func} {p u v : Tmp} {ty : TypeId} (h : fn.results = #[.cell p ty, .tmp u, .tmp v]) (tmps : Array Value) (w : World) (g : Nat) (t : TypeId) (cs : Array Value) (fr : Nat × Nat) (d : TypeDesc)
    (hp : tmps.getD p undef = .pointer (some ⟨g, 0, none⟩)) (hg : w.heap[g]? = some (.cells cs t fr))
    (hu : P.underlying ty = some d) (hd : (match d with | .struct _ | .array _ _ => true | _ => false) = true) (hi : (P.info? ty).map (·.size) = some cs.size) :
    (results fn tmps).run P w = .ok (.tuple #[.agg cs, tmps.getD u undef, tmps.getD v undef]) w := by
  have hp' : tmps[p]?.getD undef = .pointer (some ⟨g, 0, none⟩) := by simpa using hp
  simp [results, h, hp', asAddr, run_loadVar_row w g t ty cs fr d hg hu hd hi, Result.andThen]

theorem below_sets5 {w w2 : World} (h : Below w.heap.size w w2) (a b c d e : Value) : Below w.heap.size w (((((w2.setCell ⟨w.heap.size, 0, none⟩ a).setCell ⟨w.heap.size, 1, none⟩ b).setCell ⟨w.heap.size, 2, none⟩ c).setCell ⟨w.heap.size, 3, none⟩ d).setCell ⟨w.heap.size, 4, none⟩ e) :=
  ((((h.setCell (Nat.le_refl _) a).setCell (Nat.le_refl _) b).setCell (Nat.le_refl _) c).setCell (Nat.le_refl _) d).setCell (Nat.le_refl _) e
theorem GoodN.set1 {w : World} {lo g k : Nat} {x : CX} (h : GoodN w lo x) (hg : g < lo) (u : Value) : GoodN (w.setCell ⟨g, k, none⟩ u) lo x :=
  h.same (by simp [World.setCell]) fun i hi => Below.heap_setCell w ⟨g, k, none⟩ u i (by have := (h.bl hi).1; show i ≠ g; omega)
theorem goodN_sets5 {w : World} {lo g : Nat} {x : CX} (h : GoodN w lo x) (hg : g < lo) (a b c d e : Value) : GoodN (((((w.setCell ⟨g, 0, none⟩ a).setCell ⟨g, 1, none⟩ b).setCell ⟨g, 2, none⟩ c).setCell ⟨g, 3, none⟩ d).setCell ⟨g, 4, none⟩ e) lo x :=
  ((((h.set1 hg a).set1 hg b).set1 hg c).set1 hg d).set1 hg e
theorem GoodN.alloc {w : World} {lo : Nat} {x : CX} (h : GoodN w lo x) (o : Obj) : GoodN (w.alloc o) lo x :=
  h.same (by simp) fun i hi => Below.heap_alloc w o i (h.bl hi).2
def getM (bs : List Nat) (z : Int) : Option (WCommit × Nat) := if 0 ≤ z ∧ z ≤ bs.length then commitP bs z.toNat else none
def MPost (w : World) (o : Option (WCommit × Nat)) (e : Ending) (w' : World) : Prop :=
  (match o with
    | some y => ∃ x : CX, e = .returned (.tuple #[.agg #[.int .i64 x.c.stamp, .slice x.A1 x.c.parents.length x.c1, .slice x.A2 x.c.picks.length x.c2, .string x.c.note, .slice x.A3 x.c.writes.length x.c3], .int .i64 (y.2 : Int), .int .i64 0]) ∧ x.c = y.1 ∧ GoodN w' w.heap.size x
    | none => e = .returned (.tuple #[.agg #[.int .i64 0, .slice none 0 0, .slice none 0 0, .string ByteArray.empty, .slice none 0 0], .int .i64 0, .int .i64 13])) ∧ Below w.heap.size w w'

set_option maxRecDepth 100000 in
set_option maxHeartbeats 1000000 in
theorem getCommit_any (A : Option Addr) (n c : Nat) (z : Int) (bs : List Nat) (w : World) (hn : n ≤ 1000000000) (hnc : n ≤ c) (hr : Reads w w.heap.size 1 A n (bs.map byt)) (hbs : ∀ x ∈ bs, x < 256) :
    Calls Try.prog 25 #[.slice A n c, .int .i64 z] w (MPost w (getM bs z)) := by
  have hl : bs.length = n := by have := hr.1; simpa using this
  obtain ⟨w0, hw0⟩ : ∃ w0, w0 = w.alloc (.cells #[.int .i64 0, .slice none 0 0, .slice none 0 0, .string ⟨#[]⟩, .slice none 0 0] 36) := ⟨_, rfl⟩
  have hr0 : Reads w0 w0.heap.size 1 A n (bs.map byt) := by rw [hw0]; exact (hr.alloc (Nat.le_refl _) _).more (by simp)
  have hb0 : Blk w0 w.heap.size 36 #[.int .i64 0, .slice none 0 0, .slice none 0 0, .string ByteArray.empty, .slice none 0 0] := by rw [hw0]; exact Blk.new _ _ _
  have hs0 : w0.heap.size = w.heap.size + 1 := by rw [hw0]; simp
  have hbel : Below w.heap.size w w0 := by rw [hw0]; exact (Below.refl _ w).alloc (Nat.le_refl _) _
  obtain ⟨s, hs⟩ : ∃ s : Option Nat, s = if 0 ≤ z ∧ z ≤ bs.length then some z.toNat else none := ⟨_, rfl⟩
  have hgm : getM bs z = s.bind (commitP bs) := by
    unfold getM
    rw [hs]
    split <;> rfl
  have HG := Lib.hid hgm
  have key : ∃ bad : Bool, Rd (w0.alloc (.cells #[.slice A n c, .int .i64 z, .bool bad] 55)) w0.heap.size A n c s ∧ RdIn (w0.alloc (.cells #[.slice A n c, .int .i64 z, .bool bad] 55)) w0.heap.size A n c bs ∧
      Calls Try.prog 29 #[.slice A n c, .int .i64 z] w0 fun e w' => e = .returned (.pointer (some ⟨w0.heap.size, 0, none⟩)) ∧ w0.alloc (.cells #[.slice A n c, .int .i64 z, .bool bad] 55) = w' := by
    by_cases hz : z < 0 ∨ (n : Int) < z
    · rw [hs, if_neg (by omega)]
      obtain ⟨h1, h2⟩ := rd_startB (z := z) hn hnc hr0 hbs
      exact ⟨true, h1, h2, from_bad A n c z w0 hz hn⟩
    · rw [hs, if_pos (by omega)]
      obtain ⟨p, rfl⟩ := Int.eq_ofNat_of_zero_le (show 0 ≤ z by omega)
      obtain ⟨h1, h2⟩ := rd_start (p := p) hn hnc hr0 hbs (by omega)
      rw [Int.toNat_natCast]
      exact ⟨false, h1, h2, from_ok A n c (p : Int) w0 (by omega) (by omega) hn⟩
  obtain ⟨bad, h1, h2, h3⟩ := key
  have HF := Lib.hid h3
  have HM := Lib.hid (commit_read h1 h2)
  have HB0 := Lib.hid hb0
  have HBL := Lib.hid hbel
  have HS0 := Lib.hid hs0
  have HW0 := Lib.hid hw0.symm
  clear hr hr0 hbs hl hgm hs h1 h2 h3 hb0 hbel hs0 hw0
  go_enter Try.func25, Try.ntmps25
  go_wp2_with fail
  rw [HW0.out]
  clear HW0
  refine (HF.out).mono ?_
  rintro e w1 ⟨rfl, rfl⟩
  clear HF
  go_wp2_with fail
  refine (HM.out).mono ?_
  rintro e w2 ⟨x, rfl, K, hrd2, hg⟩
  have hcase : s.bind (commitP bs) = none ∨ ∃ y q, s.bind (commitP bs) = some (y, q) := by
    cases s.bind (commitP bs) with
    | none => exact .inl rfl
    | some y => exact .inr ⟨y.1, y.2, rfl⟩
  have hlt1 : w0.heap.size + 1 ≤ w2.heap.size := by have := hg.size; simpa using this
  have hbx : Blk w2 w.heap.size 36 #[.int .i64 0, .slice none 0 0, .slice none 0 0, .string ByteArray.empty, .slice none 0 0] := ((HB0.out).alloc _).grown hg (by have := HS0.out; intro e; injection e; omega)
  have hB2 : Below w.heap.size w w2 := ((HBL.out).trans (((Below.refl w0.heap.size w0).alloc (Nat.le_refl _) _).grown hg (by simp) (fun k hk => by injection hk; omega) |>.mono (by have := HS0.out; omega)))
  have hs0' := HS0.out
  have hlt2 : w0.heap.size < w2.heap.size := by omega
  have hlow : Hid (w.heap.size < w0.heap.size + 1) := by unfold Hid; omega
  have hlt3 : w.heap.size < w2.heap.size := by omega
  have hne1 : ¬ w.heap.size = w2.heap.size := by omega
  have hne2 : ¬ w0.heap.size = w2.heap.size := by omega
  have hne3 : ¬ w0.heap.size = w.heap.size := by omega
  have o0 := hbx.cell 0
  have o1 := hbx.cell 1
  have o2 := hbx.cell 2
  have o3 := hbx.cell 3
  have o4 := hbx.cell 4
  have f0 := hbx.frozen 0
  have f1 := hbx.frozen 1
  have f2 := hbx.frozen 2
  have f3 := hbx.frozen 3
  have f4 := hbx.frozen 4
  simp at o0 o1 o2 o3 o4
  have HBX := Lib.hid hbx
  have HB2 := Lib.hid hB2
  have HKK := Lib.hid K
  have HLT := Lib.hid hlt1
  rcases hcase with hc | ⟨y, q, hc⟩
  · rw [hc] at hrd2
    obtain ⟨z2, hb2⟩ := hrd2
    have c2 := hb2.cell 2
    simp at c2
    have HC := Lib.hid hc
    clear hb2 hg K hbx hB2 hc hlt1 hs0' HB0 HBL HM HS0
    go_wp2_with fail
    clear o0 o1 o2 o3 o4 f0 f1 f2 f3 f4
    have FM := ((((((HBX.out).set_ 0 (.int .i64 0)).set_ 1 (.slice none 0 0)).set_ 2 (.slice none 0 0)).set_ 3 (.string ⟨#[]⟩)).set_ 4 (.slice none 0 0)).alloc (.cells #[.int .i64 x.c.stamp, .slice x.A1 x.c.parents.length x.c1, .slice x.A2 x.c.picks.length x.c2, .string x.c.note, .slice x.A3 x.c.writes.length x.c3] 36)
    have FB := (below_sets5 (HB2.out) (.int .i64 0) (.slice none 0 0) (.slice none 0 0) (.string ⟨#[]⟩) (.slice none 0 0)).alloc (by simp; omega) (.cells #[.int .i64 x.c.stamp, .slice x.A1 x.c.parents.length x.c1, .slice x.A2 x.c.picks.length x.c2, .string x.c.note, .slice x.A3 x.c.writes.length x.c3] 36)
    refine bodyPost_ret (results_cell_row3 (P := Try.prog) rfl _ _ w.heap.size 36 #[.int .i64 0, .slice none 0 0, .slice none 0 0, .string ByteArray.empty, .slice none 0 0] (0, 0) _ rfl FM Try.underlying36 rfl (by kernel_rfl)) rfl ?_
    unfold MPost
    rw [HG.out, HC.out]
    exact ⟨rfl, FB⟩
  · rw [hc] at hrd2
    obtain ⟨hb2, hq⟩ := hrd2
    have c1 := hb2.cell 1
    have c2 := hb2.cell 2
    simp at c1 c2
    have HC := Lib.hid hc
    clear hb2 hg K hbx hB2 hc hlt1 hs0' HB0 HBL HM HS0
    go_wp2_with fail
    go_region
    go_wp2_with fail
    clear o0 o1 o2 o3 o4 f0 f1 f2 f3 f4
    have FM := ((((((((HBX.out).set_ 0 (.int .i64 x.c.stamp)).set_ 1 (.slice x.A1 x.c.parents.length x.c1)).set_ 2 (.slice x.A2 x.c.picks.length x.c2)).set_ 3 (.string x.c.note)).set_ 4 (.slice x.A3 x.c.writes.length x.c3)).alloc (.cells #[.int .i64 x.c.stamp, .slice x.A1 x.c.parents.length x.c1, .slice x.A2 x.c.picks.length x.c2, .string x.c.note, .slice x.A3 x.c.writes.length x.c3] 36))).drew
    have FB := ((below_sets5 (HB2.out) (.int .i64 x.c.stamp) (.slice x.A1 x.c.parents.length x.c1) (.slice x.A2 x.c.picks.length x.c2) (.string x.c.note) (.slice x.A3 x.c.writes.length x.c3)).alloc (by simp; omega) (.cells #[.int .i64 x.c.stamp, .slice x.A1 x.c.parents.length x.c1, .slice x.A2 x.c.picks.length x.c2, .string x.c.note, .slice x.A3 x.c.writes.length x.c3] 36))
    have HK := (HKK.out) (y, q) (HC.out)
    have hlo : w.heap.size < (w0.alloc (Obj.cells #[Value.slice A n c, Value.int IntKind.i64 z, Value.bool bad] 55)).heap.size := by simp; exact hlow.out
    have FG := ((goodN_sets5 HK.2 hlo (.int .i64 x.c.stamp) (.slice x.A1 x.c.parents.length x.c1) (.slice x.A2 x.c.picks.length x.c2) (.string x.c.note) (.slice x.A3 x.c.writes.length x.c3)).alloc (.cells #[.int .i64 x.c.stamp, .slice x.A1 x.c.parents.length x.c1, .slice x.A2 x.c.picks.length x.c2, .string x.c.note, .slice x.A3 x.c.writes.length x.c3] 36)).low (Nat.le_of_lt hlo)
    refine bodyPost_ret (results_cell_row3 (P := Try.prog) rfl _ _ w.heap.size 36 #[.int .i64 x.c.stamp, .slice x.A1 x.c.parents.length x.c1, .slice x.A2 x.c.picks.length x.c2, .string x.c.note, .slice x.A3 x.c.writes.length x.c3] (0, 0) _ rfl FM Try.underlying36 rfl (by kernel_rfl)) rfl ?_
    unfold MPost
    rw [HG.out, HC.out]
    exact ⟨⟨x, rfl, HK.1.symm, FG.same (Nat.le_refl _) (fun _ _ => rfl)⟩, below_drewN FB 1⟩
end Go.Proofs.Ytnnclopojiegfaa
