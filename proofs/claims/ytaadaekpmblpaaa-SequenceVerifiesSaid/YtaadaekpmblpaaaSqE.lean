/-
  Reverse, of pairs. No condition.
-/
import Derived.Test.YtaadaekpmblpaaaSqB
import Derived.BigRegion
import Derived.RegionTactic
namespace Go.Proofs.Ytaadaekpmblpaaa
open Go.RowKit
set_option linter.unusedVariables false

/-- block g begins with n pairs -/
def Pr (w : World) (g n : Nat) (f : Nat → Int × Int) (rest : List Value) : Prop := Blk w g 45 (((List.range n).map f).flatMap pcells ++ rest).toArray
section
variable {w : World} {g n : Nat} {f : Nat → Int × Int} {rest : List Value}
theorem pr_at (n : Nat) (f : Nat → Int × Int) (rest : List Value) {k : Nat} (hk : k < n) : (((List.range n).map f).flatMap pcells ++ rest)[k * 2]? = some (.int .i64 (f k).1) ∧ (((List.range n).map f).flatMap pcells ++ rest)[k * 2 + 1]? = some (.int .i64 (f k).2) := by
  have h := pcells_at ((List.range n).map f) k (f k) (by simp [hk])
  have hl := pcells_len ((List.range n).map f)
  rw [List.length_map, List.length_range] at hl
  rw [List.getElem?_append_left (by omega), List.getElem?_append_left (by omega)]
  exact h
theorem Pr.cell (h : Pr w g n f rest) {k : Nat} (hk : k < n) : w.cell? ⟨g, k * 2, none⟩ = some (.int .i64 (f k).1) ∧ w.cell? ⟨g, k * 2 + 1, none⟩ = some (.int .i64 (f k).2) := by
  have h1 := pr_at n f rest hk
  refine ⟨(Blk.cell h _).trans ?_, (Blk.cell h _).trans ?_⟩
  · simpa using h1.1
  · simpa using h1.2
theorem Pr.frozen (h : Pr w g n f rest) (k : Nat) : w.frozen? ⟨g, k, none⟩ = false := Blk.frozen h k
theorem Pr.drew (h : Pr w g n f rest) : Pr w.drew g n f rest := h
theorem pr_set (n : Nat) (f : Nat → Int × Int) (rest : List Value) {k : Nat} (hk : k < n) (x y : Int) :
    ((((List.range n).map f).flatMap pcells ++ rest).set (k * 2) (.int .i64 x)).set (k * 2 + 1) (.int .i64 y) = ((List.range n).map fun i => if i = k then (x, y) else f i).flatMap pcells ++ rest := by
  have hl := pcells_len ((List.range n).map f)
  have hl' := pcells_len ((List.range n).map fun i => if i = k then (x, y) else f i)
  rw [List.length_map, List.length_range] at hl hl'
  apply List.ext_getElem?
  intro i
  rw [List.getElem?_set, List.getElem?_set]
  by_cases h1 : i < n * 2
  · obtain ⟨d, hd⟩ : ∃ d, i / 2 = d := ⟨_, rfl⟩
    have hdn : d < n := by omega
    have a := pr_at n (fun i => if i = k then (x, y) else f i) rest hdn
    have b := pr_at n f rest hdn
    simp only [List.length_set, List.length_append]
    rcases Nat.mod_two_eq_zero_or_one i with h2 | h2
    · obtain rfl : i = d * 2 := by omega
      rw [if_neg (by omega), a.1]
      by_cases e : d = k
      · subst e; rw [if_pos rfl, if_pos (by omega), if_pos rfl]
      · rw [if_neg (by omega), b.1, if_neg e]
    · obtain rfl : i = d * 2 + 1 := by omega
      rw [a.2]
      by_cases e : d = k
      · subst e; rw [if_pos rfl, if_pos (by omega), if_pos rfl]
      · rw [if_neg (by omega), if_neg (by omega), b.2, if_neg e]
  · rw [if_neg (by omega), if_neg (by omega), List.getElem?_append_right (by omega), List.getElem?_append_right (by omega), hl, hl']
theorem Pr.set_ (h : Pr w g n f rest) {k : Nat} (hk : k < n) (x y : Int) : Pr ((w.setCell ⟨g, k * 2, none⟩ (.int .i64 x)).setCell ⟨g, k * 2 + 1, none⟩ (.int .i64 y)) g n (fun i => if i = k then (x, y) else f i) rest := by
  have h1 := (Blk.set_ h (k * 2) (.int .i64 x)).set_ (k * 2 + 1) (.int .i64 y)
  unfold Pr
  rw [← pr_set n f rest hk x y]
  simpa using h1
end

/-- after i exchanges -/
def revF (n : Nat) (f : Nat → Int × Int) (i : Nat) : Nat → Int × Int := fun k => if k < i ∨ n ≤ k + i then f (n - 1 - k) else f k
def RevSt (w wr : World) (g n : Nat) (f : Nat → Int × Int) (rest : List Value) (i : Nat) : Prop := Pr wr g n (revF n f i) rest ∧ w.grownBy wr (some g) ∧ wr.heap.size = w.heap.size
def RevPost (w : World) (g n : Nat) (f : Nat → Int × Int) (rest : List Value) (e : Ending) (w' : World) : Prop := e = .returned (.tuple #[]) ∧ Pr w' g n (fun k => f (n - 1 - k)) rest ∧ w.grownBy w' (some g) ∧ w'.heap.size = w.heap.size
theorem Pr.congr {w : World} {g n : Nat} {f f' : Nat → Int × Int} {rest : List Value} (h : Pr w g n f rest) (he : ∀ k, k < n → f k = f' k) : Pr w g n f' rest := by
  unfold Pr at *
  rw [show (List.range n).map f' = (List.range n).map f from List.map_congr_left fun k hk => (he k (List.mem_range.1 hk)).symm]
  exact h
theorem RevSt.step {w wr : World} {g n : Nat} {f : Nat → Int × Int} {rest : List Value} {i j : Nat} (h : RevSt w wr g n f rest i) (hij : i + j + 1 = n) (hlt : i < j) :
    RevSt w (((((wr.setCell ⟨g, i * 2, none⟩ (.int .i64 (f j).1)).setCell ⟨g, i * 2 + 1, none⟩ (.int .i64 (f j).2)).setCell ⟨g, j * 2, none⟩ (.int .i64 (f i).1)).setCell ⟨g, j * 2 + 1, none⟩ (.int .i64 (f i).2))) g n f rest (i + 1) := by
  obtain ⟨h1, h2, h3⟩ := h
  refine ⟨((h1.set_ (k := i) (by omega) (f j).1 (f j).2).set_ (k := j) (by omega) (f i).1 (f i).2).congr fun k hk => ?_, only_setCell (only_setCell (only_setCell (only_setCell h2 (.inl rfl) _) (.inl rfl) _) (.inl rfl) _) (.inl rfl) _, by simpa [World.setCell] using h3⟩
  unfold revF
  by_cases e : k = j
  · subst e
    rw [if_pos rfl, if_pos (by omega), show n - 1 - k = i by omega]
  · rw [if_neg e]
    by_cases e2 : k = i
    · subst e2
      rw [if_pos rfl, if_pos (by omega), show n - 1 - k = j by omega]
    · rw [if_neg e2]
      by_cases e3 : k < i ∨ n ≤ k + i
      · rw [if_pos e3, if_pos (by omega)]
      · rw [if_neg e3, if_neg (by omega)]
theorem RevSt.done {w wr : World} {g n : Nat} {f : Nat → Int × Int} {rest : List Value} {i : Nat} (h : RevSt w wr g n f rest i) (hi : n ≤ 2 * i + 1) : RevPost w g n f rest (.returned (.tuple #[])) wr :=
  ⟨rfl, h.1.congr fun k hk => by
    unfold revF
    by_cases e : k < i ∨ n ≤ k + i
    · rw [if_pos e]
    · rw [if_neg e, show n - 1 - k = k by omega], h.2⟩
theorem RevSt.cell {w wr : World} {g n : Nat} {f : Nat → Int × Int} {rest : List Value} {i k : Nat} (h : RevSt w wr g n f rest i) (h1 : i ≤ k) (h2 : k + i < n) : wr.cell? ⟨g, k * 2, none⟩ = some (.int .i64 (f k).1) ∧ wr.cell? ⟨g, k * 2 + 1, none⟩ = some (.int .i64 (f k).2) := by
  have := h.1.cell (k := k) (by omega)
  unfold revF at this
  rwa [if_neg (by omega)] at this
theorem RevSt.drew {w wr : World} {g n : Nat} {f : Nat → Int × Int} {rest : List Value} {i : Nat} (h : RevSt w wr g n f rest i) : RevSt w wr.drew g n f rest i := ⟨h.1, only_drew h.2.1, h.2.2⟩

set_option maxRecDepth 100000 in
set_option maxHeartbeats 4000000 in
theorem reverse_any (g n c : Nat) (f : Nat → Int × Int) (rest : List Value) (w : World) (hn : n ≤ 1000000) (h : Pr w g n f rest) :
    Calls Try.prog 23 #[.slice (some ⟨g, 0, none⟩) n c] w (RevPost w g n f rest) := by
  have HI : Hid (RevSt w w g n f rest 0) := ⟨h.congr fun k hk => by unfold revF; rw [if_neg (by omega)], World.grownBy.refl w _, rfl⟩
  clear h
  go_enter Try.func23, Try.ntmps23
  go_wp2_with fail
  go_loopw [2, 3] (fun s t wr => ∃ (i : Nat) (j : Int), i ≤ n ∧ (i : Int) + j + 1 = n ∧ -1 ≤ j ∧ s = .int .i64 (i : Int) ∧ t = .int .i64 j ∧ Hid (RevSt w wr g n f rest i)) (fun s _ _ => n - (intOf s).toNat)
  case atStart => exact ⟨0, _, by omega, by omega, by omega, rfl, rfl, HI⟩
  case round =>
    clear HI
    obtain ⟨i, j, hi, hij, hj, rfl, rfl, HS⟩ := hrel
    by_cases hlt : (i : Int) < j
    · obtain ⟨j', rfl⟩ : ∃ j' : Nat, j = j' := ⟨j.toNat, by omega⟩
      have hlt' : i < j' := by omega
      have hjn : j' < n := by omega
      obtain ⟨a1, a2⟩ := HS.out.cell (k := i) (by omega) (by omega)
      obtain ⟨b1, b2⟩ := HS.out.cell (k := j') (by omega) (by omega)
      have f1 := HS.out.1.frozen (i * 2)
      have f2 := HS.out.1.frozen (i * 2 + 1)
      have f3 := HS.out.1.frozen (j' * 2)
      have f4 := HS.out.1.frozen (j' * 2 + 1)
      have HS2 := Lib.hid (HS.out.step (j := j') (by omega) hlt')
      obtain ⟨x1, hx1⟩ : ∃ x, (f i).1 = x := ⟨_, rfl⟩
      obtain ⟨x2, hx2⟩ : ∃ x, (f i).2 = x := ⟨_, rfl⟩
      obtain ⟨x3, hx3⟩ : ∃ x, (f j').1 = x := ⟨_, rfl⟩
      obtain ⟨x4, hx4⟩ : ∃ x, (f j').2 = x := ⟨_, rfl⟩
      rw [hx1, hx2, hx3, hx4] at HS2
      rw [hx1] at a1
      rw [hx2] at a2
      rw [hx3] at b1
      rw [hx4] at b2
      have n1 : ¬ i * 2 = j' * 2 := by omega
      have n2 : ¬ i * 2 + 1 = j' * 2 := by omega
      have n3 : ¬ i * 2 = j' * 2 + 1 := by omega
      have hij' : i + j' + 1 ≤ n ∧ n ≤ i + j' + 1 := by omega
      obtain ⟨hij1, hij2⟩ := hij'
      clear HS hx1 hx2 hx3 hx4 hij
      go_wp2_with fail
      go_region
      all_goals go_wp2_with fail
      all_goals
        go_roundw
        case rel => exact ⟨i + 1, _, by omega, by omega, by omega, by go_num, rfl, HS2.out.drew⟩
        case measure => simp [intOf] <;> omega
    · have HD := Lib.hid (HS.out.done (by omega))
      have hlt2 : ¬ (i : Int) < j := hlt
      clear HS
      go_wp2_with fail
      go_end0
      exact HD.out
end Go.Proofs.Ytaadaekpmblpaaa
