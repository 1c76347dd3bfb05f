/-
  A matrix of one's own, row by row. No condition.
-/
import Derived.Test.YtaadaekpmblpaaaSqL
import Derived.KernelRfl
import Derived.Laws.MakeOwn
namespace Go.Proofs.Ytaadaekpmblpaaa
open Go.RowKit
set_option linter.unusedVariables false

theorem madeCells_one (v : Value) (n : Nat) : madeCells #[v] n = (List.replicate n v).toArray := by
  unfold madeCells
  apply Array.ext
  · simp
  · intro i h1 h2
    simp [Nat.mod_one]

theorem ints_info : (Try.prog.info? 22).map (fun i => (i.zero, i.size, i.bytes)) = some (some (.slice none 0 0), 1, 24) := by kernel_rfl
theorem int_info : (Try.prog.info? 3).map (fun i => (i.zero, i.size, i.bytes)) = some (some (.int .i64 0), 1, 8) := by kernel_rfl

theorem make_rows (n : Nat) (hn : n ≤ 1000000) (w : World) : (Instr.makeSlice 23 (.int .i64 (n : Int)) (.int .i64 (n : Int))).run Try.prog w = .ok (.slice (some ⟨w.heap.size, 0, none⟩) n n) (w.alloc (.cells (Array.replicate n (Value.slice none 0 0)) 22)) := by
  obtain ⟨i, hi, hz, hs, hb⟩ := info_parts ints_info
  have h := run_make (P := Try.prog) w 23 22 i (.slice none 0 0) Try.underlying23 hi hz .i64 .i64 n n (by omega) (by omega) (by rw [hb]; omega) (by omega)
  rw [hs] at h
  simpa [madeCells_one, Value.cells] using h
theorem make_row (n : Nat) (hn : n ≤ 1000000) (w : World) : (Instr.makeSlice 22 (.int .i64 (n : Int)) (.int .i64 (n : Int))).run Try.prog w = .ok (.slice (some ⟨w.heap.size, 0, none⟩) n n) (w.alloc (.cells (Array.replicate n (Value.int .i64 0)) 3)) := by
  obtain ⟨i, hi, hz, hs, hb⟩ := info_parts int_info
  have h := run_make (P := Try.prog) w 22 3 i (.int .i64 0) Try.underlying22 hi hz .i64 .i64 n n (by omega) (by omega) (by rw [hb]; omega) (by omega)
  rw [hs] at h
  simpa [madeCells_one, Value.cells] using h

def rowV (n : Nat) (b : Nat) : Value := .slice (some ⟨b, 0, none⟩) n n
def rowC (n : Nat) (f : Nat → Int) : List Value := (List.range n).map fun j => .int .i64 (f j)
/-- block g holds m slices; the first of them have rows of n numbers in blocks of their own -/
structure Made (w : World) (g m n : Nat) (bs : List Nat) (f : Nat → Nat → Int) : Prop where
  head : Blk w g 22 (bs.map (rowV n) ++ List.replicate (m - bs.length) (Value.slice none 0 0)).toArray
  row : ∀ k b, bs[k]? = some b → Blk w b 3 (rowC n (f k)).toArray
  up : ∀ b ∈ bs, g < b
  sep : bs.Pairwise (· < ·)
  le : bs.length ≤ m

section
variable {w : World} {g m n : Nat} {bs : List Nat} {f : Nat → Nat → Int}
theorem Made.start (w : World) (m n : Nat) (f : Nat → Nat → Int) : Made (w.alloc (.cells (List.replicate m (Value.slice none 0 0)).toArray 22)) w.heap.size m n [] f :=
  ⟨by simpa using Blk.new w 22 _, fun k b h => by simp at h, fun b h => by simp at h, List.Pairwise.nil, Nat.zero_le _⟩
theorem Made.congr {f' : Nat → Nat → Int} (h : Made w g m n bs f) (he : ∀ k j, k < bs.length → j < n → f k j = f' k j) : Made w g m n bs f' :=
  ⟨h.head, fun k b hk => by
    have hk' := (List.getElem?_eq_some_iff.1 hk).1
    have e : rowC n (f' k) = rowC n (f k) := List.map_congr_left fun j hj => by rw [he k j hk' (List.mem_range.1 hj)]
    rw [e]; exact h.row k b hk, h.up, h.sep, h.le⟩
theorem Made.keep {w' : World} (h : Made w g m n bs f) (hk : ∀ b, b < w.heap.size → w'.heap[b]? = w.heap[b]?) : Made w' g m n bs f :=
  ⟨(hk _ h.head.lt).trans h.head, fun k b hb => (hk _ (h.row k b hb).lt).trans (h.row k b hb), h.up, h.sep, h.le⟩
theorem Made.drewN (h : Made w g m n bs f) (k : Nat) : Made (w.drewN k) g m n bs f := ⟨h.head, h.row, h.up, h.sep, h.le⟩
theorem Made.drew (h : Made w g m n bs f) : Made w.drew g m n bs f := ⟨h.head, h.row, h.up, h.sep, h.le⟩
theorem Made.below {B : Nat} {w' : World} (h : Made w g m n bs f) (hb : Below B w w') (hB : w.heap.size ≤ B) : Made w' g m n bs f := h.keep fun b h => hb.block b (by omega)
theorem Made.rowAt (h : Made w g m n bs f) {k : Nat} (hk : k < bs.length) : w.cell? ⟨g, k, none⟩ = some (.slice (some ⟨bs[k], 0, none⟩) n n) := by
  rw [h.head.cell]
  simp [List.getElem?_append, hk, rowV]
theorem Made.cellAt (h : Made w g m n bs f) {k j : Nat} (hk : k < bs.length) (hj : j < n) : w.cell? ⟨bs[k], j, none⟩ = some (.int .i64 (f k j)) := by
  rw [(h.row k _ (List.getElem?_eq_getElem hk)).cell]
  simp [rowC, hj]
theorem Made.cells (h : Made w g m n bs f) {k j : Nat} (hk : k < bs.length) (hj : j < n) :
    ∃ b, w.cell? ⟨g, k, none⟩ = some (.slice (some ⟨b, 0, none⟩) n n) ∧ w.cell? ⟨b, j, none⟩ = some (.int .i64 (f k j)) ∧ bs[k]? = some b := ⟨_, h.rowAt hk, h.cellAt hk hj, List.getElem?_eq_getElem hk⟩
/-- one row more -/
theorem Made.push (h : Made w g m n bs f) (hl : bs.length < m) (hz : ∀ j, j < n → f bs.length j = 0) :
    Made ((w.alloc (.cells (List.replicate n (Value.int .i64 0)).toArray 3)).setCell ⟨g, bs.length, none⟩ (.slice (some ⟨w.heap.size, 0, none⟩) n n)) g m n (bs ++ [w.heap.size]) f := by
  refine ⟨?_, fun k b hk => ?_, fun b hb => ?_, ?_, by simp; omega⟩
  · have h1 := (h.head.alloc (.cells (List.replicate n (Value.int .i64 0)).toArray 3)).set_ bs.length (.slice (some ⟨w.heap.size, 0, none⟩) n n)
    have e : ((bs.map (rowV n) ++ List.replicate (m - bs.length) (Value.slice none 0 0)).toArray.setIfInBounds bs.length (.slice (some ⟨w.heap.size, 0, none⟩) n n)) = ((bs ++ [w.heap.size]).map (rowV n) ++ List.replicate (m - (bs ++ [w.heap.size]).length) (Value.slice none 0 0)).toArray := by
      rw [List.setIfInBounds_toArray]
      congr 1
      rw [List.set_append_right _ _ (by simp), List.length_map, Nat.sub_self]
      obtain ⟨d, hd⟩ : ∃ d, m - bs.length = d + 1 := ⟨m - bs.length - 1, by omega⟩
      rw [hd, List.replicate_succ, List.set_cons_zero, show m - (bs ++ [w.heap.size]).length = d by simp; omega]
      simp [rowV]
    rw [e] at h1
    exact h1
  · rw [List.getElem?_append] at hk
    split at hk
    · have h1 := h.row k b hk
      have h2 := h.up b (List.mem_of_getElem? hk)
      exact (h1.alloc _).far (p := ⟨g, bs.length, none⟩) (by simpa using (by omega : b ≠ g)) _
    · have hk1 : k - bs.length = 0 := by
        have := (List.getElem?_eq_some_iff.1 hk).1
        simpa using this
      have hk2 : k = bs.length := by omega
      subst hk2
      simp at hk
      subst hk
      have e : rowC n (f bs.length) = List.replicate n (Value.int .i64 0) := by
        unfold rowC
        refine List.eq_replicate_iff.2 ⟨by simp, fun b hb => ?_⟩
        obtain ⟨j, hj, rfl⟩ := List.mem_map.1 hb
        rw [hz j (List.mem_range.1 hj)]
      rw [e]
      exact (Blk.new w 3 _).far (p := ⟨g, bs.length, none⟩) (by simpa using (by have := h.head.lt; omega : w.heap.size ≠ g)) _
  · rcases List.mem_append.1 hb with hb | hb
    · exact h.up b hb
    · have := h.head.lt
      simp at hb; omega
  · refine List.pairwise_append.2 ⟨h.sep, by simp, fun a ha b hb => ?_⟩
    obtain ⟨k, hk⟩ := List.getElem?_of_mem ha
    have := (h.row k a hk).lt
    simp at hb; omega
/-- one number changed, in any row -/
theorem Made.set_ (h : Made w g m n bs f) {k j b : Nat} (hk : bs[k]? = some b) (x : Int) (hj : j < n) :
    Made (w.setCell ⟨b, j, none⟩ (.int .i64 x)) g m n bs (fun k' j' => if k' = k ∧ j' = j then x else f k' j') := by
  have hb := h.up b (List.mem_of_getElem? hk)
  refine ⟨h.head.far (p := ⟨b, j, none⟩) (by simpa using (by omega : g ≠ b)) _, fun k' b' hk' => ?_, h.up, h.sep, h.le⟩
  by_cases e : k' = k
  · subst e
    rw [hk] at hk'
    injection hk' with hk'
    subst hk'
    have h1 := (h.row k' b hk).set_ j (.int .i64 x)
    have e : (rowC n (f k')).toArray.setIfInBounds j (.int .i64 x) = (rowC n fun j' => if k' = k' ∧ j' = j then x else f k' j').toArray := by
      rw [List.setIfInBounds_toArray]
      congr 1
      apply List.ext_getElem
      · simp [rowC]
      · intro i h1 h2
        rw [List.getElem_set]
        simp only [rowC, List.getElem_map, List.getElem_range, true_and]
        by_cases e : j = i
        · subst e; simp
        · have : ¬ i = j := fun e' => e e'.symm
          simp [e, this]
    rw [e] at h1
    exact h1
  · have e2 : rowC n (fun j' => if k' = k ∧ j' = j then x else f k' j') = rowC n (f k') := List.map_congr_left fun i _ => by simp [e]
    show Blk _ b' 3 (rowC n (fun j' => if k' = k ∧ j' = j then x else f k' j')).toArray
    rw [e2]
    have hne : b' ≠ b := by
      rintro rfl
      have h1 := (List.getElem?_eq_some_iff.1 hk)
      have h2 := (List.getElem?_eq_some_iff.1 hk')
      obtain ⟨l1, e1⟩ := h1
      obtain ⟨l2, e2⟩ := h2
      rcases Nat.lt_or_ge k k' with hlt | hge
      · have := List.pairwise_iff_getElem.1 h.sep k k' l1 l2 hlt; omega
      · have := List.pairwise_iff_getElem.1 h.sep k' k l2 l1 (by omega); omega
    exact (h.row k' b' hk').far (p := ⟨b, j, none⟩) (by simpa using hne) _
theorem Made.frozen (h : Made w g m n bs f) {k b : Nat} (hk : bs[k]? = some b) (j : Nat) : w.frozen? ⟨b, j, none⟩ = false := (h.row k b hk).frozen j
theorem Made.mat (h : Made w g m n bs f) (hl : bs.length = m) : Mat w w.heap.size (some ⟨g, 0, none⟩) m ((List.range m).map fun i => (List.range n).map fun j => f i j) := by
  refine ⟨bs.map fun b => (some ⟨b, 0, none⟩, n, n), ⟨by simp [hl], fun _ => ⟨_, rfl, h.head.lt, fun j u hu => ?_⟩⟩, by simp [hl], fun i a r hi hr => ?_⟩
  · rw [Addr.add_lit, Nat.zero_add, h.head.cell]
    rw [List.map_map] at hu
    have hj := (List.getElem?_eq_some_iff.1 hu).1
    simp at hj
    simp only [List.getElem?_toArray]
    rw [List.getElem?_append_left (by simpa using hj), ← hu]
    rfl
  · rw [List.getElem?_map] at hi hr
    cases hb : bs[i]? with
    | none => rw [hb] at hi; cases hi
    | some b =>
      rw [hb] at hi
      have hi' := (List.getElem?_eq_some_iff.1 hb).1
      rw [List.getElem?_range (by omega)] at hr
      simp at hi hr
      subst hi hr
      have h1 := h.row i b hb
      refine ⟨by simp, fun _ => ⟨_, rfl, h1.lt, fun j u hu => ?_⟩⟩
      rw [Addr.add_lit, Nat.zero_add, h1.cell]
      rw [List.map_map] at hu
      simpa [rowC, Function.comp_def] using hu
end

/-- the potentials before place (i, j) are there -/
def fillF (p : Nat → Nat → Int) (i j : Nat) : Nat → Nat → Int := fun k l => if k < i ∨ k = i ∧ l < j then p k l else 0
theorem fill_next (p : Nat → Nat → Int) (i j k l : Nat) : (if k = i ∧ l = j then p i j else fillF p i j k l) = fillF p i (j + 1) k l := by
  unfold fillF
  by_cases h : k = i ∧ l = j
  · obtain ⟨rfl, rfl⟩ := h
    simp
  · rw [if_neg h]
    by_cases h2 : k < i ∨ k = i ∧ l < j
    · rw [if_pos h2, if_pos (by omega)]
    · rw [if_neg h2, if_neg (by omega)]
theorem fill_row (p : Nat → Nat → Int) (i n k l : Nat) (hk : k ≤ i) (hl : l < n) : fillF p i n k l = fillF p (i + 1) 0 k l := by
  unfold fillF
  rw [if_pos (by omega), if_pos (by omega)]
theorem fill_old (p : Nat → Nat → Int) {i j k l : Nat} (h : k < i ∨ k = i ∧ l < j) : fillF p i j k l = p k l := by unfold fillF; rw [if_pos h]
theorem fill_new (p : Nat → Nat → Int) {i j k l : Nat} (h : ¬ (k < i ∨ k = i ∧ l < j)) : fillF p i j k l = 0 := by unfold fillF; rw [if_neg h]
end Go.Proofs.Ytaadaekpmblpaaa
