/-
  Lists of numbers and of rows in memory; arrays of one's own; which arguments are a matrix. No condition.
-/
import Derived.Test.YtgmhinmakomabaaRows
import Derived.Test.YtgmhinmakomabaaChg
import Derived.Test.YtgmhinmakomabaaAsL
import Derived.Laws.MakeOwn
namespace Go.Proofs.Ytgmhinmakomabaa
open Go.RowKit
set_option linter.unusedVariables false

abbrev Ints (w : World) (B : Nat) (A : Option Addr) (n : Nat) (l : List Int) : Prop := Reads w B 1 A n (l.map (Value.int .i64))
theorem Ints.len {w : World} {B n : Nat} {A : Option Addr} {l : List Int} (h : Ints w B A n l) : l.length = n := by have := h.1; simpa using this
theorem Ints.at_ {w : World} {B n k : Nat} {A : Option Addr} {l : List Int} (h : Ints w B A n l) (hk : k < n) :
    ∃ b off x, A = some ⟨b, off, none⟩ ∧ b < B ∧ l[k]? = some x ∧ w.cell? ⟨b, off + k, none⟩ = some (.int .i64 x) := by
  obtain ⟨b, off, u, e, hb, hu, hc⟩ := h.at1 hk
  rw [List.getElem?_map] at hu
  cases hx : l[k]? with
  | none => rw [hx] at hu; cases hu
  | some x =>
    rw [hx] at hu
    simp at hu
    subst hu
    exact ⟨b, off, x, e, hb, rfl, hc⟩

def hdv (h : Option Addr × Nat × Nat) : Value := .slice h.1 h.2.1 h.2.2
/-- a slice of slices of numbers -/
def Mat (w : World) (B : Nat) (A : Option Addr) (n : Nat) (rows : List (List Int)) : Prop :=
  ∃ hs : List (Option Addr × Nat × Nat), Reads w B 1 A n (hs.map hdv) ∧ hs.length = rows.length ∧ ∀ (i : Nat) h r, hs[i]? = some h → rows[i]? = some r → Ints w B h.1 h.2.1 r
theorem Mat.len {w : World} {B n : Nat} {A : Option Addr} {l : List (List Int)} (h : Mat w B A n l) : l.length = n := by
  obtain ⟨hs, h1, h2, -⟩ := h
  have := h1.1
  simp at this
  omega
theorem Mat.row {w : World} {B n k : Nat} {A : Option Addr} {l : List (List Int)} (h : Mat w B A n l) (hk : k < n) :
    ∃ b off A' n' c' r, A = some ⟨b, off, none⟩ ∧ b < B ∧ l[k]? = some r ∧ w.cell? ⟨b, off + k, none⟩ = some (.slice A' n' c') ∧ Ints w B A' n' r := by
  have hl := h.len
  obtain ⟨hs, h1, h2, h3⟩ := h
  obtain ⟨b, off, u, e, hb, hu, hc⟩ := h1.at1 hk
  have hk1 : k < hs.length := by omega
  have hk2 : k < l.length := by omega
  rw [List.getElem?_map, List.getElem?_eq_getElem hk1] at hu
  simp at hu
  subst hu
  exact ⟨b, off, _, _, _, l[k], e, hb, List.getElem?_eq_getElem hk2, hc, h3 k _ _ (List.getElem?_eq_getElem hk1) (List.getElem?_eq_getElem hk2)⟩
theorem Mat.keep {w w' : World} {B n : Nat} {A : Option Addr} {l : List (List Int)} (h : Mat w B A n l) (hk : ∀ p : Addr, p.block < B → w'.cell? p = w.cell? p) : Mat w' B A n l := by
  obtain ⟨hs, h1, h2, h3⟩ := h
  exact ⟨hs, h1.keep hk, h2, fun i h r e1 e2 => (h3 i h r e1 e2).keep hk⟩
theorem Mat.more {w : World} {B B' n : Nat} {A : Option Addr} {l : List (List Int)} (h : Mat w B A n l) (hB : B ≤ B') : Mat w B' A n l := by
  obtain ⟨hs, h1, h2, h3⟩ := h
  exact ⟨hs, h1.more hB, h2, fun i h r e1 e2 => (h3 i h r e1 e2).more hB⟩
theorem Mat.below {w w' : World} {B n : Nat} {A : Option Addr} {l : List (List Int)} (h : Mat w B A n l) (hb : Below B w w') : Mat w' B A n l := h.keep fun _ hp => hb.cell hp

def inside (lo hi : Int) (l : List Int) : Bool := l.all fun x => decide (lo ≤ x) && decide (x ≤ hi)
theorem all_take_step {α : Type} {p : α → Bool} {l : List α} {j : Nat} {x : α} (h : l[j]? = some x) (hx : p x = true) (hj : (l.take j).all p = true) : (l.take (j + 1)).all p = true := by
  rw [List.take_add_one, h, List.all_append, hj]
  simp [hx]
theorem all_no {α : Type} {p : α → Bool} {l : List α} {j : Nat} {x : α} (h : l[j]? = some x) (hx : p x = false) : l.all p = false := by
  rw [List.all_eq_false]
  exact ⟨x, List.mem_of_getElem? h, by simp [hx]⟩

theorem madeCells_one (v : Value) (n : Nat) : madeCells #[v] n = (List.replicate n v).toArray := by
  unfold madeCells
  apply Array.ext
  · simp
  · intro i h1 h2
    simp [Nat.mod_one]


theorem ints_info : (Try.prog.info? 25).map (fun i => (i.zero, i.size, i.bytes)) = some (some (.slice none 0 0), 1, 24) := by kernel_rfl
theorem int_info : (Try.prog.info? 3).map (fun i => (i.zero, i.size, i.bytes)) = some (some (.int .i64 0), 1, 8) := by kernel_rfl
theorem bool_info : (Try.prog.info? 4).map (fun i => (i.zero, i.size, i.bytes)) = some (some (.bool false), 1, 1) := by kernel_rfl
theorem make_ints (n : Nat) (hn : n ≤ 1000000) (w : World) : (Instr.makeSlice 25 (.int .i64 (n : Int)) (.int .i64 (n : Int))).run Try.prog w = .ok (.slice (some ⟨w.heap.size, 0, none⟩) n n) (w.alloc (.cells (Array.replicate n (Value.int .i64 0)) 3)) := by
  obtain ⟨i, hi, hz, hs, hb⟩ := info_parts int_info
  have h := run_make (P := Try.prog) w 25 3 i (.int .i64 0) Try.underlying25 hi hz .i64 .i64 n n (by omega) (by omega) (by rw [hb]; omega) (by omega)
  rw [hs] at h
  simpa [madeCells_one, Value.cells] using h
theorem make_bools (n : Nat) (hn : n ≤ 1000000) (w : World) : (Instr.makeSlice 55 (.int .i64 (n : Int)) (.int .i64 (n : Int))).run Try.prog w = .ok (.slice (some ⟨w.heap.size, 0, none⟩) n n) (w.alloc (.cells (Array.replicate n (Value.bool false)) 4)) := by
  obtain ⟨i, hi, hz, hs, hb⟩ := info_parts bool_info
  have h := run_make (P := Try.prog) w 55 4 i (.bool false) Try.underlying55 hi hz .i64 .i64 n n (by omega) (by omega) (by rw [hb]; omega) (by omega)
  rw [hs] at h
  simpa [madeCells_one, Value.cells] using h
theorem make_rows (n : Nat) (hn : n ≤ 1000000) (w : World) : (Instr.makeSlice 22 (.int .i64 (n : Int)) (.int .i64 (n : Int))).run Try.prog w = .ok (.slice (some ⟨w.heap.size, 0, none⟩) n n) (w.alloc (.cells (Array.replicate n (Value.slice none 0 0)) 25)) := by
  obtain ⟨i, hi, hz, hs, hb⟩ := info_parts ints_info
  have h := run_make (P := Try.prog) w 22 25 i (.slice none 0 0) Try.underlying22 hi hz .i64 .i64 n n (by omega) (by omega) (by rw [hb]; omega) (by omega)
  rw [hs] at h
  simpa [madeCells_one, Value.cells] using h

/-- block b holds n values -/
def Vec (w : World) (b : Nat) (t : TypeId) (n : Nat) (f : Nat → Value) : Prop := Blk w b t ((List.range n).map f).toArray
def iv (f : Nat → Int) : Nat → Value := fun i => .int .i64 (f i)
def bv (f : Nat → Bool) : Nat → Value := fun i => .bool (f i)
section
variable {w w' : World} {b : Nat} {t : TypeId} {n : Nat} {f g : Nat → Value}
theorem Vec.lt (h : Vec w b t n f) : b < w.heap.size := Blk.lt h
theorem Vec.at_ (h : Vec w b t n f) {i : Nat} (hi : i < n) : w.cell? ⟨b, i, none⟩ = some (f i) := by
  rw [Blk.cell h]
  simp [hi]
theorem Vec.frozen (h : Vec w b t n f) (i : Nat) : w.frozen? ⟨b, i, none⟩ = false := Blk.frozen h i
theorem Vec.congr (h : Vec w b t n f) (e : ∀ i, i < n → g i = f i) : Vec w b t n g := by
  unfold Vec
  rw [show (List.range n).map g = (List.range n).map f from List.map_congr_left fun i hi => e i (List.mem_range.1 hi)]
  exact h
theorem Vec.set_ (h : Vec w b t n f) (i : Nat) (u : Value) : Vec (w.setCell ⟨b, i, none⟩ u) b t n (upd f i u) := by
  have h1 := Blk.set_ h i u
  have e : (((List.range n).map f).toArray.setIfInBounds i u) = ((List.range n).map (upd f i u)).toArray := by
    rw [List.setIfInBounds_toArray]
    congr 1
    apply List.ext_getElem
    · simp
    · intro j h1 h2
      rw [List.getElem_set]
      simp only [List.getElem_map, List.getElem_range]
      by_cases e : i = j
      · subst e; rw [if_pos rfl, upd_same]
      · rw [if_neg e, upd_ne _ _ (fun e' => e e'.symm)]
  rw [e] at h1
  exact h1
theorem Vec.alloc (h : Vec w b t n f) (o : Obj) : Vec (w.alloc o) b t n f := Blk.alloc h o
theorem Vec.drewN (h : Vec w b t n f) (k : Nat) : Vec (w.drewN k) b t n f := h
theorem Vec.drew (h : Vec w b t n f) : Vec w.drew b t n f := h
theorem Vec.far (h : Vec w b t n f) {p : Addr} (hp : b ≠ p.block) (u : Value) : Vec (w.setCell p u) b t n f := Blk.far h hp u
theorem Vec.chg {M : Nat → Prop} (h : Vec w b t n f) (hc : Chg w w' M) (hb : ¬ M b) : Vec w' b t n f := Blk.chg h hc hb
theorem Vec.below {B : Nat} (h : Vec w b t n f) (hb : Below B w w') (hB : b < B) : Vec w' b t n f := Blk.below h hb hB
theorem Vec.new (w : World) (t : TypeId) (n : Nat) (v : Value) : Vec (w.alloc (.cells (Array.replicate n v) t)) w.heap.size t n (fun _ => v) := by
  have h := Blk.new w t (Array.replicate n v)
  have e : Array.replicate n v = ((List.range n).map fun _ => v).toArray := by
    apply Array.ext
    · simp
    · intro i h1 h2
      simp
  unfold Vec
  rw [← e]
  exact h
theorem upd_iv (f : Nat → Int) (i : Nat) (x : Int) : upd (iv f) i (.int .i64 x) = iv (upd f i x) := by
  funext j
  by_cases e : j = i <;> simp [upd, iv, e]
theorem upd_bv (f : Nat → Bool) (i : Nat) (x : Bool) : upd (bv f) i (.bool x) = bv (upd f i x) := by
  funext j
  by_cases e : j = i <;> simp [upd, bv, e]
end
abbrev IVec (w : World) (b n : Nat) (f : Nat → Int) : Prop := Vec w b 3 n (iv f)
abbrev BVec (w : World) (b n : Nat) (f : Nat → Bool) : Prop := Vec w b 4 n (bv f)
section
variable {w : World} {b n : Nat} {f : Nat → Int} {s : Nat → Bool}
theorem IVec.at_ (h : IVec w b n f) {i : Nat} (hi : i < n) : w.cell? ⟨b, i, none⟩ = some (.int .i64 (f i)) := Vec.at_ h hi
theorem BVec.at_ (h : BVec w b n s) {i : Nat} (hi : i < n) : w.cell? ⟨b, i, none⟩ = some (.bool (s i)) := Vec.at_ h hi
theorem IVec.set_ (h : IVec w b n f) (i : Nat) (x : Int) : IVec (w.setCell ⟨b, i, none⟩ (.int .i64 x)) b n (upd f i x) := by
  have h1 := Vec.set_ h i (.int .i64 x)
  rwa [upd_iv] at h1
theorem BVec.set_ (h : BVec w b n s) (i : Nat) (x : Bool) : BVec (w.setCell ⟨b, i, none⟩ (.bool x)) b n (upd s i x) := by
  have h1 := Vec.set_ h i (.bool x)
  rwa [upd_bv] at h1
theorem IVec.congr {g : Nat → Int} (h : IVec w b n f) (e : ∀ i, i < n → g i = f i) : IVec w b n g := Vec.congr h fun i hi => by unfold iv; rw [e i hi]
theorem BVec.congr {g : Nat → Bool} (h : BVec w b n s) (e : ∀ i, i < n → g i = s i) : BVec w b n g := Vec.congr h fun i hi => by unfold bv; rw [e i hi]
theorem IVec.ints (h : IVec w b n f) : Ints w w.heap.size (some ⟨b, 0, none⟩) n ((List.range n).map f) :=
  ⟨by simp, fun _ => ⟨_, rfl, Vec.lt h, fun j u hu => by
    rw [Addr.add_lit, Nat.zero_add, Blk.cell h]
    rw [List.map_map] at hu
    simpa [iv, Function.comp_def] using hu⟩⟩
end

/-- a square matrix in memory -/
def Sq (w : World) (B : Nat) (A : Option Addr) (n : Nat) (c : Nat → Nat → Int) : Prop :=
  ∀ i, i < n → ∃ b off b' off' c', A = some ⟨b, off, none⟩ ∧ b < B ∧ b' < B ∧ w.cell? ⟨b, off + i, none⟩ = some (.slice (some ⟨b', off', none⟩) n c') ∧ ∀ j, j < n → w.cell? ⟨b', off' + j, none⟩ = some (.int .i64 (c i j))
theorem Sq.keep {w w' : World} {B n : Nat} {A : Option Addr} {c : Nat → Nat → Int} (h : Sq w B A n c) (hk : ∀ p : Addr, p.block < B → w'.cell? p = w.cell? p) : Sq w' B A n c := fun i hi => by
  obtain ⟨b, off, b', off', c', h1, h2, h3, h4, h5⟩ := h i hi
  exact ⟨b, off, b', off', c', h1, h2, h3, (hk _ h2).trans h4, fun j hj => (hk _ h3).trans (h5 j hj)⟩
theorem Sq.more {w : World} {B B' n : Nat} {A : Option Addr} {c : Nat → Nat → Int} (h : Sq w B A n c) (hB : B ≤ B') : Sq w B' A n c := fun i hi => by
  obtain ⟨b, off, b', off', c', h1, h2, h3, h4, h5⟩ := h i hi
  exact ⟨b, off, b', off', c', h1, by omega, by omega, h4, h5⟩
theorem Sq.below {w w' : World} {B n : Nat} {A : Option Addr} {c : Nat → Nat → Int} (h : Sq w B A n c) (hb : Below B w w') : Sq w' B A n c := h.keep fun _ hp => hb.cell hp
theorem Sq.alloc {w : World} {B n : Nat} {A : Option Addr} {c : Nat → Nat → Int} (h : Sq w B A n c) (hB : B ≤ w.heap.size) (o : Obj) : Sq (w.alloc o) B A n c := h.keep fun p hp => World.cell?_alloc_lt w o p (by omega)
theorem Sq.setCell {w : World} {B n : Nat} {A : Option Addr} {c : Nat → Nat → Int} (h : Sq w B A n c) {p : Addr} (hB : B ≤ p.block) (u : Value) : Sq (w.setCell p u) B A n c :=
  h.keep fun q hq => World.cell?_setCell_other w p q u (fun e => by subst e; omega)
theorem Sq.chg {w w' : World} {B n : Nat} {A : Option Addr} {c : Nat → Nat → Int} {M : Nat → Prop} (h : Sq w B A n c) (hc : Chg w w' M) (hB : B ≤ w.heap.size) (hM : ∀ b, b < B → ¬ M b) : Sq w' B A n c :=
  h.keep fun p hp => World.cell?_of_block (hc.block _ (by omega) (hM _ hp))
theorem Sq.drewN {w : World} {B n : Nat} {A : Option Addr} {c : Nat → Nat → Int} (h : Sq w B A n c) (k : Nat) : Sq (w.drewN k) B A n c := h

def rowOk (n : Nat) (r : List Int) : Bool := decide (r.length = n) && inside 0 1048576 r
def matB (m : List (List Int)) : Bool := decide (m.length ≤ 40) && m.all (rowOk m.length)
def mget (m : List (List Int)) (i j : Nat) : Int := (m.getD i []).getD j 0
theorem inside_at {lo hi : Int} {l : List Int} (h : inside lo hi l = true) {k : Nat} {x : Int} (hk : l[k]? = some x) : lo ≤ x ∧ x ≤ hi := by
  have := List.all_eq_true.1 h x (List.mem_of_getElem? hk)
  simpa using this
theorem Mat.sq {w : World} {B n : Nat} {A : Option Addr} {m : List (List Int)} (h : Mat w B A n m) (hm : matB m = true) : Sq w B A n (mget m) := fun i hi => by
  obtain ⟨b, off, A', n', c', r, e, hb, hx, hcell, hrow⟩ := h.row hi
  unfold matB at hm
  simp only [Bool.and_eq_true, decide_eq_true_eq] at hm
  have h1 := List.all_eq_true.1 hm.2 r (List.mem_of_getElem? hx)
  unfold rowOk at h1
  simp only [Bool.and_eq_true, decide_eq_true_eq] at h1
  have e1 : n' = n := by rw [← hrow.len, h1.1, h.len]
  subst e1
  obtain ⟨b', off', y, rfl, hb', _, _⟩ := Ints.at_ (k := i) hrow hi
  refine ⟨b, off, b', off', c', e, hb, hb', hcell, fun j hj => ?_⟩
  obtain ⟨b2, o2, z, e2, _, hz, hcz⟩ := Ints.at_ (k := j) hrow hj
  injection e2 with e2
  injection e2 with e3 e4
  subst e3 e4
  rw [hcz]
  unfold mget
  simp [List.getD, hx, hz]
theorem matB_bounds {m : List (List Int)} (hm : matB m = true) : CB m.length (mget m) := fun i j hi hj => by
  unfold matB at hm
  simp only [Bool.and_eq_true, decide_eq_true_eq] at hm
  have h1 := List.all_eq_true.1 hm.2 m[i] (List.getElem_mem _)
  unfold rowOk at h1
  simp only [Bool.and_eq_true, decide_eq_true_eq] at h1
  have h2 := inside_at h1.2 (k := j) (x := (m[i])[j]'(by omega)) (List.getElem?_eq_getElem _)
  unfold mget
  simp [List.getD, List.getElem?_eq_getElem hi, List.getElem?_eq_getElem (show j < m[i].length by omega)]
  exact h2
end Go.Proofs.Ytgmhinmakomabaa
