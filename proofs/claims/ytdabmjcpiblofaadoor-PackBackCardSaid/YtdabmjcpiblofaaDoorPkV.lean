/-
  Arrays of numbers of one's own. No condition.
-/
import Derived.Test.YtdabmjcpiblofaaDoorRows
import Derived.Test.YtdabmjcpiblofaaDoorChg
import Derived.Laws.MakeOwn
namespace Go.Proofs.YtdabmjcpiblofaaDoor
open Go.RowKit
set_option linter.unusedVariables false

/-- a load that waits for the calls beside it -/
abbrev Late (o : Op) : Op := o
theorem late_load (t : TypeId) (k : Nat) : Op.load t (.tmp k) = Late (Op.load t (.tmp k)) := rfl
def upd {α : Type} (f : Nat → α) (i : Nat) (x : α) : Nat → α := fun j => if j = i then x else f j
theorem upd_same {α : Type} (f : Nat → α) (i : Nat) (x : α) : upd f i x i = x := by simp [upd]
theorem upd_ne {α : Type} (f : Nat → α) {i j : Nat} (x : α) (h : j ≠ i) : upd f i x j = f j := by simp [upd, h]
abbrev Ints (w : World) (B : Nat) (A : Option Addr) (n : Nat) (l : List Int) : Prop := Reads w B 1 A n (l.map (Value.int .i64))
theorem Ints.len {w : World} {B n : Nat} {A : Option Addr} {l : List Int} (h : Ints w B A n l) : l.length = n := by have := h.1; simpa using this
theorem Ints.at_ {w : World} {B n k : Nat} {A : Option Addr} {l : List Int} (h : Ints w B A n l) (hk : k < n) :
    ∃ b off x, A = some ⟨b, off, none⟩ ∧ b < B ∧ l[k]? = some x ∧ w.cell? ⟨b, off + k, none⟩ = some (.int .i64 x) := by
  obtain ⟨b, off, u, e, hb, hu, hc⟩ := h.at1 hk
  rw [List.getElem?_map] at hu
  cases hx : l[k]? with
  | none => rw [hx] at hu; cases hu
  | some x =>
    rw [hx] at hu
    simp at hu
    subst hu
    exact ⟨b, off, x, e, hb, rfl, hc⟩

theorem madeCells_one (v : Value) (n : Nat) : madeCells #[v] n = (List.replicate n v).toArray := by
  unfold madeCells
  apply Array.ext
  · simp
  · intro i h1 h2
    simp [Nat.mod_one]


theorem int_info : (Tryd.prog.info? 3).map (fun i => (i.zero, i.size, i.bytes)) = some (some (.int .i64 0), 1, 8) := by kernel_rfl
theorem make_ints (n : Nat) (hn : n ≤ 1000000) (w : World) : (Instr.makeSlice 27 (.int .i64 (n : Int)) (.int .i64 (n : Int))).run Tryd.prog w = .ok (.slice (some ⟨w.heap.size, 0, none⟩) n n) (w.alloc (.cells (Array.replicate n (Value.int .i64 0)) 3)) := by
  obtain ⟨i, hi, hz, hs, hb⟩ := info_parts int_info
  have h := run_make (P := Tryd.prog) w 27 3 i (.int .i64 0) Tryd.underlying27 hi hz .i64 .i64 n n (by omega) (by omega) (by rw [hb]; omega) (by omega)
  rw [hs] at h
  simpa [madeCells_one, Value.cells] using h

/-- block b holds n values -/
def Vec (w : World) (b : Nat) (t : TypeId) (n : Nat) (f : Nat → Value) : Prop := Blk w b t ((List.range n).map f).toArray
def iv (f : Nat → Int) : Nat → Value := fun i => .int .i64 (f i)
section
variable {w w' : World} {b : Nat} {t : TypeId} {n : Nat} {f g : Nat → Value}
theorem Vec.lt (h : Vec w b t n f) : b < w.heap.size := Blk.lt h
theorem Vec.at_ (h : Vec w b t n f) {i : Nat} (hi : i < n) : w.cell? ⟨b, i, none⟩ = some (f i) := by
  rw [Blk.cell h]
  simp [hi]
theorem Vec.frozen (h : Vec w b t n f) (i : Nat) : w.frozen? ⟨b, i, none⟩ = false := Blk.frozen h i
theorem Vec.congr (h : Vec w b t n f) (e : ∀ i, i < n → g i = f i) : Vec w b t n g := by
  unfold Vec
  rw [show (List.range n).map g = (List.range n).map f from List.map_congr_left fun i hi => e i (List.mem_range.1 hi)]
  exact h
theorem Vec.set_ (h : Vec w b t n f) (i : Nat) (u : Value) : Vec (w.setCell ⟨b, i, none⟩ u) b t n (upd f i u) := by
  have h1 := Blk.set_ h i u
  have e : (((List.range n).map f).toArray.setIfInBounds i u) = ((List.range n).map (upd f i u)).toArray := by
    rw [List.setIfInBounds_toArray]
    congr 1
    apply List.ext_getElem
    · simp
    · intro j h1 h2
      rw [List.getElem_set]
      simp only [List.getElem_map, List.getElem_range]
      by_cases e : i = j
      · subst e; rw [if_pos rfl, upd_same]
      · rw [if_neg e, upd_ne _ _ (fun e' => e e'.symm)]
  rw [e] at h1
  exact h1
theorem Vec.alloc (h : Vec w b t n f) (o : Obj) : Vec (w.alloc o) b t n f := Blk.alloc h o
theorem Vec.drewN (h : Vec w b t n f) (k : Nat) : Vec (w.drewN k) b t n f := h
theorem Vec.drew (h : Vec w b t n f) : Vec w.drew b t n f := h
theorem Vec.far (h : Vec w b t n f) {p : Addr} (hp : b ≠ p.block) (u : Value) : Vec (w.setCell p u) b t n f := Blk.far h hp u
theorem Vec.chg {M : Nat → Prop} (h : Vec w b t n f) (hc : Chg w w' M) (hb : ¬ M b) : Vec w' b t n f := Blk.chg h hc hb
theorem Vec.below {B : Nat} (h : Vec w b t n f) (hb : Below B w w') (hB : b < B) : Vec w' b t n f := Blk.below h hb hB
theorem Vec.new (w : World) (t : TypeId) (n : Nat) (v : Value) : Vec (w.alloc (.cells (Array.replicate n v) t)) w.heap.size t n (fun _ => v) := by
  have h := Blk.new w t (Array.replicate n v)
  have e : Array.replicate n v = ((List.range n).map fun _ => v).toArray := by
    apply Array.ext
    · simp
    · intro i h1 h2
      simp
  unfold Vec
  rw [← e]
  exact h
theorem upd_iv (f : Nat → Int) (i : Nat) (x : Int) : upd (iv f) i (.int .i64 x) = iv (upd f i x) := by
  funext j
  by_cases e : j = i <;> simp [upd, iv, e]
end
abbrev IVec (w : World) (b n : Nat) (f : Nat → Int) : Prop := Vec w b 3 n (iv f)
section
variable {w : World} {b n : Nat} {f : Nat → Int}
theorem IVec.at_ (h : IVec w b n f) {i : Nat} (hi : i < n) : w.cell? ⟨b, i, none⟩ = some (.int .i64 (f i)) := Vec.at_ h hi
theorem IVec.set_ (h : IVec w b n f) (i : Nat) (x : Int) : IVec (w.setCell ⟨b, i, none⟩ (.int .i64 x)) b n (upd f i x) := by
  have h1 := Vec.set_ h i (.int .i64 x)
  rwa [upd_iv] at h1
theorem IVec.congr {g : Nat → Int} (h : IVec w b n f) (e : ∀ i, i < n → g i = f i) : IVec w b n g := Vec.congr h fun i hi => by unfold iv; rw [e i hi]
theorem IVec.ints (h : IVec w b n f) : Ints w w.heap.size (some ⟨b, 0, none⟩) n ((List.range n).map f) :=
  ⟨by simp, fun _ => ⟨_, rfl, Vec.lt h, fun j u hu => by
    rw [Addr.add_lit, Nat.zero_add, Blk.cell h]
    rw [List.map_map] at hu
    simpa [iv, Function.comp_def] using hu⟩⟩
end

theorem Chg.of_new {w w' : World} (h : Below w.heap.size w w') (M : Nat → Prop) : Chg w w' M := ⟨h.os, h.tape, h.output, h.size, fun i hi _ => h.block i hi⟩
theorem bal {w w' : World} (h : Below w.heap.size w w') (o : Obj) : Below w.heap.size w (w'.alloc o) := h.alloc h.size o
theorem blk_reads {w : World} {g n size : Nat} {t : TypeId} {xs : List Value} (h : Blk w g t xs.toArray) (hl : xs.length = n * size) : Reads w w.heap.size size (some ⟨g, 0, none⟩) n xs :=
  ⟨hl, fun _ => ⟨_, rfl, h.lt, fun j u hu => by rw [Addr.add_lit, Nat.zero_add, h.cell]; simpa using hu⟩⟩
end Go.Proofs.YtdabmjcpiblofaaDoor
