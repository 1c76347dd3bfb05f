/-
  Worlds that differ in some blocks alone. No condition.
-/
import Derived.Test.YtdabmjcpiblofaaDoorOwn
import Derived.Test.YtdabmjcpiblofaaDoorTail
import Derived.Test.YtdabmjcpiblofaaDoorFut
import Derived.Laws.CopyOwn
import Derived.WalkKit
import Derived.WalkSpells
import Derived.WalkLawsBesides
import Derived.Outline
import Derived.BigQuiet
import Derived.KernelRfl
import Derived.Deep.RegionLaw
namespace Go.Proofs.YtdabmjcpiblofaaDoor
open Go.RowKit
set_option linter.unusedVariables false

/-- w' is w but for the blocks of M, and new ones -/
structure Chg (w w' : World) (M : Nat → Prop) : Prop where
  os : w'.os = w.os
  tape : w'.tape = w.tape
  output : w'.output = w.output
  size : w.heap.size ≤ w'.heap.size
  block : ∀ b, b < w.heap.size → ¬ M b → w'.heap[b]? = w.heap[b]?
section
variable {a b c w w' : World} {M M' : Nat → Prop}
theorem Chg.refl (w : World) (M : Nat → Prop) : Chg w w M := ⟨rfl, rfl, rfl, Nat.le_refl _, fun _ _ _ => rfl⟩
theorem Chg.trans (h : Chg a b M) (k : Chg b c M') (hm : ∀ i, i < a.heap.size → M' i → M i) : Chg a c M :=
  ⟨k.os.trans h.os, k.tape.trans h.tape, k.output.trans h.output, Nat.le_trans h.size k.size, fun i hi hn => (k.block i (Nat.lt_of_lt_of_le hi h.size) (fun x => hn (hm i hi x))).trans (h.block i hi hn)⟩
theorem Chg.drewN (h : Chg a b M) (n : Nat) : Chg a (b.drewN n) M := ⟨h.os, h.tape, h.output, h.size, h.block⟩
theorem Chg.drew (h : Chg a b M) : Chg a b.drew M := ⟨h.os, h.tape, h.output, h.size, h.block⟩
theorem Chg.alloc (h : Chg a b M) (o : Obj) : Chg a (b.alloc o) M :=
  ⟨h.os, h.tape, h.output, Nat.le_trans h.size (by simp), fun i hi hn => (Below.heap_alloc b o i (Nat.lt_of_lt_of_le hi h.size)).trans (h.block i hi hn)⟩
theorem Chg.setCell (h : Chg a b M) {p : Addr} (hp : M p.block ∨ a.heap.size ≤ p.block) (u : Value) : Chg a (b.setCell p u) M :=
  ⟨h.os, h.tape, h.output, by simpa [World.setCell] using h.size, fun i hi hn => (Below.heap_setCell b p u i (by
    rintro rfl
    rcases hp with hp | hp
    · exact hn hp
    · omega)).trans (h.block i hi hn)⟩
theorem Chg.setRow (h : Chg a b M) {g : Nat} (hg : M g ∨ a.heap.size ≤ g) (cs : Array Value) : Chg a (b.setRow g cs) M :=
  ⟨h.os, h.tape, h.output, by simpa [World.setRow] using h.size, fun i hi hn => (setRow_other b g i cs (by
    rintro rfl
    rcases hg with hp | hp
    · exact hn hp
    · omega)).trans (h.block i hi hn)⟩
theorem Chg.of_grown {row : Option Nat} (h : w.grownBy w' row) (hr : ∀ g, row = some g → M g) : Chg w w' M :=
  ⟨h.os, h.tape, h.output, h.size, fun i hi hn => h.block i hi (fun e => hn (hr i e.symm))⟩
theorem Chg.of_below {B : Nat} (h : Below B w w') (hM : ∀ i, B ≤ i → M i) : Chg w w' M :=
  ⟨h.os, h.tape, h.output, h.size, fun i hi hn => h.block i (by
    rcases Nat.lt_or_ge i B with h1 | h1
    · exact h1
    · exact absurd (hM i h1) hn)⟩
theorem Chg.below (h : Chg w w' M) {B : Nat} (hB : B ≤ w.heap.size) (hM : ∀ i, M i → B ≤ i) : Below B w w' :=
  ⟨h.os, h.tape, h.output, h.size, fun i hi => h.block i (by omega) (fun x => by have := hM i x; omega)⟩
theorem Chg.mono (h : Chg w w' M) (hm : ∀ i, M i → M' i) : Chg w w' M' := ⟨h.os, h.tape, h.output, h.size, fun i hi hn => h.block i hi (fun x => hn (hm i x))⟩
theorem Blk.chg {g : Nat} {t : TypeId} {cs : Array Value} (h : Blk w g t cs) (hc : Chg w w' M) (hg : ¬ M g) : Blk w' g t cs := (hc.block g h.lt hg).trans h
theorem Reads.chg {B size n : Nat} {A : Option Addr} {xs : List Value} (h : Reads w B size A n xs) (hc : Chg w w' M) (hB : B ≤ w.heap.size) (hA : ∀ ad, A = some ad → ¬ M ad.block) : Reads w' B size A n xs :=
  ⟨h.1, fun hn => by
    obtain ⟨ad, e, hb, hcell⟩ := h.2 hn
    refine ⟨ad, e, hb, fun j u hu => ?_⟩
    have h1 := hcell j u hu
    rw [← h1]
    exact World.cell?_of_block (by rw [block_of_add]; exact hc.block _ (by omega) (hA ad e))⟩
theorem Reads.chg0 {B size n : Nat} {A : Option Addr} {xs : List Value} (h : Reads w B size A n xs) (hc : Chg w w' M) (hB : B ≤ w.heap.size) (hA : 0 < n → ∀ ad, A = some ad → ¬ M ad.block) : Reads w' B size A n xs := by
  rcases Nat.eq_zero_or_pos n with h0 | h0
  · exact ⟨h.1, fun hn => by omega⟩
  · exact h.chg hc hB (hA h0)
theorem Reads.up {B size n : Nat} {A : Option Addr} {xs : List Value} (h : Reads w B size A n xs) (hB : B ≤ w.heap.size) (hb : Below w.heap.size w w') : Reads w' w'.heap.size size A n xs :=
  (h.below (hb.mono hB)).more (Nat.le_trans hB hb.size)
theorem Reads.at_block {B size n : Nat} {A : Option Addr} {xs : List Value} (h : Reads w B size A n xs) : 0 < n → ∀ ad, A = some ad → ad.block < B := fun hn ad e => by
  obtain ⟨ad', e', hb, _⟩ := h.2 hn
  rw [e] at e'
  injection e' with e'
  rw [e']
  exact hb
end
end Go.Proofs.YtdabmjcpiblofaaDoor
