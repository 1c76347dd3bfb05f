/-
  The plain disk: what is durable, what is pending, the power; and worlds that differ in some blocks alone. No condition.
-/
import Derived.Test.YtnjafhlpnoikcaaOwn
import Derived.Test.YtnjafhlpnoikcaaTail
import Derived.Test.YtnjafhlpnoikcaaFut
import Derived.Laws.CopyOwn
import Derived.WalkKit
import Derived.WalkSpells
import Derived.WalkLawsBesides
import Derived.Outline
import Derived.BigQuiet
import Derived.KernelRfl
import Derived.Deep.RegionLaw
namespace Go.Proofs.Ytnjafhlpnoikcaa
open Go.RowKit
set_option linter.unusedVariables false

structure DS where
  dur : List Nat
  wait : List (Nat × List Nat)
  off : Bool
  fuse : Option Nat
def spl (d : List Nat) (a : Nat) (b : List Nat) : List Nat := d.take a ++ (b ++ d.drop (a + b.length))
theorem spl_len {d : List Nat} {a : Nat} {b : List Nat} (h : a + b.length ≤ d.length) : (spl d a b).length = d.length := by
  unfold spl; simp; omega
theorem spl_mem {d : List Nat} {a : Nat} {b : List Nat} (hd : ∀ x ∈ d, x < 256) (hb : ∀ x ∈ b, x < 256) : ∀ x ∈ spl d a b, x < 256 := fun x hx => by
  unfold spl at hx
  rcases List.mem_append.1 hx with h | h
  · exact hd x (List.mem_of_mem_take h)
  · rcases List.mem_append.1 h with h | h
    · exact hb x h
    · exact hd x (List.mem_of_mem_drop h)
theorem spl_nil (d : List Nat) (a : Nat) : spl d a [] = d := by unfold spl; simp
def seenL (d : List Nat) (l : List (Nat × List Nat)) : List Nat := l.foldl (fun d p => spl d p.1 p.2) d
def fits (N : Nat) (l : List (Nat × List Nat)) : Prop := ∀ p ∈ l, p.1 + p.2.length ≤ N ∧ ∀ x ∈ p.2, x < 256
theorem seen_len {N : Nat} : ∀ (l : List (Nat × List Nat)) (d : List Nat), fits N l → d.length = N → (seenL d l).length = N
  | [], d, _, h => h
  | p :: l, d, hf, h => by
    have hp := hf p List.mem_cons_self
    exact seen_len l _ (fun q hq => hf q (List.mem_cons_of_mem _ hq)) (by rw [spl_len (by omega)]; exact h)
theorem seen_mem {N : Nat} : ∀ (l : List (Nat × List Nat)) (d : List Nat), fits N l → (∀ x ∈ d, x < 256) → ∀ x ∈ seenL d l, x < 256
  | [], d, _, h => h
  | p :: l, d, hf, h => seen_mem l _ (fun q hq => hf q (List.mem_cons_of_mem _ hq)) (spl_mem h (hf p List.mem_cons_self).2)
theorem seen_snoc (d : List Nat) (l : List (Nat × List Nat)) (p : Nat × List Nat) : seenL d (l ++ [p]) = spl (seenL d l) p.1 p.2 := by simp [seenL]
structure DS.ok (s : DS) : Prop where
  lo : 64 ≤ s.dur.length
  hi : s.dur.length ≤ 131072
  byt : ∀ x ∈ s.dur, x < 256
  few : s.wait.length ≤ 60
  fit : fits s.dur.length s.wait
def insideB (N : Nat) (a n : Int) : Bool := decide (0 ≤ a) && decide (0 ≤ n) && decide (a ≤ N) && decide (n ≤ N - a)
def spendS (s : DS) : Bool × DS :=
  match s.fuse with
  | some 0 => (false, { s with off := true })
  | some (k + 1) => (true, { s with fuse := some k })
  | none => (true, s)
def writeS (s : DS) (a : Int) (b : List Nat) : Int × DS :=
  if s.off then (15, s) else if !insideB s.dur.length a b.length then (5, s) else if 60 ≤ s.wait.length then (17, s)
  else if (spendS s).1 then (0, { (spendS s).2 with wait := s.wait ++ [(a.toNat, b)] }) else (15, (spendS s).2)
def syncS (s : DS) : Int × DS :=
  if s.off then (15, s) else if (spendS s).1 then (0, { (spendS s).2 with dur := seenL s.dur s.wait, wait := [] }) else (15, (spendS s).2)
def fuseS (s : DS) (n : Int) : DS := { s with fuse := if n < 0 then none else some n.toNat }
def readS (s : DS) (a n : Int) : List Nat × Int :=
  if s.off then ([], 15) else if !insideB s.dur.length a n then ([], 5) else (((seenL s.dur s.wait).drop a.toNat).take n.toNat, 0)
def clampP (part : Int) (n : Nat) : Nat := min (max part 0).toNat n
/-- the writes that a crash leaves -/
def crashL (keep : List Bool) (part : Int) : Nat → Bool → List (Nat × List Nat) → List (Nat × List Nat)
  | _, _, [] => []
  | i, first, p :: l =>
    if keep.getD i false then p :: crashL keep part (i + 1) first l
    else (p.1, p.2.take (if first then clampP part p.2.length else 0)) :: crashL keep part (i + 1) false l
def crashS (s : DS) (keep : List Bool) (part : Int) : DS := { dur := seenL s.dur (crashL keep part 0 true s.wait), wait := [], off := false, fuse := none }

/-- w' is w but for the blocks of M, and new ones -/
structure Chg (w w' : World) (M : Nat → Prop) : Prop where
  os : w'.os = w.os
  tape : w'.tape = w.tape
  output : w'.output = w.output
  size : w.heap.size ≤ w'.heap.size
  block : ∀ b, b < w.heap.size → ¬ M b → w'.heap[b]? = w.heap[b]?
section
variable {a b c w w' : World} {M M' : Nat → Prop}
theorem Chg.refl (w : World) (M : Nat → Prop) : Chg w w M := ⟨rfl, rfl, rfl, Nat.le_refl _, fun _ _ _ => rfl⟩
theorem Chg.trans (h : Chg a b M) (k : Chg b c M') (hm : ∀ i, i < a.heap.size → M' i → M i) : Chg a c M :=
  ⟨k.os.trans h.os, k.tape.trans h.tape, k.output.trans h.output, Nat.le_trans h.size k.size, fun i hi hn => (k.block i (Nat.lt_of_lt_of_le hi h.size) (fun x => hn (hm i hi x))).trans (h.block i hi hn)⟩
theorem Chg.drewN (h : Chg a b M) (n : Nat) : Chg a (b.drewN n) M := ⟨h.os, h.tape, h.output, h.size, h.block⟩
theorem Chg.drew (h : Chg a b M) : Chg a b.drew M := ⟨h.os, h.tape, h.output, h.size, h.block⟩
theorem Chg.alloc (h : Chg a b M) (o : Obj) : Chg a (b.alloc o) M :=
  ⟨h.os, h.tape, h.output, Nat.le_trans h.size (by simp), fun i hi hn => (Below.heap_alloc b o i (Nat.lt_of_lt_of_le hi h.size)).trans (h.block i hi hn)⟩
theorem Chg.setCell (h : Chg a b M) {p : Addr} (hp : M p.block ∨ a.heap.size ≤ p.block) (u : Value) : Chg a (b.setCell p u) M :=
  ⟨h.os, h.tape, h.output, by simpa [World.setCell] using h.size, fun i hi hn => (Below.heap_setCell b p u i (by
    rintro rfl
    rcases hp with hp | hp
    · exact hn hp
    · omega)).trans (h.block i hi hn)⟩
theorem Chg.setRow (h : Chg a b M) {g : Nat} (hg : M g ∨ a.heap.size ≤ g) (cs : Array Value) : Chg a (b.setRow g cs) M :=
  ⟨h.os, h.tape, h.output, by simpa [World.setRow] using h.size, fun i hi hn => (setRow_other b g i cs (by
    rintro rfl
    rcases hg with hp | hp
    · exact hn hp
    · omega)).trans (h.block i hi hn)⟩
theorem Chg.of_grown {row : Option Nat} (h : w.grownBy w' row) (hr : ∀ g, row = some g → M g) : Chg w w' M :=
  ⟨h.os, h.tape, h.output, h.size, fun i hi hn => h.block i hi (fun e => hn (hr i e.symm))⟩
theorem Chg.of_below {B : Nat} (h : Below B w w') (hM : ∀ i, B ≤ i → M i) : Chg w w' M :=
  ⟨h.os, h.tape, h.output, h.size, fun i hi hn => h.block i (by
    rcases Nat.lt_or_ge i B with h1 | h1
    · exact h1
    · exact absurd (hM i h1) hn)⟩
theorem Chg.below (h : Chg w w' M) {B : Nat} (hB : B ≤ w.heap.size) (hM : ∀ i, M i → B ≤ i) : Below B w w' :=
  ⟨h.os, h.tape, h.output, h.size, fun i hi => h.block i (by omega) (fun x => by have := hM i x; omega)⟩
theorem Chg.mono (h : Chg w w' M) (hm : ∀ i, M i → M' i) : Chg w w' M' := ⟨h.os, h.tape, h.output, h.size, fun i hi hn => h.block i hi (fun x => hn (hm i x))⟩
theorem Blk.chg {g : Nat} {t : TypeId} {cs : Array Value} (h : Blk w g t cs) (hc : Chg w w' M) (hg : ¬ M g) : Blk w' g t cs := (hc.block g h.lt hg).trans h
theorem Reads.chg {B size n : Nat} {A : Option Addr} {xs : List Value} (h : Reads w B size A n xs) (hc : Chg w w' M) (hB : B ≤ w.heap.size) (hA : ∀ ad, A = some ad → ¬ M ad.block) : Reads w' B size A n xs :=
  ⟨h.1, fun hn => by
    obtain ⟨ad, e, hb, hcell⟩ := h.2 hn
    refine ⟨ad, e, hb, fun j u hu => ?_⟩
    have h1 := hcell j u hu
    rw [← h1]
    exact World.cell?_of_block (by rw [block_of_add]; exact hc.block _ (by omega) (hA ad e))⟩
theorem Reads.chg0 {B size n : Nat} {A : Option Addr} {xs : List Value} (h : Reads w B size A n xs) (hc : Chg w w' M) (hB : B ≤ w.heap.size) (hA : 0 < n → ∀ ad, A = some ad → ¬ M ad.block) : Reads w' B size A n xs := by
  rcases Nat.eq_zero_or_pos n with h0 | h0
  · exact ⟨h.1, fun hn => by omega⟩
  · exact h.chg hc hB (hA h0)
theorem Reads.up {B size n : Nat} {A : Option Addr} {xs : List Value} (h : Reads w B size A n xs) (hB : B ≤ w.heap.size) (hb : Below w.heap.size w w') : Reads w' w'.heap.size size A n xs :=
  (h.below (hb.mono hB)).more (Nat.le_trans hB hb.size)
theorem Reads.at_block {B size n : Nat} {A : Option Addr} {xs : List Value} (h : Reads w B size A n xs) : 0 < n → ∀ ad, A = some ad → ad.block < B := fun hn ad e => by
  obtain ⟨ad', e', hb, _⟩ := h.2 hn
  rw [e] at e'
  injection e' with e'
  rw [e']
  exact hb
end
end Go.Proofs.Ytnjafhlpnoikcaa
