/-
  Both Align's by one contract; what the laws' walks share. No condition.
-/
import Derived.Test.YtaadaekpmblpaaaSqH
import Derived.Test.YtaadaekpmblpaaaSqS
import Derived.Test.YtaadaekpmblpaaaSqK
import Derived.Test.YtaadaekpmblpaaaSqQ
namespace Go.Proofs.Ytaadaekpmblpaaa
open Go.RowKit
set_option linter.unusedVariables false

def resP (drop add : List Int) (cost : List (List Int)) : List (Int × Int) := if properL drop add cost then alignL drop add cost else []
def resX (drop add : List Int) (cost : List (List Int)) : Int := if properL drop add cost then potF drop add cost drop.length add.length else 0
def resM (drop add : List Int) (cost : List (List Int)) : List (List Int) := if properL drop add cost then potM drop add cost else []
def resE (drop add : List Int) (cost : List (List Int)) : Int := if properL drop add cost then 0 else 5
theorem back_len (drop add : List Int) (cost : List (List Int)) : ∀ (i j : Nat), (backF drop add cost i j).length ≤ i
  | 0, 0 => by rw [backF]; simp
  | 0, j + 1 => by rw [backF]; exact back_len drop add cost 0 j
  | i + 1, 0 => by rw [backF]; have := back_len drop add cost i 0; omega
  | i + 1, j + 1 => by
    rw [backF]
    have h1 := back_len drop add cost i j
    have h2 := back_len drop add cost i (j + 1)
    have h3 := back_len drop add cost (i + 1) j
    split
    · simp; omega
    · split <;> omega
termination_by i j => i + j
theorem resP_len (drop add : List Int) (cost : List (List Int)) : (resP drop add cost).length ≤ 400 := by
  unfold resP
  split
  · rename_i h
    have := (proper_parts h).1
    have h2 := back_len drop add cost drop.length add.length
    unfold alignL
    simp; omega
  · simp
theorem resM_len (drop add : List Int) (cost : List (List Int)) : (resM drop add cost).length ≤ 401 ∧ ∀ r ∈ resM drop add cost, r.length ≤ 401 := by
  unfold resM
  split
  · rename_i h
    have h1 := (proper_parts h).1
    have h2 := (proper_parts h).2.1
    unfold potM
    refine ⟨by simp; omega, fun r hr => ?_⟩
    obtain ⟨i, _, rfl⟩ := List.mem_map.1 hr
    simp; omega
  · simp

def AlAny (w : World) (drop add : List Int) (cost : List (List Int)) (e : Ending) (w' : World) : Prop :=
  ∃ A n c A1 n1 c1, e = .returned (.tuple #[.agg #[.slice A n c, .int .i64 (resX drop add cost), .slice A1 n1 c1], .int .i64 (resE drop add cost)]) ∧ Prs w' w'.heap.size A n (resP drop add cost) ∧ Mat w' w'.heap.size A1 n1 (resM drop add cost) ∧ Below w.heap.size w w'
theorem al_any_yes {w : World} {drop add : List Int} {cost : List (List Int)} (hp : properL drop add cost = true) (e : Ending) (w' : World) (h : AlPost w drop add cost e w') : AlAny w drop add cost e w' := by
  obtain ⟨A, n, c, g, bs, he, h1, h2, h3, h4, h5⟩ := h
  unfold AlAny resP resX resM resE
  simp only [hp, if_true]
  exact ⟨A, n, c, _, _, _, he, h1, h2.mat h3, h4⟩
theorem al_any_no {w : World} {drop add : List Int} {cost : List (List Int)} (hp : properL drop add cost = false) (e : Ending) (w' : World) (h : AlNo w e w') : AlAny w drop add cost e w' := by
  obtain ⟨he, h4⟩ := h
  unfold AlAny resP resX resM resE
  simp only [hp, Bool.false_eq_true, if_false]
  exact ⟨none, 0, 0, none, 0, 0, he, Reads.none_, ⟨[], Reads.none_, rfl, fun i h r h1 => by simp at h1⟩, h4⟩
theorem align_any (A1 : Option Addr) (n1 c1 : Nat) (A2 : Option Addr) (n2 c2 : Nat) (A3 : Option Addr) (n3 c3 : Nat) (drop add : List Int) (cost : List (List Int)) (w : World)
    (h : Three w w.heap.size A1 n1 A2 n2 A3 n3 drop add cost) : Calls Try.prog 11 #[.slice A1 n1 c1, .slice A2 n2 c2, .slice A3 n3 c3] w (AlAny w drop add cost) := by
  cases hp : properL drop add cost with
  | true => exact (align_yes A1 n1 c1 A2 n2 c2 A3 n3 c3 drop add cost w h hp).mono (al_any_yes hp)
  | false => exact (align_no A1 n1 c1 A2 n2 c2 A3 n3 c3 drop add cost w h hp).mono (al_any_no hp)
theorem refAlign_any (A1 : Option Addr) (n1 c1 : Nat) (A2 : Option Addr) (n2 c2 : Nat) (A3 : Option Addr) (n3 c3 : Nat) (drop add : List Int) (cost : List (List Int)) (w : World)
    (h : Three w w.heap.size A1 n1 A2 n2 A3 n3 drop add cost) : Calls Try.prog 12 #[.slice A1 n1 c1, .slice A2 n2 c2, .slice A3 n3 c3] w (AlAny w drop add cost) := by
  cases hp : properL drop add cost with
  | true => exact (refAlign_yes A1 n1 c1 A2 n2 c2 A3 n3 c3 drop add cost w h hp).mono (al_any_yes hp)
  | false => exact (refAlign_no A1 n1 c1 A2 n2 c2 A3 n3 c3 drop add cost w h hp).mono (al_any_no hp)

theorem Three.on {w w' : World} {A1 A2 A3 : Option Addr} {n1 n2 n3 : Nat} {drop add : List Int} {cost : List (List Int)} (h : Three w w.heap.size A1 n1 A2 n2 A3 n3 drop add cost) (hb : Below w.heap.size w w') : Three w' w'.heap.size A1 n1 A2 n2 A3 n3 drop add cost := (h.below hb).more hb.size
theorem Reads.on {w w' : World} {size n : Nat} {A : Option Addr} {xs : List Value} (h : Reads w w.heap.size size A n xs) (hb : Below w.heap.size w w') : Reads w' w'.heap.size size A n xs := (h.below hb).more hb.size
theorem Mat.on {w w' : World} {n : Nat} {A : Option Addr} {l : List (List Int)} (h : Mat w w.heap.size A n l) (hb : Below w.heap.size w w') : Mat w' w'.heap.size A n l := (h.below hb).more hb.size
theorem below_alloc (w : World) (o : Obj) : Below w.heap.size w (w.alloc o) := (Below.refl _ w).alloc (Nat.le_refl _) _
theorem Below.on {a b c : World} (h : Below a.heap.size a b) (k : Below b.heap.size b c) : Below a.heap.size a c := h.trans (k.mono h.size)
theorem below_set {a b : World} (h : Below a.heap.size a b) {g : Nat} (hg : a.heap.size ≤ g) (i : Nat) (u : Value) : Below a.heap.size a (b.setCell ⟨g, i, none⟩ u) := h.setCell (p := ⟨g, i, none⟩) hg u

/-- one alignment against the other: the tail of two laws -/
theorem same_any {w : World} {drop add : List Int} {cost : List (List Int)} {A A1 A' A1' : Option Addr} {n c n1 c1 n' c' n1' c1' : Nat} (h1 : Prs w w.heap.size A n (resP drop add cost)) (h2 : Mat w w.heap.size A1 n1 (resM drop add cost)) (h1' : Prs w w.heap.size A' n' (resP drop add cost)) (h2' : Mat w w.heap.size A1' n1' (resM drop add cost)) :
    Calls Try.prog 13 #[.agg #[.slice A n c, .int .i64 (resX drop add cost), .slice A1 n1 c1], .agg #[.slice A' n' c', .int .i64 (resX drop add cost), .slice A1' n1' c1']] w (SamePost w) := by
  obtain rfl : n' = n := by rw [← Prs.len h1, ← Prs.len h1']
  obtain rfl : n1' = n1 := by rw [← Mat.len h2, ← Mat.len h2']
  have hp := resP_len drop add cost
  have hm := resM_len drop add cost
  exact same_eq A n' c _ A1 n1' c1 A' c' A1' c1' _ _ w (by rw [← Prs.len h1]; omega) (by rw [← Mat.len h2]; omega) (fun r hr => by have := hm.2 r hr; omega) h1 h1' h2 h2'
end Go.Proofs.Ytaadaekpmblpaaa
