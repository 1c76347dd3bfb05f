/-
  Which certificates are accepted, as a plain word; what the walks of Verify need. No condition.
-/
import Derived.Test.YtaadaekpmblpaaaSqD
namespace Go.Proofs.Ytaadaekpmblpaaa
open Go.RowKit
set_option linter.unusedVariables false

def pget (pot : List (List Int)) (i j : Nat) : Int := (pot.getD i []).getD j 0
def edge1 (drop : List Int) (pot : List (List Int)) (i j : Nat) : Bool := !decide (i < drop.length) || decide (pget pot (i + 1) j ≤ pget pot i j + drop.getD i 0)
def edge2 (add : List Int) (pot : List (List Int)) (i j : Nat) : Bool := !decide (j < add.length) || decide (pget pot i (j + 1) ≤ pget pot i j + add.getD j 0)
def edge3 (drop add : List Int) (cost pot : List (List Int)) (i j : Nat) : Bool := !(decide (i < drop.length) && decide (j < add.length) && decide (0 ≤ pget cost i j)) || decide (pget pot (i + 1) (j + 1) ≤ pget pot i j + pget cost i j)
def edgeOk (drop add : List Int) (cost pot : List (List Int)) (i j : Nat) : Bool := edge1 drop pot i j && edge2 add pot i j && edge3 drop add cost pot i j
def potRow (n : Nat) (r : List Int) : Bool := decide (r.length = n + 1) && inside 0 1099511627776 r
def edgesOk (drop add : List Int) (cost pot : List (List Int)) : Bool := (List.range (drop.length + 1)).all fun i => (List.range (add.length + 1)).all fun j => edgeOk drop add cost pot i j
def verL (drop add : List Int) (cost : List (List Int)) (ps : List (Int × Int)) (c : Int) (pot : List (List Int)) : Bool :=
  (costL drop add cost ps).2 && decide ((costL drop add cost ps).1 = c) && decide (pot.length = drop.length + 1) && pot.all (potRow add.length) && decide (pget pot 0 0 = 0) && decide (pget pot drop.length add.length = c) && edgesOk drop add cost pot

theorem range_all_step {p : Nat → Bool} {j : Nat} (h : (List.range j).all p = true) (hp : p j = true) : (List.range (j + 1)).all p = true := by
  rw [List.range_succ, List.all_append, h]
  simp [hp]
theorem range_all_no {p : Nat → Bool} {j n : Nat} (hj : j < n) (hp : p j = false) : (List.range n).all p = false := by
  rw [List.all_eq_false]
  exact ⟨j, List.mem_range.2 hj, by simp [hp]⟩

theorem pget_of {c : List (List Int)} {i j : Nat} {r : List Int} {x : Int} (h : c[i]? = some r) (h2 : r[j]? = some x) : pget c i j = x := by simp [pget, h, h2]
theorem getD_of {l : List Int} {k : Nat} {x : Int} (h : l[k]? = some x) : l.getD k 0 = x := by simp [h]

theorem Ints.head_ {w : World} {B n : Nat} {A : Option Addr} {l : List Int} (h : Ints w B A n l) (hn : 0 < n) :
    ∃ b off, A = some ⟨b, off, none⟩ ∧ b < B ∧ ∀ k, k < n → ∃ x, l[k]? = some x ∧ w.cell? ⟨b, off + k, none⟩ = some (.int .i64 x) := by
  obtain ⟨b, off, u, rfl, hb, -, -⟩ := h.at_ hn
  refine ⟨b, off, rfl, hb, fun k hk => ?_⟩
  obtain ⟨b', off', x, e, -, h1, h2⟩ := h.at_ hk
  injection e with e
  injection e with e1 e2
  subst e1
  subst e2
  exact ⟨x, h1, h2⟩
theorem Mat.head_ {w : World} {B n : Nat} {A : Option Addr} {l : List (List Int)} (h : Mat w B A n l) (hn : 0 < n) :
    ∃ b off, A = some ⟨b, off, none⟩ ∧ b < B ∧ ∀ k, k < n → ∃ A' n' c' r, l[k]? = some r ∧ w.cell? ⟨b, off + k, none⟩ = some (.slice A' n' c') ∧ Ints w B A' n' r := by
  obtain ⟨b, off, A', n', c', r, rfl, hb, -, -, -⟩ := h.row hn
  refine ⟨b, off, rfl, hb, fun k hk => ?_⟩
  obtain ⟨b', off', A', n', c', r, e, -, h1, h2, h3⟩ := h.row hk
  injection e with e
  injection e with e1 e2
  subst e1
  subst e2
  exact ⟨A', n', c', r, h1, h2, h3⟩
/-- a matrix whose rows have one length, not 0: every cell -/
def Grid (w : World) (b off n m : Nat) (l : List (List Int)) : Prop :=
  ∀ k, k < n → ∃ b' o' c', w.cell? ⟨b, off + k, none⟩ = some (.slice (some ⟨b', o', none⟩) m c') ∧ ∀ j, j < m → w.cell? ⟨b', o' + j, none⟩ = some (.int .i64 (pget l k j))
theorem Mat.grid {w : World} {B n m : Nat} {A : Option Addr} {l : List (List Int)} (h : Mat w B A n l) (hn : 0 < n) (hm : 0 < m) (hl : ∀ r ∈ l, r.length = m) :
    ∃ b off, A = some ⟨b, off, none⟩ ∧ b < B ∧ Grid w b off n m l := by
  obtain ⟨b, off, rfl, hb, hk⟩ := h.head_ hn
  refine ⟨b, off, rfl, hb, fun k hkn => ?_⟩
  obtain ⟨A', n', c', r, h1, h2, h3⟩ := hk k hkn
  have h4 := hl r (List.mem_of_getElem? h1)
  have h5 := h3.len
  obtain rfl : n' = m := by omega
  obtain ⟨b', o', rfl, -, h6⟩ := h3.head_ hm
  refine ⟨b', o', c', h2, fun j hj => ?_⟩
  obtain ⟨x, h7, h8⟩ := h6 j hj
  rw [pget_of h1 h7]
  exact h8
theorem Grid.keep {w w' : World} {b off n m : Nat} {l : List (List Int)} (h : Grid w b off n m l) (hk : ∀ p u, w.cell? p = some u → w'.cell? p = some u) : Grid w' b off n m l := fun k hkn => by
  obtain ⟨b', o', c', h1, h2⟩ := h k hkn
  exact ⟨b', o', c', hk _ _ h1, fun j hj => hk _ _ (h2 j hj)⟩
theorem pot_bounds {n : Nat} {pot : List (List Int)} (h : pot.all (potRow n) = true) {i j : Nat} (hi : i < pot.length) (hj : j < n + 1) : 0 ≤ pget pot i j ∧ pget pot i j ≤ 1099511627776 := by
  have h1 := List.all_eq_true.1 h pot[i] (List.getElem_mem _)
  unfold potRow at h1
  simp only [Bool.and_eq_true, decide_eq_true_eq] at h1
  have hj' : j < pot[i].length := by omega
  rw [pget_of (List.getElem?_eq_getElem hi) (List.getElem?_eq_getElem hj')]
  exact inside_at h1.2 (List.getElem?_eq_getElem hj')
theorem cost_bounds {drop add : List Int} {cost : List (List Int)} (h : ∀ r ∈ cost, r.length = add.length ∧ inside (-1) 1048576 r = true) {i j : Nat} (hi : i < cost.length) (hj : j < add.length) : -1 ≤ pget cost i j ∧ pget cost i j ≤ 1048576 := by
  have h1 := h cost[i] (List.getElem_mem _)
  have hj' : j < cost[i].length := by omega
  rw [pget_of (List.getElem?_eq_getElem hi) (List.getElem?_eq_getElem hj')]
  exact inside_at h1.2 (List.getElem?_eq_getElem hj')
theorem getD_bounds {lo hi : Int} {l : List Int} (h : inside lo hi l = true) {i : Nat} (hl : i < l.length) : lo ≤ l.getD i 0 ∧ l.getD i 0 ≤ hi := by
  rw [getD_of (List.getElem?_eq_getElem hl)]
  exact inside_at h (List.getElem?_eq_getElem hl)

theorem costL_proper {drop add : List Int} {cost : List (List Int)} {ps : List (Int × Int)} (h : (costL drop add cost ps).2 = true) : properL drop add cost = true := by
  unfold costL at h
  split at h
  · assumption
  · cases h
theorem Three.alloc {w : World} {A1 A2 A3 : Option Addr} {n1 n2 n3 : Nat} {drop add : List Int} {cost : List (List Int)} (h : Three w w.heap.size A1 n1 A2 n2 A3 n3 drop add cost) (o : Obj) : Three (w.alloc o) (w.alloc o).heap.size A1 n1 A2 n2 A3 n3 drop add cost :=
  have hk : ∀ p : Addr, p.block < w.heap.size → (w.alloc o).cell? p = w.cell? p := fun p hp => World.cell?_alloc_lt w o p hp
  have hs : w.heap.size ≤ (w.alloc o).heap.size := by simp
  ⟨(h.d.keep hk).more hs, (h.a.keep hk).more hs, (h.c.keep hk).more hs, h.l1, h.l2, h.l3, h.lr⟩
theorem Three.below {w w' : World} {B : Nat} {A1 A2 A3 : Option Addr} {n1 n2 n3 : Nat} {drop add : List Int} {cost : List (List Int)} (h : Three w B A1 n1 A2 n2 A3 n3 drop add cost) (hb : Below B w w') : Three w' B A1 n1 A2 n2 A3 n3 drop add cost :=
  ⟨h.d.below hb, h.a.below hb, h.c.below hb, h.l1, h.l2, h.l3, h.lr⟩
theorem Three.more {w : World} {B B' : Nat} {A1 A2 A3 : Option Addr} {n1 n2 n3 : Nat} {drop add : List Int} {cost : List (List Int)} (h : Three w B A1 n1 A2 n2 A3 n3 drop add cost) (hB : B ≤ B') : Three w B' A1 n1 A2 n2 A3 n3 drop add cost :=
  ⟨h.d.more hB, h.a.more hB, h.c.more hB, h.l1, h.l2, h.l3, h.lr⟩
end Go.Proofs.Ytaadaekpmblpaaa
