/-
  Arguments that are made of numbers: proper. No condition.
-/
import Derived.Test.YtaadaekpmblpaaaSqR
import Derived.Test.YtaadaekpmblpaaaOwn
import Derived.Deep.RegionLaw
namespace Go.Proofs.Ytaadaekpmblpaaa
open Go.RowKit
set_option linter.unusedVariables false

def ints (l : List Int) : List Value := l.map (Value.int .i64)
theorem ints_len (l : List Int) : (ints l).length = l.length := by simp [ints]
theorem Dice.grown {w w' : World} {d : Nat} {row : Option Nat} (h : Dice w d) (hg : w.grownBy w' row) (hr : ∀ g, row = some g → d < g) : Dice w' d := by
  obtain ⟨A, n, c, k, l, hb, hi, h1, h2, h3⟩ := h
  exact ⟨A, n, c, k, l, hb.grown hg (fun e => by have := hr d e.symm; omega), hi.grown hg (Nat.le_of_lt hb.lt) (fun g hg' => Nat.le_of_lt (hr g hg')), h1, h2, h3⟩
theorem Dice.blk {w : World} {d : Nat} (h : Dice w d) : ∃ cs, Blk w d 55 cs := by
  obtain ⟨A, n, c, k, l, hb, _⟩ := h
  exact ⟨_, hb⟩
theorem Dice.drewN {w : World} {d : Nat} (h : Dice w d) (k : Nat) : Dice (w.drewN k) d := h

/-- the rows add, drop, and those of cost; block gc has the heads of the latter -/
structure MkSt (w wr : World) (d gc B : Nat) (vs : List (Value × List Int)) : Prop where
  dice : Dice wr d
  own : Own wr B 3 (vs.map fun p => (p.1, ints p.2))
  head : Blk wr gc 22 ((vs.drop 2).map (·.1)).toArray
  bel : Below w.heap.size w wr
  dB : d < B
  wd : w.heap.size ≤ d
  dg : d < gc
  Bs : B ≤ wr.heap.size
section
variable {w wr w1 w3 : World} {d gc B : Nat} {vs : List (Value × List Int)}
theorem MkSt.drew (h : MkSt w wr d gc B vs) : MkSt w wr.drew d gc B vs := ⟨h.dice, h.own.drew, h.head, below_drewN h.bel 1, h.dB, h.wd, h.dg, h.Bs⟩
theorem MkSt.next (h : MkSt w wr d gc B vs) (hd : Dice w1 d) (hg : wr.grownBy w1 (some d)) : MkSt w w1 d gc B vs := by
  obtain ⟨cs, hb⟩ := h.dice.blk
  have hdg := h.dg
  have hwd := h.wd
  exact ⟨hd, h.own.blk hb (by decide) hg, h.head.grown hg (fun e => by injection e with e; omega), h.bel.grown hg h.bel.size (fun g e => by injection e with e; omega), h.dB, h.wd, h.dg, Nat.le_trans h.Bs hg.size⟩
theorem MkSt.alloc (h : MkSt w wr d gc B vs) (o : Obj) : MkSt w (wr.alloc o) d gc B vs := by
  have hs := h.bel.size
  exact ⟨h.dice.grown (World.grownBy_alloc wr o none) (fun g e => by cases e), h.own.alloc o, h.head.alloc o, h.bel.alloc hs o, h.dB, h.wd, h.dg, by have := h.Bs; simp; omega⟩
theorem MkSt.at_ (h : MkSt w wr d gc B vs) {k : Nat} {v : Value} {l : List Int} (hk : vs[k]? = some (v, l)) : wr.ownsRow B 3 1 v l.length (ints l) := by
  have := h.own.own k (v, ints l) (by rw [List.getElem?_map, hk]; rfl)
  rwa [ints_len] at this
theorem MkSt.ge (h : MkSt w wr d gc B vs) {k : Nat} {v : Value} {l : List Int} (hk : vs[k]? = some (v, l)) : ∀ g, v.ownBlock = some g → d < g ∧ g ≠ gc := fun g hg => by
  have h1 := own_from (h.at_ hk) g hg
  have h2 := h.dB
  exact ⟨by omega, fun e => own_blk_ne (h.at_ hk) h.head (by decide) (e ▸ hg)⟩
theorem ints_snoc (l : List Int) (x : Int) : ints l ++ [.int .i64 x] = ints (l ++ [x]) := by simp [ints]
/-- the row drop has grown -/
theorem MkSt.push1 (h : MkSt w wr d gc B vs) {v v' : Value} {l : List Int} {x : Int} (hk : vs[1]? = some (v, l)) (hg : Grows wr w3 v v') (ho : w3.ownsRow B 3 1 v' (l.length + 1) (ints l ++ [.int .i64 x])) : MkSt w w3 d gc B (vs.set 1 (v', l ++ [x])) := by
  have hge := h.ge hk
  rw [ints_snoc] at ho
  have hwd := h.wd
  refine ⟨h.dice.grown hg.grown (fun g e => (hge g e).1), ?_, ?_, h.bel.grown hg.grown h.bel.size (fun g e => by have := (hge g e).1; omega), h.dB, h.wd, h.dg, Nat.le_trans h.Bs hg.size⟩
  · rw [List.map_set]
    refine h.own.push (xs := ints l) (by rw [List.getElem?_map, hk]; rfl) hg ?_
    rw [ints_len]; simpa using ho
  · rw [List.drop_set]
    exact hg.blk h.head (fun e => (hge gc e).2 rfl)
/-- a row of cost has grown, and its head is stored -/
theorem MkSt.push2 (h : MkSt w wr d gc B vs) {i : Nat} {v v' : Value} {l : List Int} {x : Int} (hk : vs[i + 2]? = some (v, l)) (hg : Grows wr w3 v v') (ho : w3.ownsRow B 3 1 v' (l.length + 1) (ints l ++ [.int .i64 x])) : MkSt w (w3.setCell ⟨gc, i, none⟩ v') d gc B (vs.set (i + 2) (v', l ++ [x])) := by
  have hge := h.ge hk
  rw [ints_snoc] at ho
  have hwd := h.wd
  have hdg := h.dg
  have hb3 : Blk w3 gc 22 ((vs.drop 2).map (·.1)).toArray := hg.blk h.head (fun e => (hge gc e).2 rfl)
  have hgs : w3.grownBy (w3.setCell ⟨gc, i, none⟩ v') (some gc) := only_setCell (World.grownBy.refl _ _) (.inl rfl) _
  refine ⟨(h.dice.grown hg.grown (fun g e => (hge g e).1)).grown hgs (fun g e => by injection e with e; omega), ?_, ?_, (h.bel.grown hg.grown h.bel.size (fun g e => by have := (hge g e).1; omega)).setCell (by show w.heap.size ≤ gc; omega) _, h.dB, h.wd, h.dg, by have h1 := h.Bs; have h2 := hg.size; simp [World.setCell]; omega⟩
  · rw [List.map_set]
    refine Own.blk (h.own.push (xs := ints l) (by rw [List.getElem?_map, hk]; rfl) hg ?_) hb3 (by decide) hgs
    rw [ints_len]; simpa using ho
  · have h1 := hb3.set_ i v'
    rw [List.setIfInBounds_toArray, ← List.map_set (f := (·.1)) (a := (v', l ++ [x]))] at h1
    rw [List.drop_set, if_neg (by omega), Nat.add_sub_cancel]
    exact h1
theorem MkSt.cell (h : MkSt w wr d gc B vs) {i : Nat} {v : Value} {l : List Int} (hk : vs[i + 2]? = some (v, l)) : wr.cell? ⟨gc, i, none⟩ = some v := by
  rw [h.head.cell]
  simp [Nat.add_comm 2 i, hk]
theorem MkSt.frozen (h : MkSt w wr d gc B vs) (i : Nat) : wr.frozen? ⟨gc, i, none⟩ = false := h.head.frozen i
end

/-- the rows of cost before place (i, j) -/
def Rw (n i j : Nat) (rws : List (Value × List Int)) : Prop := ∀ (k : Nat) p, rws[k]? = some p → (k < i → p.2.length = n ∧ inside (-1) 8 p.2 = true) ∧ (k = i → p.2.length = j ∧ inside (-1) 8 p.2 = true) ∧ (i < k → p.2 = [])
theorem Rw.start (m n : Nat) : Rw n 0 0 (List.replicate m (.slice none 0 0, [])) := fun k p h => by
  obtain ⟨hk, rfl⟩ := List.getElem?_eq_some_iff.1 h
  simp [inside]
theorem Rw.row {n i : Nat} {rws : List (Value × List Int)} (h : Rw n i n rws) : Rw n (i + 1) 0 rws := fun k p hk => by
  obtain ⟨h1, h2, h3⟩ := h k p hk
  refine ⟨fun hl => ?_, fun he => ?_, fun hl => h3 (by omega)⟩
  · by_cases e : k = i
    · exact h2 e
    · exact h1 (by omega)
  · rw [h3 (by omega)]; simp [inside]
theorem inside_snoc {lo hi : Int} {l : List Int} {x : Int} (h : inside lo hi l = true) (h1 : lo ≤ x) (h2 : x ≤ hi) : inside lo hi (l ++ [x]) = true := by
  unfold inside at *
  rw [List.all_append, h]
  simp [h1, h2]
theorem Rw.push {n i j : Nat} {rws : List (Value × List Int)} (h : Rw n i j rws) {v v' : Value} {l : List Int} {x : Int} (hk : rws[i]? = some (v, l)) (h1 : -1 ≤ x) (h2 : x ≤ 8) : Rw n i (j + 1) (rws.set i (v', l ++ [x])) := fun k p hk' => by
  rw [List.getElem?_set] at hk'
  by_cases e : i = k
  · subst e
    rw [if_pos rfl, if_pos (List.getElem?_eq_some_iff.1 hk).1] at hk'
    injection hk' with hk'
    subst hk'
    obtain ⟨_, h4, _⟩ := h i _ hk
    refine ⟨fun hl => absurd hl (by omega), fun _ => ⟨by simp [(h4 rfl).1], inside_snoc (h4 rfl).2 h1 h2⟩, fun hl => absurd hl (by omega)⟩
  · rw [if_neg e] at hk'
    obtain ⟨h3, h4, h5⟩ := h k p hk'
    exact ⟨h3, fun he => absurd he.symm e, h5⟩

def PropPost (w : World) (m n : Nat) (e : Ending) (w' : World) : Prop :=
  ∃ A1 c1 A2 c2 A3 drop add cost, e = .returned (.tuple #[.slice A1 m c1, .slice A2 n c2, .slice A3 m m]) ∧ Three w' w'.heap.size A1 m A2 n A3 m drop add cost ∧ properL drop add cost = true ∧ Below w.heap.size w w'

theorem inside_mono {lo hi hi' : Int} {l : List Int} (h : inside lo hi l = true) (hh : hi ≤ hi') : inside lo hi' l = true := by
  unfold inside at *
  rw [List.all_eq_true] at *
  intro x hx
  have := h x hx
  simp at this ⊢
  omega
theorem prop_end {w wr : World} {d gc B m n : Nat} {va vd : Value} {la ld : List Int} {rws : List (Value × List Int)} (h : MkSt w wr d gc B ((va, la) :: (vd, ld) :: rws)) (hm : m ≤ 400) (hn : n ≤ 400) (hr : Rw n m 0 rws) (hl : rws.length = m) (ha : la.length = n) (hd : ld.length = m) (ia : inside 0 8 la = true) (id : inside 0 8 ld = true) :
    PropPost w m n (.returned (.tuple #[vd, va, .slice (some ⟨gc, 0, none⟩) m m])) wr := by
  obtain ⟨A1, c1, rfl, r1, -⟩ := reads_of_owns (h.at_ (k := 1) rfl)
  obtain ⟨A2, c2, rfl, r2, -⟩ := reads_of_owns (h.at_ (k := 0) rfl)
  rw [hd] at r1
  rw [ha] at r2
  have hrow : ∀ (k : Nat) p, rws[k]? = some p → p.2.length = n ∧ inside (-1) 8 p.2 = true := fun k p hk => (hr k p hk).1 (by rw [← hl]; exact (List.getElem?_eq_some_iff.1 hk).1)
  have hhead := h.head
  simp only [List.drop_succ_cons, List.drop_zero] at hhead
  refine ⟨A1, c1, A2, c2, some ⟨gc, 0, none⟩, ld, la, rws.map (·.2), by rw [ha, hd], ⟨r1, r2, ?_, by omega, by omega, by omega, ?_⟩, ?_, h.bel⟩
  · refine ⟨rws.map fun p => match p.1 with | .slice A n c => (A, n, c) | _ => (none, 0, 0), ⟨by simp [hl], fun _ => ⟨_, rfl, hhead.lt, fun j u hu => ?_⟩⟩, by simp, fun k hd' r h1 h2 => ?_⟩
    · rw [Addr.add_lit, Nat.zero_add, hhead.cell]
      rw [List.map_map, List.getElem?_map] at hu
      cases hj : rws[j]? with
      | none => rw [hj] at hu; cases hu
      | some p =>
        rw [hj] at hu
        simp at hu
        obtain ⟨A, c, hv, -, -⟩ := reads_of_owns (h.at_ (k := j + 2) (v := p.1) (l := p.2) (by simpa using hj))
        rw [hv] at hu
        simp [hj, hv, ← hu, hdv]
    · rw [List.getElem?_map] at h1 h2
      cases hj : rws[k]? with
      | none => rw [hj] at h1; cases h1
      | some p =>
        rw [hj] at h1 h2
        simp at h1 h2
        obtain ⟨A, c, hv, hrd, -⟩ := reads_of_owns (h.at_ (k := k + 2) (v := p.1) (l := p.2) (by simpa using hj))
        rw [hv] at h1
        simp at h1
        subst h1 h2
        exact hrd
  · intro r hr'
    obtain ⟨p, hp, rfl⟩ := List.mem_map.1 hr'
    obtain ⟨k, hk⟩ := List.getElem?_of_mem hp
    have := (hrow k p hk).1
    omega
  · unfold properL
    simp only [Bool.and_eq_true, decide_eq_true_eq, List.all_eq_true, List.length_map]
    refine ⟨⟨⟨⟨⟨by omega, by omega⟩, by omega⟩, inside_mono id (by omega)⟩, inside_mono ia (by omega)⟩, fun r hr' => ?_⟩
    obtain ⟨p, hp, rfl⟩ := List.mem_map.1 hr'
    obtain ⟨k, hk⟩ := List.getElem?_of_mem hp
    exact ⟨by rw [(hrow k p hk).1, ha], inside_mono (hrow k p hk).2 (by omega)⟩
end Go.Proofs.Ytaadaekpmblpaaa
