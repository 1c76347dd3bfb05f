/-
  The law's choice: an assignment that is made of numbers. No condition.
-/
import Derived.Test.YtgmhinmakomabaaAsT
namespace Go.Proofs.Ytgmhinmakomabaa
open Go.RowKit
set_option linter.unusedVariables false

theorem below_less {B B' : Nat} {w w' : World} (h : Below B w w') (hb : B' ≤ B) : Below B' w w' := ⟨h.os, h.tape, h.output, h.size, fun k hk => h.block k (by omega)⟩
theorem Own.fresh {w w' : World} {base : Nat} {e : TypeId} {vs : List (Value × List Value)} (h : Own w base e vs) {k : Nat} {v' : Value} {xs' : List Value} (hk : k < vs.length) (hb : Below w.heap.size w w') (hB : base ≤ w.heap.size) (ho : w'.ownsRow w.heap.size e 1 v' xs'.length xs') : Own w' base e (vs.set k (v', xs')) := by
  have hnew := own_from ho
  refine ⟨fun j p hj => ?_, fun i j p q g hij hi hj hpg hqg => ?_⟩
  · rw [List.getElem?_set] at hj
    by_cases e1 : k = j
    · rw [if_pos e1, if_pos (by omega)] at hj
      injection hj with hj
      subst hj
      exact owns_up ho (fun g hg => Nat.le_trans hB (hnew g hg))
    · rw [if_neg e1] at hj
      exact owns_below (h.own j p hj) hb (own_lt (h.own j p hj))
  · rw [List.getElem?_set] at hi hj
    by_cases e1 : k = i
    · subst e1
      rw [if_pos rfl, if_pos (by omega)] at hi
      injection hi with hi
      subst hi
      rw [if_neg hij] at hj
      have h1 := own_lt (h.own j q hj) g hqg
      have h2 := hnew g hpg
      omega
    · rw [if_neg e1] at hi
      by_cases e2 : k = j
      · subst e2
        rw [if_pos rfl, if_pos (by omega)] at hj
        injection hj with hj
        subst hj
        have h1 := own_lt (h.own i p hi) g hpg
        have h2 := hnew g hqg
        omega
      · rw [if_neg e2] at hj
        exact h.sep i j p q g hij hi hj hpg hqg

/-- the rows free and to -/
structure ChSt (w wr : World) (d B : Nat) (vf : Value) (fl : List Int) (vt : Value) (tl : List Int) : Prop where
  dice : Dice wr d
  own : Own wr B 3 [(vf, ints fl), (vt, ints tl)]
  bel : Below w.heap.size w wr
  dB : d < B
  wd : w.heap.size ≤ d
  Bs : B ≤ wr.heap.size
section
variable {w wr w1 w3 : World} {d B : Nat} {vf vt v' : Value} {fl tl : List Int} {x : Int}
theorem ChSt.start (hd : Dice w1 d) (hb : Below w.heap.size w w1) (h1 : w.heap.size ≤ d) (h2 : d < w1.heap.size) : ChSt w w1 d w1.heap.size (.slice none 0 0) [] (.slice none 0 0) [] :=
  ⟨hd, Own.start w1 w1.heap.size 3 2, hb, h2, h1, Nat.le_refl _⟩
theorem ChSt.drew (h : ChSt w wr d B vf fl vt tl) (k : Nat) : ChSt w (wr.drewN k) d B vf fl vt tl := ⟨h.dice, h.own.drewN k, below_drewN h.bel k, h.dB, h.wd, h.Bs⟩
theorem ChSt.next (h : ChSt w wr d B vf fl vt tl) (hd : Dice w1 d) (hg : wr.grownBy w1 (some d)) : ChSt w w1 d B vf fl vt tl := by
  obtain ⟨cs, hb⟩ := h.dice.blk
  have hwd := h.wd
  exact ⟨hd, h.own.blk hb (by decide) hg, h.bel.grown hg h.bel.size (fun g e => by injection e with e; omega), h.dB, h.wd, Nat.le_trans h.Bs hg.size⟩
theorem ChSt.alloc (h : ChSt w wr d B vf fl vt tl) (o : Obj) : ChSt w (wr.alloc o) d B vf fl vt tl :=
  ⟨h.dice.grown (World.grownBy_alloc wr o none) (fun g e => by cases e), h.own.alloc o, h.bel.alloc h.bel.size o, h.dB, h.wd, by have := h.Bs; simp; omega⟩
theorem ChSt.free (h : ChSt w wr d B vf fl vt tl) : wr.ownsRow B 3 1 vf fl.length (ints fl) := by
  have := h.own.own 0 _ rfl
  rwa [ints_len] at this
theorem ChSt.to (h : ChSt w wr d B vf fl vt tl) : wr.ownsRow B 3 1 vt tl.length (ints tl) := by
  have := h.own.own 1 _ rfl
  rwa [ints_len] at this
theorem ChSt.push0 (h : ChSt w wr d B vf fl vt tl) (hg : Grows wr w3 vf v') (ho : w3.ownsRow B 3 1 v' (fl.length + 1) (ints fl ++ [.int .i64 x])) : ChSt w w3 d B v' (fl ++ [x]) vt tl := by
  have hge := own_from h.free
  rw [ints_snoc] at ho
  have hwd := h.wd
  have hdB := h.dB
  refine ⟨h.dice.grown hg.grown (fun g e => by have := hge g e; omega), ?_, h.bel.grown hg.grown h.bel.size (fun g e => by have := hge g e; omega), h.dB, h.wd, Nat.le_trans h.Bs hg.size⟩
  exact h.own.push (k := 0) (xs := ints fl) (xs' := ints (fl ++ [x])) rfl hg (by rw [ints_len]; simpa using ho)
theorem ChSt.push1 (h : ChSt w wr d B vf fl vt tl) (hg : Grows wr w3 vt v') (ho : w3.ownsRow B 3 1 v' (tl.length + 1) (ints tl ++ [.int .i64 x])) : ChSt w w3 d B vf fl v' (tl ++ [x]) := by
  have hge := own_from h.to
  rw [ints_snoc] at ho
  have hwd := h.wd
  have hdB := h.dB
  refine ⟨h.dice.grown hg.grown (fun g e => by have := hge g e; omega), ?_, h.bel.grown hg.grown h.bel.size (fun g e => by have := hge g e; omega), h.dB, h.wd, Nat.le_trans h.Bs hg.size⟩
  exact h.own.push (k := 1) (xs := ints tl) (xs' := ints (tl ++ [x])) rfl hg (by rw [ints_len]; simpa using ho)
theorem ChSt.fresh (h : ChSt w wr d B vf fl vt tl) {fl' : List Int} (hb : Below wr.heap.size wr w3) (ho : w3.ownsRow wr.heap.size 3 1 v' fl'.length (ints fl')) : ChSt w w3 d B v' fl' vt tl := by
  obtain ⟨A, n, c, k, l, hbk, hi, h1, h2, h3⟩ := h.dice
  have hdB := h.dB
  have hBs := h.Bs
  refine ⟨⟨A, n, c, k, l, hbk.below hb (by omega), Reads.below hi (below_less hb (by omega)), h1, h2, h3⟩, ?_, h.bel.trans (below_less hb h.bel.size), h.dB, h.wd, Nat.le_trans h.Bs hb.size⟩
  exact h.own.fresh (k := 0) (by simp) hb h.Bs (by rw [ints_len]; exact ho)
end

def ChoicePost (w : World) (n : Nat) (e : Ending) (w' : World) : Prop :=
  ∃ (A : Option Addr) (c : Nat) (t : Nat → Nat), e = .returned (.slice A n c) ∧ Fn w' w'.heap.size A n (fun i => ((t i : Nat) : Int)) ∧ Perfect n t ∧ Below w.heap.size w w'

/-- the numbers 0 .. n-1, in any order -/
def Nums (n : Nat) (l : List Int) : Prop := l.Perm ((List.range n).map Int.ofNat)
theorem Nums.perfect {n : Nat} {l : List Int} (h : Nums n l) : Perfect n (fun i => (l.getD i 0).toNat) ∧ ∀ i, i < n → (((l.getD i 0).toNat : Nat) : Int) = l.getD i 0 := by
  have hl : l.length = n := by have := h.length_eq; simpa using this
  have hm : ∀ i, i < n → ∃ k, k < n ∧ l.getD i 0 = (k : Int) := fun i hi => by
    have : l.getD i 0 ∈ l := by
      rw [List.getD_eq_getElem?_getD, List.getElem?_eq_getElem (by omega)]
      exact List.getElem_mem _
    have := h.mem_iff.1 this
    simp at this
    obtain ⟨k, hk, e⟩ := this
    exact ⟨k, hk, e.symm⟩
  have hnd : l.Nodup := by
    refine h.nodup_iff.2 ?_
    refine List.Pairwise.map Int.ofNat ?_ List.nodup_range
    intro a b hab e
    exact hab (Int.ofNat.inj e)
  refine ⟨⟨fun i hi => ?_, fun i j hi hj e => ?_⟩, fun i hi => ?_⟩
  · obtain ⟨k, hk, e⟩ := hm i hi
    simp only [e]; omega
  · obtain ⟨k, hk, e1⟩ := hm i hi
    obtain ⟨k', hk', e2⟩ := hm j hj
    simp only [e1, e2] at e
    have e3 : k = k' := by omega
    have e4 : l.getD i 0 = l.getD j 0 := by rw [e1, e2, e3]
    rw [List.getD_eq_getElem?_getD, List.getD_eq_getElem?_getD, List.getElem?_eq_getElem (by omega), List.getElem?_eq_getElem (by omega)] at e4
    exact (List.getElem_inj hnd).1 e4
  · obtain ⟨k, hk, e⟩ := hm i hi
    rw [e]; omega
theorem Nums.step {n : Nat} {fl tl : List Int} {k : Nat} {x : Int} (h : Nums n (fl ++ tl)) (hk : fl[k]? = some x) : Nums n ((fl.take k ++ fl.drop (k + 1)) ++ (tl ++ [x])) := by
  refine List.Perm.trans ?_ h
  obtain ⟨hlt, rfl⟩ := List.getElem?_eq_some_iff.1 hk
  have e : fl ++ tl = fl.take k ++ (fl[k] :: (fl.drop (k + 1) ++ tl)) := by
    have e1 : fl = fl.take k ++ fl[k] :: fl.drop (k + 1) := by
      rw [← List.drop_eq_getElem_cons hlt, List.take_append_drop]
    calc fl ++ tl = (fl.take k ++ fl[k] :: fl.drop (k + 1)) ++ tl := by rw [← e1]
      _ = _ := by rw [List.append_assoc, List.cons_append]
  rw [e, List.append_assoc]
  refine List.Perm.append_left _ ?_
  rw [← List.append_assoc]
  exact List.perm_append_comm
end Go.Proofs.Ytgmhinmakomabaa
