/-
  Paths as they lie in memory. No condition.
-/
import Derived.Test.YthaepakpeamajaaTrP
import Derived.WalkSmall
import Derived.Laws.EntriesVeiled
namespace Go.Proofs.Ythaepakpeamajaa
open Go.RowKit
set_option linter.unusedVariables false

mutual
def T.paths : T → List Int → List (List Int)
  | .node _ _ _ ks, p => p :: T.pathss ks p 0
def T.pathss : List T → List Int → Nat → List (List Int)
  | [], _, _ => []
  | k :: ks, p, i => T.paths k (p ++ [(i : Int)]) ++ T.pathss ks p (i + 1)
end
theorem pathss_append : ∀ (a b : List T) (p : List Int) (i : Nat), T.pathss (a ++ b) p i = T.pathss a p i ++ T.pathss b p (i + a.length)
  | [], b, p, i => by rw [List.nil_append, T.pathss]; simp
  | k :: a, b, p, i => by
    rw [List.cons_append, T.pathss, T.pathss, pathss_append a b p (i + 1), List.append_assoc, List.length_cons, show i + 1 + a.length = i + (a.length + 1) by omega]
theorem paths_plain (t : TX) (p : List Int) : t.plain.paths p = p :: T.pathss (t.kids.map TX.plain) p 0 := by rw [TX.plain_eq, T.paths]
theorem pathss_succ {t k : TX} {j : Nat} (h : t.kids[j]? = some k) (p : List Int) : T.pathss ((t.kids.take (j + 1)).map TX.plain) p 0 = T.pathss ((t.kids.take j).map TX.plain) p 0 ++ k.plain.paths (p ++ [(j : Int)]) := by
  have hj := (List.getElem?_eq_some_iff.1 h).1
  rw [List.take_add_one, h]
  simp only [Option.toList, List.map_append, List.map_cons, List.map_nil]
  rw [pathss_append, T.pathss, T.pathss, List.append_nil, List.length_map, List.length_take]
  congr 3
  have : 0 + min j t.kids.length = j := by omega
  rw [this]
theorem paths_len (t : T) : ∀ p, (t.paths p).length = t.size := by
  refine T.rec (motive_1 := fun t => ∀ p, (t.paths p).length = t.size) (motive_2 := fun l => ∀ p i, (T.pathss l p i).length = T.sizes l) ?_ ?_ ?_ t
  · intro k s l ks ih p
    rw [T.paths, T.size, List.length_cons, ih]; omega
  · intro p i; rw [T.pathss, T.sizes]; rfl
  · intro k ks h1 h2 p i
    rw [T.pathss, T.sizes, List.length_append, h1, h2]
/-- a path in memory -/
structure PX where
  A : Option Addr
  c : Nat
  l : List Int
def PX.head (x : PX) : Value := .slice x.A x.l.length x.c
theorem head_one (xs : List PX) : ∀ u ∈ xs.map PX.head, u.oneCell' = true := fun u hu => by
  obtain ⟨x, -, rfl⟩ := List.mem_map.1 hu
  rfl
theorem ints_one (l : List Int) : ∀ u ∈ l.map (Value.int .i64), u.oneCell' = true := fun u hu => by
  obtain ⟨x, -, rfl⟩ := List.mem_map.1 hu
  rfl
def visitF (ba bp bv : Nat) : Value := .func (.func 35) #[] #[.pointer (some ⟨ba, 0, none⟩), .pointer (some ⟨bp, 0, none⟩), .pointer (some ⟨bv, 0, none⟩)]
/-- what visit works on: all paths so far, the path at hand -/
structure VS (w : World) (ba bp bv base : Nat) (v vp : Value) (xs : List PX) (P : List Int) : Prop where
  a : Blk w ba 38 #[v]
  p : Blk w bp 26 #[vp]
  f : Blk w bv 46 #[visitF ba bp bv]
  la : ba < base
  lp : bp < base
  lv : bv < base
  lb : base ≤ w.heap.size
  ra : w.ownsRow base 26 1 v xs.length (xs.map PX.head)
  rp : w.ownsRow base 3 1 vp P.length (P.map (Value.int .i64))
  each : ∀ x ∈ xs, Reads w w.heap.size 1 x.A x.l.length (x.l.map (Value.int .i64)) ∧ ∀ ad, x.A = some ad → 0 < x.l.length → base ≤ ad.block ∧ v.ownBlock ≠ some ad.block ∧ vp.ownBlock ≠ some ad.block
  cap : ∀ x ∈ xs, x.l.length ≤ x.c
theorem own_cap {w : World} {base : Nat} {e : TypeId} {size n c : Nat} {A : Option Addr} {xs : List Value} (h : w.ownsRow base e size (.slice A n c) n xs) : n ≤ c := by
  rcases h.2 with ⟨h1, -⟩ | ⟨g', cap', cur, h1, -, -, h2, -⟩
  · injection h1 with _ e2 e3; omega
  · injection h1 with _ _ e3; omega
theorem own_type {w : World} {base e size n : Nat} {v : Value} {xs : List Value} {g : Nat} (h : w.ownsRow base e size v n xs) (hg : v.ownBlock = some g) : ∃ cur, w.heap[g]? = some (.cells cur e (0, 0)) := by
  rcases h.2 with ⟨rfl, _⟩ | ⟨g', cap, cur, rfl, hb, hh, _⟩
  · simp [Value.ownBlock] at hg
  · have : g' = g := by simpa [Value.ownBlock] using hg
    subst this
    exact ⟨cur, hh⟩
theorem own_apart {w : World} {base base' e e' size size' n n' : Nat} {v v' : Value} {xs xs' : List Value} (h : w.ownsRow base e size v n xs) (h' : w.ownsRow base' e' size' v' n' xs') (hne : e ≠ e') : v.ownBlock = none ∨ v.ownBlock ≠ v'.ownBlock := by
  cases hv : v.ownBlock with
  | none => exact .inl rfl
  | some g =>
    refine .inr (fun e1 => ?_)
    obtain ⟨c1, h1⟩ := own_type h hv
    obtain ⟨c2, h2⟩ := own_type h' e1.symm
    rw [h1] at h2
    injection h2 with h2
    injection h2 with _ h2
    exact hne h2
section
variable {w w' : World} {ba bp bv base : Nat} {v vp : Value} {xs : List PX} {P : List Int}
theorem VS.up (h : VS w ba bp bv base v vp xs P) (hb : Below w.heap.size w w') : VS w' ba bp bv base v vp xs P := by
  have := h.la; have := h.lp; have := h.lv; have := h.lb
  exact ⟨h.a.below hb h.a.lt, h.p.below hb h.p.lt, h.f.below hb h.f.lt, h.la, h.lp, h.lv, Nat.le_trans h.lb hb.size, owns_below h.ra hb (own_lt h.ra), owns_below h.rp hb (own_lt h.rp), fun x hx => ⟨((h.each x hx).1.below hb).more hb.size, (h.each x hx).2⟩, h.cap⟩
/-- v's row has grown, and is stored; nothing else has changed -/
theorem VS.grow {w2 w3 : World} {v' : Value} {ys : List PX} (h : VS w2 ba bp bv base v vp xs P) (hg : Grows w2 w3 v v') (ho : w3.ownsRow base 26 1 v' (xs ++ ys).length ((xs ++ ys).map PX.head)) (hy : ∀ x ∈ ys, Reads w2 w2.heap.size 1 x.A x.l.length (x.l.map (Value.int .i64)) ∧ ∀ ad, x.A = some ad → 0 < x.l.length → base ≤ ad.block ∧ v.ownBlock ≠ some ad.block ∧ vp.ownBlock ≠ some ad.block) (hyc : ∀ x ∈ ys, x.l.length ≤ x.c) :
    VS (w3.setCell ⟨ba, 0, none⟩ v') ba bp bv base v' vp (xs ++ ys) P := by
  have l1 := h.la; have l2 := h.lp; have l3 := h.lv; have l4 := h.lb
  have hvb := own_from h.ra
  have hvl := own_lt h.ra
  have hv' := own_from ho
  have hpb := own_from h.rp
  have hgs := hg.size
  have n1 : ba ≠ bp := Blk.ne_ h.a h.p (by decide)
  have n2 : ba ≠ bv := Blk.ne_ h.a h.f (by decide)
  have hs : w3.grownBy (w3.setCell ⟨ba, 0, none⟩ v') (some ba) := ⟨rfl, rfl, rfl, by simp [World.setCell], fun i hi hne => Below.heap_setCell w3 _ v' i (fun e => hne (by rw [e]))⟩
  have ne : ∀ {g : Nat}, g < base → v.ownBlock ≠ some g := fun hg' e => by have := hvb _ e; omega
  refine ⟨(hg.blk h.a (ne l1)).set_ 0 v', (hg.blk h.p (ne l2)).far (p := ⟨ba, 0, none⟩) (fun e => n1 e.symm) _, (hg.blk h.f (ne l3)).far (p := ⟨ba, 0, none⟩) (fun e => n2 e.symm) _, l1, l2, l3, by simp [World.setCell]; omega, ?_, ?_, fun x hx => ?_, fun x hx => by rcases List.mem_append.1 hx with hx | hx; exact h.cap x hx; exact hyc x hx⟩
  · refine ho.kept hs ?_
    cases hq : v'.ownBlock with
    | none => exact .inl rfl
    | some g => exact .inr (fun e => by injection e with e; have := hv' g hq; omega)
  · refine (owns_grows h.rp hg ?_).kept hs ?_
    · exact own_apart h.rp h.ra (by decide)
    · cases hq : vp.ownBlock with
      | none => exact .inl rfl
      | some g => exact .inr (fun e => by injection e with e; have := hpb g hq; omega)
  · have key : Reads w2 w2.heap.size 1 x.A x.l.length (x.l.map (Value.int .i64)) ∧ ∀ ad, x.A = some ad → 0 < x.l.length → base ≤ ad.block ∧ v.ownBlock ≠ some ad.block ∧ vp.ownBlock ≠ some ad.block := by
      rcases List.mem_append.1 hx with hx | hx
      · exact h.each x hx
      · exact hy x hx
    have hbl : ∀ ad, x.A = some ad → 0 < x.l.length → ad.block < w2.heap.size := fun ad e hn => by
      obtain ⟨ad', e', hb, -⟩ := key.1.2 hn
      rw [e] at e'; injection e' with e'; subst e'; exact hb
    refine ⟨(key.1.keepS (S := fun b => base ≤ b ∧ b < w2.heap.size ∧ v.ownBlock ≠ some b) (fun ad e hn => ⟨(key.2 ad e hn).1, hbl ad e hn, (key.2 ad e hn).2.1⟩) (fun p hp hp2 => ?_)).more (by simp [World.setCell]; omega), fun ad e hn => ⟨(key.2 ad e hn).1, fun e2 => ?_, (key.2 ad e hn).2.2⟩⟩
    · rw [World.cell?_setCell_other w3 _ p v' (fun e => by have := hp.1; rw [← e] at this; have : base ≤ ba := this; omega), World.cell?_of_block (hg.grown.block p.block hp2 (fun e => hp.2.2 e.symm))]
    · rcases hg.own _ e2 with h1 | h1
      · exact (key.2 ad e hn).2.1 h1
      · have := hbl ad e hn; omega
/-- the path's row has changed or grown, and is stored -/
theorem VS.walk {w2 w3 : World} {vp' : Value} {P' : List Int} (h : VS w2 ba bp bv base v vp xs P) (hg : Grows w2 w3 vp vp') (ho : w3.ownsRow base 3 1 vp' P'.length (P'.map (Value.int .i64))) : VS (w3.setCell ⟨bp, 0, none⟩ vp') ba bp bv base v vp' xs P' := by
  have l1 := h.la; have l2 := h.lp; have l3 := h.lv; have l4 := h.lb
  have hvb := own_from h.rp
  have hvl := own_lt h.rp
  have hv' := own_from ho
  have hpb := own_from h.ra
  have hgs := hg.size
  have n1 : ba ≠ bp := Blk.ne_ h.a h.p (by decide)
  have n2 : bp ≠ bv := Blk.ne_ h.p h.f (by decide)
  have hs : w3.grownBy (w3.setCell ⟨bp, 0, none⟩ vp') (some bp) := ⟨rfl, rfl, rfl, by simp [World.setCell], fun i hi hne => Below.heap_setCell w3 _ vp' i (fun e => hne (by rw [e]))⟩
  have ne : ∀ {g : Nat}, g < base → vp.ownBlock ≠ some g := fun hg' e => by have := hvb _ e; omega
  refine ⟨(hg.blk h.a (ne l1)).far (p := ⟨bp, 0, none⟩) n1 _, (hg.blk h.p (ne l2)).set_ 0 vp', (hg.blk h.f (ne l3)).far (p := ⟨bp, 0, none⟩) (fun e => n2 e.symm) _, l1, l2, l3, by simp [World.setCell]; omega, ?_, ?_, fun x hx => ?_, h.cap⟩
  · refine (owns_grows h.ra hg ?_).kept hs ?_
    · exact own_apart h.ra h.rp (by decide)
    · cases hq : v.ownBlock with
      | none => exact .inl rfl
      | some g => exact .inr (fun e => by injection e with e; have := hpb g hq; omega)
  · refine ho.kept hs ?_
    cases hq : vp'.ownBlock with
    | none => exact .inl rfl
    | some g => exact .inr (fun e => by injection e with e; have := hv' g hq; omega)
  · have key := h.each x hx
    have hbl : ∀ ad, x.A = some ad → 0 < x.l.length → ad.block < w2.heap.size := fun ad e hn => by
      obtain ⟨ad', e', hb, -⟩ := key.1.2 hn
      rw [e] at e'; injection e' with e'; subst e'; exact hb
    refine ⟨(key.1.keepS (S := fun b => base ≤ b ∧ b < w2.heap.size ∧ vp.ownBlock ≠ some b) (fun ad e hn => ⟨(key.2 ad e hn).1, hbl ad e hn, (key.2 ad e hn).2.2⟩) (fun p hp hp2 => ?_)).more (by simp [World.setCell]; omega), fun ad e hn => ⟨(key.2 ad e hn).1, (key.2 ad e hn).2.1, fun e2 => ?_⟩⟩
    · rw [World.cell?_setCell_other w3 _ p vp' (fun e => by have := hp.1; rw [← e] at this; have : base ≤ bp := this; omega), World.cell?_of_block (hg.grown.block p.block hp2 (fun e => hp.2.2 e.symm))]
    · rcases hg.own _ e2 with h1 | h1
      · exact (key.2 ad e hn).2.2 h1
      · have := hbl ad e hn; omega
theorem grows_below {u u' : Value} {T0 : Nat} (hg : Grows w w' u u') (h0 : T0 ≤ w.heap.size) (hu : ∀ g, u.ownBlock = some g → T0 ≤ g) : Below T0 w w' := hg.below h0 hu
end
end Go.Proofs.Ythaepakpeamajaa
