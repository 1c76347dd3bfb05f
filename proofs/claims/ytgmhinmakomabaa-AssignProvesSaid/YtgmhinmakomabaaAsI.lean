/-
  The reference's search for a least-cost assignment: its arrays. No condition.
-/
import Derived.Test.YtgmhinmakomabaaAsB
namespace Go.Proofs.Ytgmhinmakomabaa
open Go.RowKit
set_option linter.unusedVariables false

/-- an array with a cell ahead -/
def sh {α : Type} (x : α) (f : Nat → α) : Nat → α
  | 0 => x
  | i + 1 => f i
theorem sh_upd0 {α : Type} (x y : α) (f : Nat → α) : upd (sh x f) 0 y = sh y f := by
  funext i
  cases i <;> simp [upd, sh]
theorem sh_upd {α : Type} (x y : α) (f : Nat → α) (i : Nat) : upd (sh x f) (i + 1) y = sh x (upd f i y) := by
  funext j
  cases j <;> simp [upd, sh]
theorem sh_congr {α : Type} {x : α} {f g : Nat → α} {n : Nat} (h : ∀ i, i < n → f i = g i) : ∀ i, i < n + 1 → sh x f i = sh x g i := fun i hi => by
  cases i with
  | zero => rfl
  | succ i => exact h i (by omega)

/-- the blocks of the search -/
structure HB where
  u : Nat
  v : Nat
  r : Nat
structure HB.ok (b : HB) (B : Nat) : Prop where
  u : B ≤ b.u
  v : B ≤ b.v
  r : B ≤ b.r
  uv : b.u ≠ b.v
  ur : b.u ≠ b.r
  vr : b.v ≠ b.r
/-- dual numbers and rows of columns in memory; row 0's number is x0, column 0's y0, column 0's row r0 -/
structure HX (w0 w : World) (A : Option Addr) (n cc : Nat) (b : HB) (c : Nat → Nat → Int) (u v ow : Nat → Int) (x0 y0 r0 : Int) : Prop where
  sq : Sq w w0.heap.size A n c
  vu : IVec w b.u (n + 1) (sh x0 u)
  vv : IVec w b.v (n + 1) (sh y0 v)
  vr : IVec w b.r (n + 1) (sh r0 fun j => ow j + 1)
  ok : b.ok w0.heap.size
  n40 : n ≤ 40
  bel : Below w0.heap.size w0 w
/-- .. and the arrays of one search, from block s on: way, least, used -/
structure HP (w0 w : World) (A : Option Addr) (n cc : Nat) (b : HB) (c : Nat → Nat → Int) (u v ow : Nat → Int) (x0 y0 r0 : Int) (s : Nat) (wy : Nat → Nat) (l0 : Int) (sl : Nat → Int) (s0 : Bool) (d : Nat → Bool) : Prop where
  hx : HX w0 w A n cc b c u v ow x0 y0 r0
  vw : IVec w s (n + 1) (fun i => ((sh 0 wy i : Nat) : Int))
  vl : IVec w (s + 1) (n + 1) (sh l0 sl)
  vs : BVec w (s + 1 + 1) (n + 1) (sh s0 d)
  su : b.u < s
  sv : b.v < s
  sr : b.r < s
  sB : w0.heap.size ≤ s
section
variable {w0 w : World} {n cc s : Nat} {A : Option Addr} {b : HB} {c : Nat → Nat → Int} {u v ow sl u' v' ow' sl' : Nat → Int} {x0 y0 r0 l0 : Int} {s0 : Bool} {wy wy' : Nat → Nat} {d d' : Nat → Bool}
theorem HX.drewN (h : HX w0 w A n cc b c u v ow x0 y0 r0) (k : Nat) : HX w0 (w.drewN k) A n cc b c u v ow x0 y0 r0 := ⟨h.sq, h.vu, h.vv, h.vr, h.ok, h.n40, below_drewN h.bel k⟩
theorem HX.alloc (h : HX w0 w A n cc b c u v ow x0 y0 r0) (o : Obj) : HX w0 (w.alloc o) A n cc b c u v ow x0 y0 r0 := ⟨h.sq.alloc h.bel.size o, h.vu.alloc o, h.vv.alloc o, h.vr.alloc o, h.ok, h.n40, h.bel.alloc h.bel.size o⟩
theorem HX.congr (h : HX w0 w A n cc b c u v ow x0 y0 r0) (hu : ∀ i, i < n → u' i = u i) (hv : ∀ i, i < n → v' i = v i) (ho : ∀ i, i < n → ow' i = ow i) : HX w0 w A n cc b c u' v' ow' x0 y0 r0 :=
  ⟨h.sq, h.vu.congr (sh_congr hu), h.vv.congr (sh_congr hv), h.vr.congr (sh_congr fun i hi => by rw [ho i hi]), h.ok, h.n40, h.bel⟩
theorem HX.far (h : HX w0 w A n cc b c u v ow x0 y0 r0) {p : Addr} (hB : w0.heap.size ≤ p.block) (hu : b.u ≠ p.block) (hv : b.v ≠ p.block) (hr : b.r ≠ p.block) (x : Value) : HX w0 (w.setCell p x) A n cc b c u v ow x0 y0 r0 :=
  ⟨h.sq.setCell hB x, h.vu.far hu x, h.vv.far hv x, h.vr.far hr x, h.ok, h.n40, h.bel.setCell hB x⟩
theorem HX.setU (h : HX w0 w A n cc b c u v ow x0 y0 r0) (i : Nat) (x : Int) : HX w0 (w.setCell ⟨b.u, i + 1, none⟩ (.int .i64 x)) A n cc b c (upd u i x) v ow x0 y0 r0 :=
  ⟨h.sq.setCell h.ok.u _, by have := h.vu.set_ (i + 1) x; rwa [sh_upd] at this, h.vv.far h.ok.uv.symm _, h.vr.far h.ok.ur.symm _, h.ok, h.n40, h.bel.setCell h.ok.u _⟩
theorem HX.setV (h : HX w0 w A n cc b c u v ow x0 y0 r0) (i : Nat) (x : Int) : HX w0 (w.setCell ⟨b.v, i + 1, none⟩ (.int .i64 x)) A n cc b c u (upd v i x) ow x0 y0 r0 :=
  ⟨h.sq.setCell h.ok.v _, h.vu.far h.ok.uv _, by have := h.vv.set_ (i + 1) x; rwa [sh_upd] at this, h.vr.far h.ok.vr.symm _, h.ok, h.n40, h.bel.setCell h.ok.v _⟩
theorem HX.setV0 (h : HX w0 w A n cc b c u v ow x0 y0 r0) (x : Int) : HX w0 (w.setCell ⟨b.v, 0, none⟩ (.int .i64 x)) A n cc b c u v ow x0 x r0 :=
  ⟨h.sq.setCell h.ok.v _, h.vu.far h.ok.uv _, by have := h.vv.set_ 0 x; rwa [sh_upd0] at this, h.vr.far h.ok.vr.symm _, h.ok, h.n40, h.bel.setCell h.ok.v _⟩
theorem HX.setR (h : HX w0 w A n cc b c u v ow x0 y0 r0) (i : Nat) (x : Int) : HX w0 (w.setCell ⟨b.r, i + 1, none⟩ (.int .i64 (x + 1))) A n cc b c u v (upd ow i x) x0 y0 r0 := by
  refine ⟨h.sq.setCell h.ok.r _, h.vu.far h.ok.ur _, h.vv.far h.ok.vr _, ?_, h.ok, h.n40, h.bel.setCell h.ok.r _⟩
  have := h.vr.set_ (i + 1) (x + 1)
  rw [sh_upd] at this
  refine this.congr (sh_congr fun j _ => ?_)
  by_cases e : j = i
  · subst e; rw [upd_same, upd_same]
  · rw [upd_ne _ _ e, upd_ne _ _ e]
theorem HX.setR0 (h : HX w0 w A n cc b c u v ow x0 y0 r0) (x : Int) : HX w0 (w.setCell ⟨b.r, 0, none⟩ (.int .i64 x)) A n cc b c u v ow x0 y0 x :=
  ⟨h.sq.setCell h.ok.r _, h.vu.far h.ok.ur _, h.vv.far h.ok.vr _, by have := h.vr.set_ 0 x; rwa [sh_upd0] at this, h.ok, h.n40, h.bel.setCell h.ok.r _⟩

theorem HP.drewN (h : HP w0 w A n cc b c u v ow x0 y0 r0 s wy l0 sl s0 d) (k : Nat) : HP w0 (w.drewN k) A n cc b c u v ow x0 y0 r0 s wy l0 sl s0 d := ⟨h.hx.drewN k, h.vw, h.vl, h.vs, h.su, h.sv, h.sr, h.sB⟩
theorem HP.congr (h : HP w0 w A n cc b c u v ow x0 y0 r0 s wy l0 sl s0 d) (hu : ∀ i, i < n → u' i = u i) (hv : ∀ i, i < n → v' i = v i) (ho : ∀ i, i < n → ow' i = ow i) (hw : ∀ i, i < n → wy' i = wy i) (hs : ∀ i, i < n → sl' i = sl i) (hd : ∀ i, i < n → d' i = d i) :
    HP w0 w A n cc b c u' v' ow' x0 y0 r0 s wy' l0 sl' s0 d' :=
  ⟨h.hx.congr hu hv ho, h.vw.congr fun i hi => by rw [sh_congr hw i hi], h.vl.congr (sh_congr hs), h.vs.congr (sh_congr hd), h.su, h.sv, h.sr, h.sB⟩
theorem HP.setU (h : HP w0 w A n cc b c u v ow x0 y0 r0 s wy l0 sl s0 d) (i : Nat) (x : Int) : HP w0 (w.setCell ⟨b.u, i + 1, none⟩ (.int .i64 x)) A n cc b c (upd u i x) v ow x0 y0 r0 s wy l0 sl s0 d := by
  have := h.su
  exact ⟨h.hx.setU i x, h.vw.far (by show s ≠ b.u; omega) _, h.vl.far (by show s + 1 ≠ b.u; omega) _, h.vs.far (by show s + 1 + 1 ≠ b.u; omega) _, h.su, h.sv, h.sr, h.sB⟩
theorem HP.setV (h : HP w0 w A n cc b c u v ow x0 y0 r0 s wy l0 sl s0 d) (i : Nat) (x : Int) : HP w0 (w.setCell ⟨b.v, i + 1, none⟩ (.int .i64 x)) A n cc b c u (upd v i x) ow x0 y0 r0 s wy l0 sl s0 d := by
  have := h.sv
  exact ⟨h.hx.setV i x, h.vw.far (by show s ≠ b.v; omega) _, h.vl.far (by show s + 1 ≠ b.v; omega) _, h.vs.far (by show s + 1 + 1 ≠ b.v; omega) _, h.su, h.sv, h.sr, h.sB⟩
theorem HP.setV0 (h : HP w0 w A n cc b c u v ow x0 y0 r0 s wy l0 sl s0 d) (x : Int) : HP w0 (w.setCell ⟨b.v, 0, none⟩ (.int .i64 x)) A n cc b c u v ow x0 x r0 s wy l0 sl s0 d := by
  have := h.sv
  exact ⟨h.hx.setV0 x, h.vw.far (by show s ≠ b.v; omega) _, h.vl.far (by show s + 1 ≠ b.v; omega) _, h.vs.far (by show s + 1 + 1 ≠ b.v; omega) _, h.su, h.sv, h.sr, h.sB⟩
theorem HP.setR (h : HP w0 w A n cc b c u v ow x0 y0 r0 s wy l0 sl s0 d) (i : Nat) (x : Int) : HP w0 (w.setCell ⟨b.r, i + 1, none⟩ (.int .i64 (x + 1))) A n cc b c u v (upd ow i x) x0 y0 r0 s wy l0 sl s0 d := by
  have := h.sr
  exact ⟨h.hx.setR i x, h.vw.far (by show s ≠ b.r; omega) _, h.vl.far (by show s + 1 ≠ b.r; omega) _, h.vs.far (by show s + 1 + 1 ≠ b.r; omega) _, h.su, h.sv, h.sr, h.sB⟩
theorem HP.setR0 (h : HP w0 w A n cc b c u v ow x0 y0 r0 s wy l0 sl s0 d) (x : Int) : HP w0 (w.setCell ⟨b.r, 0, none⟩ (.int .i64 x)) A n cc b c u v ow x0 y0 x s wy l0 sl s0 d := by
  have := h.sr
  exact ⟨h.hx.setR0 x, h.vw.far (by show s ≠ b.r; omega) _, h.vl.far (by show s + 1 ≠ b.r; omega) _, h.vs.far (by show s + 1 + 1 ≠ b.r; omega) _, h.su, h.sv, h.sr, h.sB⟩
theorem HP.setW (h : HP w0 w A n cc b c u v ow x0 y0 r0 s wy l0 sl s0 d) (i x : Nat) : HP w0 (w.setCell ⟨s, i + 1, none⟩ (.int .i64 (x : Int))) A n cc b c u v ow x0 y0 r0 s (upd wy i x) l0 sl s0 d := by
  have h1 := h.su
  have h2 := h.sv
  have h3 := h.sr
  have h4 := h.sB
  refine ⟨h.hx.far h4 (by show b.u ≠ s; omega) (by show b.v ≠ s; omega) (by show b.r ≠ s; omega) _, ?_, h.vl.far (by show s + 1 ≠ s; omega) _, h.vs.far (by show s + 1 + 1 ≠ s; omega) _, h.su, h.sv, h.sr, h.sB⟩
  refine (h.vw.set_ (i + 1) x).congr fun j _ => ?_
  cases j with
  | zero => simp [upd, sh]
  | succ j =>
    by_cases e : j = i
    · subst e; simp [upd, sh]
    · simp [upd, sh, e]
theorem HP.setL (h : HP w0 w A n cc b c u v ow x0 y0 r0 s wy l0 sl s0 d) (i : Nat) (x : Int) : HP w0 (w.setCell ⟨s + 1, i + 1, none⟩ (.int .i64 x)) A n cc b c u v ow x0 y0 r0 s wy l0 (upd sl i x) s0 d := by
  have h1 := h.su
  have h2 := h.sv
  have h3 := h.sr
  have h4 := h.sB
  refine ⟨h.hx.far (by show _ ≤ s + 1; omega) (by show b.u ≠ s + 1; omega) (by show b.v ≠ s + 1; omega) (by show b.r ≠ s + 1; omega) _, h.vw.far (by show s ≠ s + 1; omega) _, ?_, h.vs.far (by show s + 1 + 1 ≠ s + 1; omega) _, h.su, h.sv, h.sr, h.sB⟩
  have := h.vl.set_ (i + 1) x
  rwa [sh_upd] at this
theorem HP.setL0 (h : HP w0 w A n cc b c u v ow x0 y0 r0 s wy l0 sl s0 d) (x : Int) : HP w0 (w.setCell ⟨s + 1, 0, none⟩ (.int .i64 x)) A n cc b c u v ow x0 y0 r0 s wy x sl s0 d := by
  have h1 := h.su
  have h2 := h.sv
  have h3 := h.sr
  have h4 := h.sB
  refine ⟨h.hx.far (by show _ ≤ s + 1; omega) (by show b.u ≠ s + 1; omega) (by show b.v ≠ s + 1; omega) (by show b.r ≠ s + 1; omega) _, h.vw.far (by show s ≠ s + 1; omega) _, ?_, h.vs.far (by show s + 1 + 1 ≠ s + 1; omega) _, h.su, h.sv, h.sr, h.sB⟩
  have := h.vl.set_ 0 x
  rwa [sh_upd0] at this
theorem HP.setS (h : HP w0 w A n cc b c u v ow x0 y0 r0 s wy l0 sl s0 d) (i : Nat) (x : Bool) : HP w0 (w.setCell ⟨s + 1 + 1, i + 1, none⟩ (.bool x)) A n cc b c u v ow x0 y0 r0 s wy l0 sl s0 (upd d i x) := by
  have h1 := h.su
  have h2 := h.sv
  have h3 := h.sr
  have h4 := h.sB
  refine ⟨h.hx.far (by show _ ≤ s + 1 + 1; omega) (by show b.u ≠ s + 1 + 1; omega) (by show b.v ≠ s + 1 + 1; omega) (by show b.r ≠ s + 1 + 1; omega) _, h.vw.far (by show s ≠ s + 1 + 1; omega) _, h.vl.far (by show s + 1 ≠ s + 1 + 1; omega) _, ?_, h.su, h.sv, h.sr, h.sB⟩
  have := h.vs.set_ (i + 1) x
  rwa [sh_upd] at this
theorem HP.setS0 (h : HP w0 w A n cc b c u v ow x0 y0 r0 s wy l0 sl s0 d) (x : Bool) : HP w0 (w.setCell ⟨s + 1 + 1, 0, none⟩ (.bool x)) A n cc b c u v ow x0 y0 r0 s wy l0 sl x d := by
  have h1 := h.su
  have h2 := h.sv
  have h3 := h.sr
  have h4 := h.sB
  refine ⟨h.hx.far (by show _ ≤ s + 1 + 1; omega) (by show b.u ≠ s + 1 + 1; omega) (by show b.v ≠ s + 1 + 1; omega) (by show b.r ≠ s + 1 + 1; omega) _, h.vw.far (by show s ≠ s + 1 + 1; omega) _, h.vl.far (by show s + 1 ≠ s + 1 + 1; omega) _, ?_, h.su, h.sv, h.sr, h.sB⟩
  have := h.vs.set_ 0 x
  rwa [sh_upd0] at this
theorem HP.start (h : HX w0 w A n cc b c u v ow x0 y0 r0) : HP w0 (((w.alloc (.cells (Array.replicate (n + 1) (Value.int .i64 0)) 3)).alloc (.cells (Array.replicate (n + 1) (Value.int .i64 0)) 3)).alloc (.cells (Array.replicate (n + 1) (Value.bool false)) 4)) A n cc b c u v ow x0 y0 r0 w.heap.size (fun _ => 0) 0 (fun _ => 0) false (fun _ => false) := by
  refine ⟨((h.alloc _).alloc _).alloc _, (((Vec.new w _ (n + 1) _).alloc _).alloc _).congr (fun i _ => by cases i <;> rfl), ?_, ?_, Vec.lt h.vu, Vec.lt h.vv, Vec.lt h.vr, h.bel.size⟩
  · have := (Vec.new (w.alloc (.cells (Array.replicate (n + 1) (Value.int .i64 0)) 3)) 3 (n + 1) (.int .i64 0)).alloc (.cells (Array.replicate (n + 1) (Value.bool false)) 4)
    refine Vec.congr (by simpa using this : Vec _ (w.heap.size + 1) 3 (n + 1) (fun _ => .int .i64 0)) fun i _ => by cases i <;> rfl
  · have := Vec.new ((w.alloc (.cells (Array.replicate (n + 1) (Value.int .i64 0)) 3)).alloc (.cells (Array.replicate (n + 1) (Value.int .i64 0)) 3)) 4 (n + 1) (.bool false)
    refine Vec.congr (by simpa using this : Vec _ (w.heap.size + 1 + 1) 4 (n + 1) (fun _ => .bool false)) fun i _ => by cases i <;> rfl
end

/-- what the reference's ways say of the rows -/
def WayOk (n k : Nat) (ow : Nat → Int) (wy fr : Nat → Nat) : Prop := ∀ j, j < n → (wy j = 0 ∧ fr j = k) ∨ ∃ p, wy j = p + 1 ∧ p < n ∧ ow p = (fr j : Int)
section
variable {n k m : Nat} {c : Nat → Nat → Int} {u v : Nat → Int} {to : Nat → Nat} {ow : Nat → Int} {d : Nat → Bool} {sl : Nat → Int} {fr ord wy : Nat → Nat} {D : Int}
/-- what stands behind the first row's look -/
theorem Ph.relax (h : Ph n k c u v to ow) (hk : k < n) (hn : n ≤ 1000) (hc : CB n c) (ord : Nat → Nat) :
    Gr n k c u v to ow (fun _ => false) (rS (fun _ => false) (fun _ => 1125899906842624) (fun j => c k j - u k - v j) n) (fun _ => k) ord 0 0 ∧ WayOk n k ow (rF (fun _ => false) (fun _ => 1125899906842624) (fun j => c k j - u k - v j) (fun _ => 0) 0 n) (fun _ => k) := by
  have hb : ∀ j, j < n → c k j - u k - v j < 1125899906842624 := fun j hj => by
    have h1 := hc k j hk hj
    have h2 := h.ub hc hk
    have h3 := h.vle j hj
    have h4 := h.kn
    omega
  refine ⟨h.enter hk hc (fun _ _ => rfl) (fun j hj => ?_) (fun _ _ => rfl) ord, fun j hj => .inl ⟨?_, rfl⟩⟩
  · unfold rS; rw [if_pos ⟨hj, rfl, hb j hj⟩]
  · unfold rF; split <;> rfl
theorem WayOk.relax (h : WayOk n k ow wy fr) {x r : Nat} (hx : x < n) (hr : ow x = (r : Int)) (d' : Nat → Bool) (g : Nat → Int) : WayOk n k ow (rF d' sl g wy (x + 1) n) (rF d' sl g fr r n) := fun j hj => by
  unfold rF
  by_cases e : j < n ∧ d' j = false ∧ g j < sl j
  · rw [if_pos e, if_pos e]
    exact .inr ⟨x, rfl, hx, hr⟩
  · rw [if_neg e, if_neg e]
    exact h j hj
/-- the nearest column so far -/
def Arg2 (S : Nat → Int) (d : Nat → Bool) (q : Nat) (dl : Int) (nx : Nat) : Prop := (nx = 0 ∧ dl = 1125899906842624 ∧ ∀ i, i < q → d i = true) ∨ ∃ x : Nat, nx = x + 1 ∧ x < q ∧ d x = false ∧ dl = S x ∧ ∀ i, i < q → d i = false → S x ≤ S i
theorem Arg2.start (S : Nat → Int) (d : Nat → Bool) : Arg2 S d 0 1125899906842624 0 := .inl ⟨rfl, rfl, fun i hi => absurd hi (by omega)⟩
theorem Arg2.done {S : Nat → Int} {q nx : Nat} {dl : Int} (h : Arg2 S d q dl nx) (hd : d q = true) : Arg2 S d (q + 1) dl nx := by
  rcases h with ⟨e1, e2, e3⟩ | ⟨x, e1, e2, e3, e4, e5⟩
  · exact .inl ⟨e1, e2, fun i hi => by
      rcases Nat.lt_or_ge i q with h | h
      · exact e3 i h
      · obtain rfl : i = q := by omega
        exact hd⟩
  · exact .inr ⟨x, e1, by omega, e3, e4, fun i hi hdi => by
      rcases Nat.lt_or_ge i q with h | h
      · exact e5 i h hdi
      · obtain rfl : i = q := by omega
        rw [hd] at hdi; cases hdi⟩
theorem Arg2.less {S : Nat → Int} {q nx : Nat} {dl : Int} (h : Arg2 S d q dl nx) (hd : d q = false) (hlt : S q < dl) : Arg2 S d (q + 1) (S q) (q + 1) := by
  refine .inr ⟨q, rfl, by omega, hd, rfl, fun i hi hdi => ?_⟩
  rcases Nat.lt_or_ge i q with h1 | h1
  · rcases h with ⟨e1, e2, e3⟩ | ⟨x, e1, e2, e3, e4, e5⟩
    · rw [e3 i h1] at hdi; cases hdi
    · have := e5 i h1 hdi; omega
  · obtain rfl : i = q := by omega
    exact Int.le_refl _
theorem Arg2.not {S : Nat → Int} {q nx : Nat} {dl : Int} (h : Arg2 S d q dl nx) (hd : d q = false) (hf : S q < 1125899906842624) (hlt : dl ≤ S q) : Arg2 S d (q + 1) dl nx := by
  rcases h with ⟨e1, e2, e3⟩ | ⟨x, e1, e2, e3, e4, e5⟩
  · omega
  · exact .inr ⟨x, e1, by omega, e3, e4, fun i hi hdi => by
      rcases Nat.lt_or_ge i q with h | h
      · exact e5 i h hdi
      · obtain rfl : i = q := by omega
        omega⟩
end
end Go.Proofs.Ytgmhinmakomabaa
