/-
  The search for a column in memory: its arrays, and what each of its loops makes. No condition.
-/
import Derived.Test.YtgmhinmakomabaaAsA
namespace Go.Proofs.Ytgmhinmakomabaa
open Go.RowKit
set_option linter.unusedVariables false

/-- the solver, and the three arrays of a search, which lie from block s on -/
structure Ax (w0 w : World) (B : Nat) (A : Option Addr) (n cc : Nat) (b : SB) (c : Nat → Nat → Int) (u v tf ow : Nat → Int) (s : Nat) (sl : Nat → Int) (fr : Nat → Nat) (d : Nat → Bool) : Prop where
  sv : Sv w B A n cc b c u v tf ow
  vs : IVec w s n sl
  vf : IVec w (s + 1) n (fun j => (fr j : Int))
  vd : BVec w (s + 1 + 1) n d
  sb : B ≤ s
  sx : ∀ x, b.has x → x < s
  s0 : w0.heap.size ≤ s
  chg : Chg w0 w (fun x => x = b.u ∨ x = b.v ∨ x = b.t ∨ x = b.o)
section
variable {w0 w : World} {B n cc s : Nat} {A : Option Addr} {b : SB} {c : Nat → Nat → Int} {u v tf ow sl u' v' sl' : Nat → Int} {fr fr' : Nat → Nat} {d d' : Nat → Bool}
theorem Ax.drewN (h : Ax w0 w B A n cc b c u v tf ow s sl fr d) (k : Nat) : Ax w0 (w.drewN k) B A n cc b c u v tf ow s sl fr d :=
  ⟨h.sv.drewN k, h.vs, h.vf, h.vd, h.sb, h.sx, h.s0, h.chg.drewN k⟩
theorem Ax.drew (h : Ax w0 w B A n cc b c u v tf ow s sl fr d) : Ax w0 w.drew B A n cc b c u v tf ow s sl fr d :=
  ⟨h.sv.drew, h.vs, h.vf, h.vd, h.sb, h.sx, h.s0, h.chg.drew⟩
theorem Ax.congr (h : Ax w0 w B A n cc b c u v tf ow s sl fr d) (hu : ∀ i, i < n → u' i = u i) (hv : ∀ i, i < n → v' i = v i) (hs : ∀ i, i < n → sl' i = sl i) (hf : ∀ i, i < n → fr' i = fr i) (hd : ∀ i, i < n → d' i = d i) : Ax w0 w B A n cc b c u' v' tf ow s sl' fr' d' :=
  ⟨h.sv.congr hu hv (fun _ _ => rfl) (fun _ _ => rfl), h.vs.congr hs, h.vf.congr (fun i hi => by rw [hf i hi]), h.vd.congr hd, h.sb, h.sx, h.s0, h.chg⟩
theorem Ax.nh (h : Ax w0 w B A n cc b c u v tf ow s sl fr d) {x : Nat} (hx : s ≤ x) : ¬ b.has x := fun e => by have := h.sx x e; omega
theorem Ax.ne (h : Ax w0 w B A n cc b c u v tf ow s sl fr d) {x y : Nat} (hx : b.has x) (hy : s ≤ y) : y ≠ x := fun e => by have := h.sx x hx; omega
theorem Ax.setS (h : Ax w0 w B A n cc b c u v tf ow s sl fr d) (i : Nat) (x : Int) : Ax w0 (w.setCell ⟨s, i, none⟩ (.int .i64 x)) B A n cc b c u v tf ow s (upd sl i x) fr d :=
  ⟨h.sv.far h.sb (h.nh (Nat.le_refl _)) _, h.vs.set_ i x, h.vf.far (by first | omega | (simp; done) | (simp; omega)) _, h.vd.far (by first | omega | (simp; done) | (simp; omega)) _, h.sb, h.sx, h.s0, h.chg.setCell (.inr h.s0) _⟩
theorem Ax.setF (h : Ax w0 w B A n cc b c u v tf ow s sl fr d) (i x : Nat) : Ax w0 (w.setCell ⟨s + 1, i, none⟩ (.int .i64 (x : Int))) B A n cc b c u v tf ow s sl (upd fr i x) d := by
  refine ⟨h.sv.far (Nat.le_trans h.sb (by first | omega | (simp; done) | (simp; omega))) (h.nh (by first | omega | (simp; done) | (simp; omega))) _, h.vs.far (by first | omega | (simp; done) | (simp; omega)) _, ?_, h.vd.far (by first | omega | (simp; done) | (simp; omega)) _, h.sb, h.sx, h.s0, h.chg.setCell (.inr (by have := h.s0; show _ ≤ s + 1; omega)) _⟩
  refine (h.vf.set_ i x).congr fun j _ => ?_
  unfold upd
  split <;> rfl
theorem Ax.setD (h : Ax w0 w B A n cc b c u v tf ow s sl fr d) (i : Nat) (x : Bool) : Ax w0 (w.setCell ⟨s + 1 + 1, i, none⟩ (.bool x)) B A n cc b c u v tf ow s sl fr (upd d i x) :=
  ⟨h.sv.far (Nat.le_trans h.sb (by first | omega | (simp; done) | (simp; omega))) (h.nh (by first | omega | (simp; done) | (simp; omega))) _, h.vs.far (by first | omega | (simp; done) | (simp; omega)) _, h.vf.far (by first | omega | (simp; done) | (simp; omega)) _, h.vd.set_ i x, h.sb, h.sx, h.s0, h.chg.setCell (.inr (by have := h.s0; show _ ≤ s + 1 + 1; omega)) _⟩
theorem Ax.setU (h : Ax w0 w B A n cc b c u v tf ow s sl fr d) (i : Nat) (x : Int) : Ax w0 (w.setCell ⟨b.u, i, none⟩ (.int .i64 x)) B A n cc b c (upd u i x) v tf ow s sl fr d :=
  ⟨h.sv.setU i x, h.vs.far (h.ne (.inr (.inl rfl)) (Nat.le_refl _)) _, h.vf.far (h.ne (.inr (.inl rfl)) (by first | omega | (simp; done) | (simp; omega))) _, h.vd.far (h.ne (.inr (.inl rfl)) (by first | omega | (simp; done) | (simp; omega))) _, h.sb, h.sx, h.s0, h.chg.setCell (.inl (.inl rfl)) _⟩
theorem Ax.setV (h : Ax w0 w B A n cc b c u v tf ow s sl fr d) (i : Nat) (x : Int) : Ax w0 (w.setCell ⟨b.v, i, none⟩ (.int .i64 x)) B A n cc b c u (upd v i x) tf ow s sl fr d :=
  ⟨h.sv.setV i x, h.vs.far (h.ne (.inr (.inr (.inl rfl))) (Nat.le_refl _)) _, h.vf.far (h.ne (.inr (.inr (.inl rfl))) (by first | omega | (simp; done) | (simp; omega))) _, h.vd.far (h.ne (.inr (.inr (.inl rfl))) (by first | omega | (simp; done) | (simp; omega))) _, h.sb, h.sx, h.s0, h.chg.setCell (.inl (.inr (.inl rfl))) _⟩
theorem Ax.start (h : Sv w B A n cc b c u v tf ow) (hB : B ≤ w.heap.size)
    : Ax w (((w.alloc (.cells (Array.replicate n (Value.int .i64 0)) 3)).alloc (.cells (Array.replicate n (Value.int .i64 0)) 3)).alloc (.cells (Array.replicate n (Value.bool false)) 4)) B A n cc b c u v tf ow w.heap.size (fun _ => 0) (fun _ => 0) (fun _ => false) := by
  refine ⟨((h.alloc hB _).alloc (by simp; omega) _).alloc (by simp; omega) _, ((Vec.new w _ n _).alloc _).alloc _, ?_, ?_, hB, h.lt, Nat.le_refl _, (((Chg.refl w _).alloc _).alloc _).alloc _⟩
  · have := (Vec.new (w.alloc (.cells (Array.replicate n (Value.int .i64 0)) 3)) 3 n (.int .i64 0)).alloc (.cells (Array.replicate n (Value.bool false)) 4)
    exact (by simpa using this : Vec _ (w.heap.size + 1) 3 n (fun _ => .int .i64 0))
  · have := Vec.new ((w.alloc (.cells (Array.replicate n (Value.int .i64 0)) 3)).alloc (.cells (Array.replicate n (Value.int .i64 0)) 3)) 4 n (.bool false)
    exact (by simpa using this : Vec _ (w.heap.size + 1 + 1) 4 n (fun _ => .bool false))
end

/-- how many columns are done, as memory has it -/
def dmem (w : World) (g n : Nat) : Nat := cnt (fun j => match w.cell? ⟨g, j, none⟩ with | some (.bool true) => true | _ => false) n
theorem dmem_eq {w : World} {g n : Nat} {d : Nat → Bool} (h : BVec w g n d) : dmem w g n = cnt d n := by
  refine cnt_congr fun x hx => ?_
  rw [h.at_ hx]
  cases d x <;> rfl

section
variable {n k m : Nat} {c : Nat → Nat → Int} {u v : Nat → Int} {to : Nat → Nat} {ow : Nat → Int} {d : Nat → Bool} {sl : Nat → Int} {fr ord : Nat → Nat} {D δ : Int}
/-- the arrays when the columns before j have been moved -/
def uJ (k : Nat) (to : Nat → Nat) (d : Nat → Bool) (u : Nat → Int) (δ : Int) (j i : Nat) : Int := u i + if i = k ∨ (i < k ∧ d (to i) = true ∧ to i < j) then δ else 0
def vJ (d : Nat → Bool) (v : Nat → Int) (δ : Int) (j x : Nat) : Int := v x - if x < j ∧ d x = true then δ else 0
def sJ (d : Nat → Bool) (sl : Nat → Int) (δ : Int) (j x : Nat) : Int := sl x - if x < j ∧ d x = false then δ else 0
theorem uJ_start (i : Nat) : uJ k to d u δ 0 i = upd u k (u k + δ) i := by
  unfold uJ
  by_cases e : i = k
  · subst e; rw [upd_same, if_pos (.inl rfl)]
  · rw [upd_ne _ _ e, if_neg (by omega)]; omega
theorem vJ_start (x : Nat) : vJ d v δ 0 x = v x := by unfold vJ; rw [if_neg (by omega)]; omega
theorem sJ_start (x : Nat) : sJ d sl δ 0 x = sl x := by unfold sJ; rw [if_neg (by omega)]; omega
theorem uJ_end (h : Gr n k c u v to ow d sl fr ord m D) (i : Nat) (hi : i < n) : uJ k to d u δ n i = u i + if Rch k to d i then δ else 0 := by
  unfold uJ
  by_cases e : Rch k to d i
  · rw [if_pos e, if_pos (e.imp id fun e => ⟨e.1, e.2, h.lt i e.1⟩)]
  · rw [if_neg e, if_neg (fun e' => e (e'.imp id fun e => ⟨e.1, e.2.1⟩))]
theorem vJ_end (x : Nat) (hx : x < n) : vJ d v δ n x = v x - if d x = true then δ else 0 := by
  unfold vJ
  by_cases e : d x = true
  · rw [if_pos e, if_pos ⟨hx, e⟩]
  · rw [if_neg e, if_neg (fun e' => e e'.2)]
theorem sJ_end (x : Nat) (hx : x < n) (hd : d x = false) : sJ d sl δ n x = sl x - δ := by
  unfold sJ
  rw [if_pos ⟨hx, hd⟩]
/-- column j is done: its row's number and its own are moved -/
theorem uJ_done (h : Gr n k c u v to ow d sl fr ord m D) {j r : Nat} (hj : j < n) (hd : d j = true) (hr : ow j = (r : Int)) : (r < k ∧ uJ k to d u δ j r = u r) ∧ ∀ i, uJ k to d u δ (j + 1) i = upd (uJ k to d u δ j) r (u r + δ) i := by
  obtain ⟨i', h1, h2, h3⟩ := (h.col j hj).resolve_left (h.dn j hj hd)
  obtain rfl : i' = r := by omega
  refine ⟨⟨h1, ?_⟩, fun i => ?_⟩
  · unfold uJ
    rw [if_neg (by omega)]; omega
  by_cases e : i = i'
  · subst e
    rw [upd_same]
    unfold uJ
    rw [if_pos (.inr ⟨h1, by rw [h3]; exact hd, by omega⟩)]
  · rw [upd_ne _ _ e]
    unfold uJ
    by_cases e2 : i = k ∨ i < k ∧ d (to i) = true ∧ to i < j
    · rw [if_pos e2, if_pos (e2.imp id fun e => ⟨e.1, e.2.1, by omega⟩)]
    · rw [if_neg e2, if_neg (fun e3 => e2 (e3.imp id fun e4 => ⟨e4.1, e4.2.1, by
      have hne : to i ≠ j := fun e5 => by
        have a := h.own i e4.1
        rw [e5, hr] at a
        omega
      omega⟩))]
theorem vJ_done {j : Nat} (hd : d j = true) (x : Nat) : vJ d v δ (j + 1) x = upd (vJ d v δ j) j (v j - δ) x := by
  by_cases e : x = j
  · subst e; rw [upd_same]; unfold vJ; rw [if_pos ⟨by omega, hd⟩]
  · rw [upd_ne _ _ e]
    unfold vJ
    by_cases e2 : x < j ∧ d x = true
    · rw [if_pos e2, if_pos ⟨by omega, e2.2⟩]
    · rw [if_neg e2, if_neg (fun e3 => e2 ⟨by omega, e3.2⟩)]
theorem vJ_at (j : Nat) : vJ d v δ j j = v j := by unfold vJ; rw [if_neg (by omega)]; omega
theorem sJ_at (j : Nat) : sJ d sl δ j j = sl j := by unfold sJ; rw [if_neg (by omega)]; omega
theorem sJ_done {j : Nat} (hd : d j = true) (x : Nat) : sJ d sl δ (j + 1) x = sJ d sl δ j x := by
  unfold sJ
  by_cases e2 : x < j ∧ d x = false
  · rw [if_pos e2, if_pos ⟨by omega, e2.2⟩]
  · rw [if_neg e2, if_neg (fun e3 => e2 ⟨by
      have : x ≠ j := fun e => by subst e; rw [hd] at e3; cases e3.2
      omega, e3.2⟩)]
theorem uJ_not {j : Nat} (hd : d j = false) (i : Nat) : uJ k to d u δ (j + 1) i = uJ k to d u δ j i := by
  unfold uJ
  by_cases e2 : i = k ∨ i < k ∧ d (to i) = true ∧ to i < j
  · rw [if_pos e2, if_pos (e2.imp id fun e => ⟨e.1, e.2.1, by omega⟩)]
  · rw [if_neg e2, if_neg (fun e3 => e2 (e3.imp id fun e4 => ⟨e4.1, e4.2.1, by
      have : to i ≠ j := fun e => by rw [e, hd] at e4; cases e4.2.1
      omega⟩))]
theorem vJ_not {j : Nat} (hd : d j = false) (x : Nat) : vJ d v δ (j + 1) x = vJ d v δ j x := by
  unfold vJ
  by_cases e2 : x < j ∧ d x = true
  · rw [if_pos e2, if_pos ⟨by omega, e2.2⟩]
  · rw [if_neg e2, if_neg (fun e3 => e2 ⟨by
      have : x ≠ j := fun e => by subst e; rw [hd] at e3; cases e3.2
      omega, e3.2⟩)]
theorem sJ_not {j : Nat} (hd : d j = false) (x : Nat) : sJ d sl δ (j + 1) x = upd (sJ d sl δ j) j (sl j - δ) x := by
  by_cases e : x = j
  · subst e; rw [upd_same]; unfold sJ; rw [if_pos ⟨by omega, hd⟩]
  · rw [upd_ne _ _ e]
    unfold sJ
    by_cases e2 : x < j ∧ d x = false
    · rw [if_pos e2, if_pos ⟨by omega, e2.2⟩]
    · rw [if_neg e2, if_neg (fun e3 => e2 ⟨by omega, e3.2⟩)]

/-- the distances when row r has been looked at, on the columns before j -/
def rS (d : Nat → Bool) (sl g : Nat → Int) (j x : Nat) : Int := if x < j ∧ d x = false ∧ g x < sl x then g x else sl x
def rF (d : Nat → Bool) (sl g : Nat → Int) (fr : Nat → Nat) (r j x : Nat) : Nat := if x < j ∧ d x = false ∧ g x < sl x then r else fr x
theorem rS_start (g : Nat → Int) (x : Nat) : rS d sl g 0 x = sl x := by unfold rS; rw [if_neg (by omega)]
theorem rF_start (g : Nat → Int) (r x : Nat) : rF d sl g fr r 0 x = fr x := by unfold rF; rw [if_neg (by omega)]
theorem rS_at (g : Nat → Int) (j : Nat) : rS d sl g j j = sl j := by unfold rS; rw [if_neg (by omega)]
theorem rS_take {g : Nat → Int} {j : Nat} (hd : d j = false) (hg : g j < sl j) (x : Nat) : rS d sl g (j + 1) x = upd (rS d sl g j) j (g j) x := by
  by_cases e : x = j
  · subst e; rw [upd_same]; unfold rS; rw [if_pos ⟨by omega, hd, hg⟩]
  · rw [upd_ne _ _ e]
    unfold rS
    by_cases e2 : x < j ∧ d x = false ∧ g x < sl x
    · rw [if_pos e2, if_pos ⟨by omega, e2.2⟩]
    · rw [if_neg e2, if_neg (fun e3 => e2 ⟨by omega, e3.2⟩)]
theorem rF_take {g : Nat → Int} {r j : Nat} (hd : d j = false) (hg : g j < sl j) (x : Nat) : rF d sl g fr r (j + 1) x = upd (rF d sl g fr r j) j r x := by
  by_cases e : x = j
  · subst e; rw [upd_same]; unfold rF; rw [if_pos ⟨by omega, hd, hg⟩]
  · rw [upd_ne _ _ e]
    unfold rF
    by_cases e2 : x < j ∧ d x = false ∧ g x < sl x
    · rw [if_pos e2, if_pos ⟨by omega, e2.2⟩]
    · rw [if_neg e2, if_neg (fun e3 => e2 ⟨by omega, e3.2⟩)]
theorem rS_skip {g : Nat → Int} {j : Nat} (hd : d j = true ∨ sl j ≤ g j) (x : Nat) : rS d sl g (j + 1) x = rS d sl g j x := by
  unfold rS
  by_cases e2 : x < j ∧ d x = false ∧ g x < sl x
  · rw [if_pos e2, if_pos ⟨by omega, e2.2⟩]
  · rw [if_neg e2, if_neg (fun e3 => e2 ⟨by
      have : x ≠ j := fun e => by
        subst e
        rcases hd with hd | hd
        · rw [hd] at e3; cases e3.2.1
        · have := e3.2.2; omega
      omega, e3.2⟩)]
theorem rF_skip {g : Nat → Int} {r j : Nat} (hd : d j = true ∨ sl j ≤ g j) (x : Nat) : rF d sl g fr r (j + 1) x = rF d sl g fr r j x := by
  unfold rF
  by_cases e2 : x < j ∧ d x = false ∧ g x < sl x
  · rw [if_pos e2, if_pos ⟨by omega, e2.2⟩]
  · rw [if_neg e2, if_neg (fun e3 => e2 ⟨by
      have : x ≠ j := fun e => by
        subst e
        rcases hd with hd | hd
        · rw [hd] at e3; cases e3.2.1
        · have := e3.2.2; omega
      omega, e3.2⟩)]
/-- a round of the search -/
theorem Gr.round (h : Gr n k c u v to ow d sl fr ord m D) {x : Nat} (hx : x < n) (hd : d x = false) (hmin : ∀ j, j < n → d j = false → sl x ≤ sl j) : Gr n k c (uJ k to d u (sl x) n) (vJ d v (sl x) n) to ow d (sJ d sl (sl x) n) fr ord m (D + sl x) ∧ sJ d sl (sl x) n x = 0 :=
  h.step hx hd hmin (fun i hi => uJ_end h i hi) (fun j hj => vJ_end j hj) (fun j hj hd => sJ_end j hj hd)
theorem Gr.relax (h : Gr n k c u v to ow d sl fr ord m D) {x r : Nat} (hx : x < n) (hd : d x = false) (h0 : sl x = 0) (hr : ow x = (r : Int)) :
    Gr n k c u v to ow (upd d x true) (rS (upd d x true) sl (fun j => c r j - u r - v j) n) (rF (upd d x true) sl (fun j => c r j - u r - v j) fr r n) (upd ord x m) (m + 1) D ∧ r < k ∧ to r = x := by
  refine h.more hx hd h0 hr (fun _ _ => rfl) (fun j hj hdj => ?_) (fun j hj hdj => ?_)
  · by_cases e : c r j - u r - v j < sl j
    · exact .inl ⟨e, by unfold rS; rw [if_pos ⟨hj, hdj, e⟩], by unfold rF; rw [if_pos ⟨hj, hdj, e⟩]⟩
    · exact .inr ⟨by omega, by unfold rS; rw [if_neg (fun e2 => e e2.2.2)], by unfold rF; rw [if_neg (fun e2 => e e2.2.2)]⟩
  · unfold rF; rw [if_neg (fun e2 => by rw [hdj] at e2; cases e2.2.1)]
end
end Go.Proofs.Ytgmhinmakomabaa
