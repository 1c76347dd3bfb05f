/-
  An assignment of one's own, whose numbers are changed. No condition.
-/
import Derived.Test.YtgmhinmakomabaaAsP
import Derived.Test.YtgmhinmakomabaaAsS
import Derived.Test.YtgmhinmakomabaaAsV
import Derived.Test.YtgmhinmakomabaaTail
namespace Go.Proofs.Ytgmhinmakomabaa
open Go.RowKit
set_option linter.unusedVariables false

/-- this world alone -/
structure Only (w : World) where
  it : World
  eq : it = w
instance (w : World) : Nonempty (Only w) := ⟨⟨w, rfl⟩⟩
section
variable {P : Program}
theorem region_tail_only {id : Nat} {Q : Exit → Act → World → Prop} {a : Act} {w : World} {l : List Oper} (n : Nat) (hm : P.follows .mixedOrders = true) (hB : Region.lexTailB .any l.toArray n = true) (w2 : World) (hw : w.drew = w2)
    (h : wpQuiet P l.toArray (fun w' => ∃ x : Only w2, w' = x.it) (fun a' => wpList P l.toArray Q (l.drop n) a' w2) (l.take n) a) : (Code.region id l.toArray true).wp P Q a w := by
  have e : (fun w' => ∃ x : Only w2, w' = x.it) = (fun w' => w' = w2) := funext fun w' => propext ⟨fun ⟨x, hx⟩ => hx.trans x.eq, fun h => ⟨⟨w', h⟩, rfl⟩⟩
  rw [e] at h
  exact region_tail n hm hB w2 hw h
theorem only_cell {w w2 : World} {p : Addr} {u : Value} (h : w.cell? p = some u) (hw : w.drew = w2) (x : Only w2) : x.it.cell? p = some u := by
  rw [x.eq, ← hw]; exact h
theorem only_call {w : World} {x : Only w} {f : FuncId} {args : Array Value} {v : Value} (h : Calls P f args x.it (fun e w' => e = .returned v ∧ x.it = w')) : Calls P f args x.it (fun e w'' => e = .returned v ∧ ∃ y : Only w, w'' = y.it) :=
  h.mono fun e w'' ⟨he, hb⟩ => ⟨he, x, hb.symm⟩
end
/-- an assignment of one's own in a box -/
structure VxSt (wm w : World) (A : Option Addr) (n : Nat) (m : List (List Int)) (bx bt bu bv o : Nat) (t u v : Nat → Int) (x0 y0 cost : Int) : Prop where
  bel : Below wm.heap.size wm w
  mat : Mat wm wm.heap.size A n m
  box : Blk w bx 27 #[.slice (some ⟨bt, 0, none⟩) n n, .int .i64 cost, .slice (some ⟨bu, o, none⟩) n n, .slice (some ⟨bv, o, none⟩) n n]
  t : IVec w bt n t
  u : IVec w bu (n + 1) (sh x0 u)
  v : IVec w bv (n + 1) (sh y0 v)
  ho : 0 < n → o = 1
  tu : bt ≠ bu
  tv : bt ≠ bv
  uv : bu ≠ bv
  lu : wm.heap.size ≤ bu
  lv : wm.heap.size ≤ bv
  lx : wm.heap.size ≤ bx
  few : n ≤ 9
section
variable {wm w w' : World} {A : Option Addr} {n : Nat} {m : List (List Int)} {bx bt bu bv o : Nat} {t u v : Nat → Int} {x0 y0 cost : Int}
theorem VxSt.below (h : VxSt wm w A n m bx bt bu bv o t u v x0 y0 cost) (hb : Below w.heap.size w w') : VxSt wm w' A n m bx bt bu bv o t u v x0 y0 cost :=
  ⟨h.bel.trans (hb.mono h.bel.size), h.mat, h.box.below hb h.box.lt, Vec.below h.t hb (Vec.lt h.t), Vec.below h.u hb (Vec.lt h.u), Vec.below h.v hb (Vec.lt h.v), h.ho, h.tu, h.tv, h.uv, h.lu, h.lv, h.lx, h.few⟩
theorem VxSt.drewN (h : VxSt wm w A n m bx bt bu bv o t u v x0 y0 cost) (k : Nat) : VxSt wm (w.drewN k) A n m bx bt bu bv o t u v x0 y0 cost := h.below (below_drewN (Below.refl _ _) k)
theorem VxSt.drew (h : VxSt wm w A n m bx bt bu bv o t u v x0 y0 cost) : VxSt wm w.drew A n m bx bt bu bv o t u v x0 y0 cost := h.drewN 1
theorem VxSt.xu (h : VxSt wm w A n m bx bt bu bv o t u v x0 y0 cost) : bx ≠ bu := Blk.ne_ h.box h.u (by decide)
theorem VxSt.xv (h : VxSt wm w A n m bx bt bu bv o t u v x0 y0 cost) : bx ≠ bv := Blk.ne_ h.box h.v (by decide)
theorem VxSt.xt (h : VxSt wm w A n m bx bt bu bv o t u v x0 y0 cost) : bx ≠ bt := Blk.ne_ h.box h.t (by decide)
theorem VxSt.setU (h : VxSt wm w A n m bx bt bu bv o t u v x0 y0 cost) {i : Nat} (hi : i < n) (z : Int) : VxSt wm (w.setCell ⟨bu, o + i, none⟩ (.int .i64 z)) A n m bx bt bu bv o t (upd u i z) v x0 y0 cost := by
  obtain rfl := h.ho (by omega)
  refine ⟨h.bel.setCell (p := ⟨bu, 1 + i, none⟩) h.lu _, h.mat, h.box.far (p := ⟨bu, 1 + i, none⟩) h.xu _, Vec.far h.t (p := ⟨bu, 1 + i, none⟩) h.tu _, ?_, Vec.far h.v (p := ⟨bu, 1 + i, none⟩) (fun e => h.uv e.symm) _, h.ho, h.tu, h.tv, h.uv, h.lu, h.lv, h.lx, h.few⟩
  have h1 := IVec.set_ h.u (1 + i) z
  rwa [Nat.add_comm 1 i, sh_upd, Nat.add_comm i 1] at h1
theorem VxSt.setV (h : VxSt wm w A n m bx bt bu bv o t u v x0 y0 cost) {i : Nat} (hi : i < n) (z : Int) : VxSt wm (w.setCell ⟨bv, o + i, none⟩ (.int .i64 z)) A n m bx bt bu bv o t u (upd v i z) x0 y0 cost := by
  obtain rfl := h.ho (by omega)
  refine ⟨h.bel.setCell (p := ⟨bv, 1 + i, none⟩) h.lv _, h.mat, h.box.far (p := ⟨bv, 1 + i, none⟩) h.xv _, Vec.far h.t (p := ⟨bv, 1 + i, none⟩) h.tv _, Vec.far h.u (p := ⟨bv, 1 + i, none⟩) h.uv _, ?_, h.ho, h.tu, h.tv, h.uv, h.lu, h.lv, h.lx, h.few⟩
  have h1 := IVec.set_ h.v (1 + i) z
  rwa [Nat.add_comm 1 i, sh_upd, Nat.add_comm i 1] at h1
theorem VxSt.setC (h : VxSt wm w A n m bx bt bu bv o t u v x0 y0 cost) (z : Int) : VxSt wm (w.setCell ⟨bx, 1, none⟩ (.int .i64 z)) A n m bx bt bu bv o t u v x0 y0 z := by
  refine ⟨h.bel.setCell (p := ⟨bx, 1, none⟩) h.lx _, h.mat, ?_, Vec.far h.t (p := ⟨bx, 1, none⟩) (fun e => h.xt e.symm) _, Vec.far h.u (p := ⟨bx, 1, none⟩) (fun e => h.xu e.symm) _, Vec.far h.v (p := ⟨bx, 1, none⟩) (fun e => h.xv e.symm) _, h.ho, h.tu, h.tv, h.uv, h.lu, h.lv, h.lx, h.few⟩
  exact h.box.set_ 1 (.int .i64 z)
theorem VxSt.cellU (h : VxSt wm w A n m bx bt bu bv o t u v x0 y0 cost) {i : Nat} (hi : i < n) : w.cell? ⟨bu, o + i, none⟩ = some (.int .i64 (u i)) := by
  obtain rfl := h.ho (by omega)
  have h2 : w.cell? ⟨bu, i + 1, none⟩ = some (.int .i64 (u i)) := IVec.at_ h.u (i := i + 1) (by omega)
  rwa [Nat.add_comm i 1] at h2
theorem VxSt.cellV (h : VxSt wm w A n m bx bt bu bv o t u v x0 y0 cost) {i : Nat} (hi : i < n) : w.cell? ⟨bv, o + i, none⟩ = some (.int .i64 (v i)) := by
  obtain rfl := h.ho (by omega)
  have h2 : w.cell? ⟨bv, i + 1, none⟩ = some (.int .i64 (v i)) := IVec.at_ h.v (i := i + 1) (by omega)
  rwa [Nat.add_comm i 1] at h2
theorem VxSt.asg (h : VxSt wm w A n m bx bt bu bv o t u v x0 y0 cost) : Asg w w.heap.size (some ⟨bt, 0, none⟩) n n t (some ⟨bu, o, none⟩) n n u (some ⟨bv, o, none⟩) n n v := by
  have hf := h.few
  exact ⟨IVec.fn h.t, fn_shift h.u h.ho, fn_shift h.v h.ho, Nat.le_refl _, Nat.le_refl _, by omega, by omega, by omega⟩
theorem VxSt.ver (h : VxSt wm w A n m bx bt bu bv o t u v x0 y0 cost) : Calls Try.prog 17 #[.slice A n n, .agg #[.slice (some ⟨bt, 0, none⟩) n n, .int .i64 cost, .slice (some ⟨bu, o, none⟩) n n, .slice (some ⟨bv, o, none⟩) n n]] w (VerPost w (verB m n n n t u v cost)) :=
  verify_any w A n n m _ n n t cost _ n n u _ n n v ((h.mat.below h.bel).more h.bel.size) h.asg
theorem VxSt.rver (h : VxSt wm w A n m bx bt bu bv o t u v x0 y0 cost) : Calls Try.prog 13 #[.slice A n n, .agg #[.slice (some ⟨bt, 0, none⟩) n n, .int .i64 cost, .slice (some ⟨bu, o, none⟩) n n, .slice (some ⟨bv, o, none⟩) n n]] w (VerPost w (verB m n n n t u v cost)) :=
  refVerify_any w A n n m _ n n t cost _ n n u _ n n v ((h.mat.below h.bel).more h.bel.size) h.asg (Nat.le_refl _)
theorem ver_fut {x : Fut w} {f : FuncId} {args : Array Value} {b : Bool} (h : Calls Try.prog f args x.to (VerPost x.to b)) : Calls Try.prog f args x.to (fun e w'' => e = .returned (.bool b) ∧ ∃ y : Fut w, w'' = y.to) := fut_call h
end
end Go.Proofs.Ytgmhinmakomabaa
