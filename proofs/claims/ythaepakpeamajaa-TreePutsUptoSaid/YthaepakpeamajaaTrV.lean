/-
  Paths, the program's. No condition.
-/
import Derived.Test.YthaepakpeamajaaTrU
namespace Go.Proofs.Ythaepakpeamajaa
open Go.RowKit
set_option linter.unusedVariables false

/-- a list of paths that can be read -/
def PR (w : World) (A : Option Addr) (xs : List PX) : Prop := Reads w w.heap.size 1 A xs.length (xs.map PX.head) ∧ ∀ x ∈ xs, Reads w w.heap.size 1 x.A x.l.length (x.l.map (Value.int .i64))
theorem PR.up {w w' : World} {A : Option Addr} {xs : List PX} (h : PR w A xs) (hb : Below w.heap.size w w') : PR w' A xs :=
  ⟨(h.1.below hb).more hb.size, fun x hx => ((h.2 x hx).below hb).more hb.size⟩
/-- the paths, each of which has room for itself -/
def PathsPostC (w : World) (L : List (List Int)) (e : Ending) (w' : World) : Prop := ∃ A c xs, e = .returned (.slice A xs.length c) ∧ PR w' A xs ∧ xs.map PX.l = L ∧ Below w.heap.size w w' ∧ ∀ x ∈ xs, x.l.length ≤ x.c
def PathsPost (w : World) (L : List (List Int)) (e : Ending) (w' : World) : Prop := ∃ A c xs, e = .returned (.slice A xs.length c) ∧ PR w' A xs ∧ xs.map PX.l = L ∧ Below w.heap.size w w'

set_option maxRecDepth 100000 in
set_option maxHeartbeats 1600000 in
theorem paths_anyC (t : TX) (w : World) (h : Tr w w.heap.size t) (hs : t.plain.size ≤ 1000000) : Calls Try.prog 26 #[t.val] w (PathsPostC w (t.plain.paths [])) := by
  unfold TX.val
  obtain ⟨W, hW⟩ : ∃ W, (((w.alloc (.cells #[.int .i64 t.kind, .string t.text, .slice t.lA t.leads.length t.lc, .slice t.kA t.kids.length t.kc] 25)).alloc (.cells #[.slice none 0 0] 38)).alloc (.cells #[.slice none 0 0] 26)).alloc (.cells #[.func (.func 35) #[] #[.pointer (some ⟨w.heap.size + 1, 0, none⟩), .pointer (some ⟨w.heap.size + 1 + 1, 0, none⟩), .pointer (some ⟨w.heap.size + 1 + 1 + 1, 0, none⟩)]] 46) = W := ⟨_, rfl⟩
  have HBW : Hid (Below w.heap.size w W) := by subst hW; exact ((((Below.refl _ w).alloc (Nat.le_refl _) _).alloc (by simp) _).alloc (by simp; omega) _).alloc (by simp; omega) _
  have HV : Hid (VS W (w.heap.size + 1) (w.heap.size + 1 + 1) (w.heap.size + 1 + 1 + 1) (w.heap.size + 1 + 1 + 1 + 1) (.slice none 0 0) (.slice none 0 0) [] []) := by
    subst hW
    exact ⟨((Blk.new' 38 _ (by simp)).alloc _).alloc _, (Blk.new' 26 _ (by simp)).alloc _, Blk.new' 46 _ (by simp), by omega, by omega, by omega, by simp, ⟨rfl, .inl ⟨rfl, rfl⟩⟩, ⟨rfl, .inl ⟨rfl, rfl⟩⟩, (fun x hx => by cases hx), (fun x hx => by cases hx)⟩
  have HC := Lib.hid (visit_any t W w.heap.size _ _ _ _ _ _ _ _ HV.out (h.low HBW.out) (by omega) (by omega) (by omega) (by simpa using hs) (by simpa using hs))
  unfold TX.val at HC
  have HX : Hid (Blk W w.heap.size 25 t.arr) := by subst hW; exact (((Blk.new w 25 _).alloc _).alloc _).alloc _
  have q0 := HV.out.f.cell 0
  unfold visitF at q0
  simp at q0
  have d0 := HX.out.cell 0
  have d1 := HX.out.cell 1
  have d2 := HX.out.cell 2
  have d3 := HX.out.cell 3
  simp [TX.arr] at d0 d1 d2 d3
  clear h
  go_enter Try.func26, Try.ntmps26
  go_wp2_with fail
  refine (HC.out).mono ?_
  rintro e w1 ⟨rfl, v', vp', ys, hv, hy, hb⟩
  obtain ⟨A, c, rfl, hr, -⟩ := reads_of_owns hv.ra
  have k0 := hv.a.cell 0
  simp at k0
  have HP : Hid (PathsPostC w (t.plain.paths []) (.returned (.slice A ys.length c)) w1) := ⟨A, c, ys, rfl, ⟨hr, fun x hx => (hv.each x hx).1⟩, hy, HBW.out.trans hb, hv.cap⟩
  clear hv hy hb hr
  go_wp2_with fail
  go_ret
  exact HP.out
theorem paths_any (t : TX) (w : World) (h : Tr w w.heap.size t) (hs : t.plain.size ≤ 1000000) : Calls Try.prog 26 #[t.val] w (PathsPost w (t.plain.paths [])) :=
  (paths_anyC t w h hs).mono fun _ _ ⟨A, c, xs, h1, h2, h3, h4, _⟩ => ⟨A, c, xs, h1, h2, h3, h4⟩
end Go.Proofs.Ythaepakpeamajaa
