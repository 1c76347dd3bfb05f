/-
  Commits as data: a slice of commits that came in. No condition.
-/
import Derived.Test.YtnnclopojiegfaaRefD
import Derived.Test.YtnnclopojiegfaaShape
namespace Go.Proofs.Ytnnclopojiegfaa
open Go.ChangeShapes Go.WideShapes Go.ChangeAt Go.RowKit Go.Deep
set_option linter.unusedVariables false

/-- a commit as it lies in memory -/
structure CX where
  c : WCommit
  A1 : Option Addr
  c1 : Nat
  A2 : Option Addr
  c2 : Nat
  A3 : Option Addr
  c3 : Nat
instance : Inhabited CX := ⟨⟨zeroCommit, none, 0, none, 0, none, 0⟩⟩
instance : Inhabited WCell := ⟨⟨0, 0, 0, false, ByteArray.empty, 0⟩⟩
def ccell (x : CX) : List Value := [.int .i64 x.c.stamp, .slice x.A1 x.c.parents.length x.c1, .slice x.A2 x.c.picks.length x.c2, .string x.c.note, .slice x.A3 x.c.writes.length x.c3]
structure GoodC (w : World) (x : CX) : Prop where
  ok : x.c.ok
  r1 : Reads w w.heap.size 1 x.A1 x.c.parents.length (x.c.parents.map (Value.int .i64))
  r2 : Reads w w.heap.size 1 x.A2 x.c.picks.length (x.c.picks.map (Value.int .i64))
  r3 : Reads w w.heap.size 6 x.A3 x.c.writes.length (x.c.writes.flatMap WCell.vals)
  l1 : x.c.parents.length ≤ 140737488351232
  l2 : x.c.picks.length ≤ 140737488351232
  l3 : x.c.writes.length ≤ 140737488351232
  l4 : x.c.note.size ≤ 140737488351232
  l5 : ∀ y ∈ x.c.writes, y.text.size ≤ 140737488351232
structure Coms (w : World) (A : Option Addr) (n : Nat) (xs : List CX) : Prop where
  len : xs.length = n
  cells : Reads w w.heap.size 5 A n (xs.flatMap ccell)
  good : ∀ x ∈ xs, GoodC w x
theorem GoodC.is {w : World} {x : CX} (h : GoodC w x) : IsCommit w w.heap.size (.agg #[.int .i64 x.c.stamp, .slice x.A1 x.c.parents.length x.c1, .slice x.A2 x.c.picks.length x.c2, .string x.c.note, .slice x.A3 x.c.writes.length x.c3]) x.c :=
  ⟨_, _, _, _, _, _, rfl, h.r1, h.r2, h.r3⟩
theorem GoodC.up {w w' : World} {x : CX} (h : GoodC w x) (hb : Below w.heap.size w w') : GoodC w' x :=
  ⟨h.ok, (h.r1.below hb).more hb.size, (h.r2.below hb).more hb.size, (h.r3.below hb).more hb.size, h.l1, h.l2, h.l3, h.l4, h.l5⟩
theorem Coms.up {w w' : World} {A : Option Addr} {n : Nat} {xs : List CX} (h : Coms w A n xs) (hb : Below w.heap.size w w') : Coms w' A n xs :=
  ⟨h.len, (h.cells.below hb).more hb.size, fun x hx => (h.good x hx).up hb⟩
theorem coms_at {w : World} {A : Option Addr} {n : Nat} {xs : List CX} (h : Coms w A n xs) {k : Nat} {x : CX} (hk : xs[k]? = some x) : ∃ ab ao, A = some ⟨ab, ao, none⟩ ∧ ab < w.heap.size ∧ w.cell? ⟨ab, ao + k * 5, none⟩ = some (.int .i64 x.c.stamp) ∧ w.cell? ⟨ab, ao + k * 5 + 1, none⟩ = some (.slice x.A1 x.c.parents.length x.c1) ∧
    w.cell? ⟨ab, ao + k * 5 + 2, none⟩ = some (.slice x.A2 x.c.picks.length x.c2) ∧ w.cell? ⟨ab, ao + k * 5 + 3, none⟩ = some (.string x.c.note) ∧ w.cell? ⟨ab, ao + k * 5 + 4, none⟩ = some (.slice x.A3 x.c.writes.length x.c3) := by
  have hkl := (List.getElem?_eq_some_iff.1 hk).1
  have hlen := h.len
  obtain ⟨ab, ao, e, hb, hc⟩ := h.cells.head (by omega) (by omega)
  have fl : ∀ x : CX, (ccell x).length = 5 := fun _ => rfl
  refine ⟨ab, ao, e, hb, ?_, ?_, ?_, ?_, ?_⟩
  · exact hc (k * 5) _ (flat_at fl xs k 0 x hk (by omega))
  · have := hc (k * 5 + 1) _ (flat_at fl xs k 1 x hk (by omega)); rwa [← Nat.add_assoc] at this
  · have := hc (k * 5 + 2) _ (flat_at fl xs k 2 x hk (by omega)); rwa [← Nat.add_assoc] at this
  · have := hc (k * 5 + 3) _ (flat_at fl xs k 3 x hk (by omega)); rwa [← Nat.add_assoc] at this
  · have := hc (k * 5 + 4) _ (flat_at fl xs k 4 x hk (by omega)); rwa [← Nat.add_assoc] at this

section
variable {H : Type} {enc : TypeId × Value → H} {W : World} {held : Bool}
theorem open_intsS {P : Program} {t e : TypeId} {fuel len cap : Nat} {A : Option Addr} {d : DataW H} {p : List MemPlace} (ht : P.underlying t = some (.slice e)) (he : P.underlying e = some (.int .i64)) (hc : P.cellsOf e = 1) (hb : 0 < P.bytesOf e) (h : DataW.trod enc P W 0 (fun _ => true) held fuel t [.slice A len cap] = some (d, p)) (hsm : Sm P t d) :
    len ≤ cap ∧ len ≤ 140737488351232 ∧ ∃ xs : List Int, xs.length = len ∧ Reads W W.heap.size 1 A len (xs.map (Value.int .i64)) ∧ ∀ x ∈ xs, inI64 x := by
  obtain ⟨h1, -, h3, xs, h4, h5, h6⟩ := open_list ht hc (by omega) (fun x : Int => [.int .i64 x]) inI64 (fun _ => rfl) (fun cs' d' pl n htr _ hlen => by
    obtain ⟨z, rfl, -, hw⟩ := DataW.trod_int he htr
    exact ⟨z, rfl, wf_i64 hw⟩) h hsm
  rw [map_flat] at h5
  exact ⟨h1, h3 hb, xs, h4, h5, h6⟩
theorem open_cells {fuel len cap : Nat} {A : Option Addr} {d : DataW H} {p : List MemPlace} (h : DataW.trod enc Try.prog W 0 (fun _ => true) held fuel 34 [.slice A len cap] = some (d, p)) (hsm : Sm Try.prog 34 d) :
    len ≤ cap ∧ len ≤ 140737488351232 ∧ ∃ xs : List WCell, xs.length = len ∧ Reads W W.heap.size 6 A len (xs.flatMap WCell.vals) ∧ ∀ x ∈ xs, x.ok ∧ x.text.size ≤ 140737488351232 := by
  have hb61 : 0 < Try.prog.bytesOf 61 := of_decide_eq_true (by kernel_rfl)
  have hc3 : Try.prog.cellsOf 3 = 1 := by kernel_rfl
  have hc4 : Try.prog.cellsOf 4 = 1 := by kernel_rfl
  have hc9 : Try.prog.cellsOf 9 = 1 := by kernel_rfl
  have hc59 : Try.prog.cellsOf 59 = 4 := by kernel_rfl
  obtain ⟨h1, -, h3, xs, h4, h5, h6⟩ := open_list (α := WCell) Try.underlying34 (by kernel_rfl : Try.prog.cellsOf 61 = 6) (by omega) WCell.vals (fun x => x.ok ∧ x.text.size ≤ 140737488351232) (fun _ => rfl) (fun cs' d' pl n htr hs hlen => by
    obtain ⟨ys, m, -, hx, -, hyl, hfd⟩ := DataW.trod_struct Try.underlying61 htr
    obtain ⟨c0, c1, c2, c3, c4, c5, rfl⟩ : ∃ c0 c1 c2 c3 c4 c5, cs' = [c0, c1, c2, c3, c4, c5] := by
      match cs', hlen with
      | [c0, c1, c2, c3, c4, c5], _ => exact ⟨c0, c1, c2, c3, c4, c5, rfl⟩
    obtain ⟨y0, y1, y2, rfl⟩ : ∃ y0 y1 y2, ys = [y0, y1, y2] := by
      match ys, hyl with
      | [y0, y1, y2], _ => exact ⟨y0, y1, y2, rfl⟩
    have hd : d' = .agg [y0.1, y1.1, y2.1] := by injection hx
    subst hd
    have e0 := hfd 0 _ rfl
    have e1 := hfd 1 _ rfl
    have e2 := hfd 2 _ rfl
    have s2 := sm_part hs Try.underlying61 (i := 2) rfl (d := y2.1) rfl
    simp [hc3, hc59] at e0 e1 e2
    obtain ⟨z0, q0, -, g0⟩ := DataW.trod_int Try.underlying3 e0
    obtain ⟨z1, q1, -, g1⟩ := DataW.trod_int Try.underlying3 e1
    obtain ⟨vs, m2, -, hx2, -, hvl, hfd2⟩ := DataW.trod_struct Try.underlying59 e2
    obtain ⟨v0, v1, v2, v3, rfl⟩ : ∃ v0 v1 v2 v3, vs = [v0, v1, v2, v3] := by
      match vs, hvl with
      | [v0, v1, v2, v3], _ => exact ⟨v0, v1, v2, v3, rfl⟩
    have hd2 : y2.1 = .agg [v0.1, v1.1, v2.1, v3.1] := by rw [hx2]; rfl
    have f0 := hfd2 0 _ rfl
    have f1 := hfd2 1 _ rfl
    have f2 := hfd2 2 _ rfl
    have f3 := hfd2 3 _ rfl
    rw [hd2] at s2
    have t2 := sm_part s2 Try.underlying59 (i := 2) rfl (d := v2.1) rfl
    simp [hc3, hc4, hc9] at f0 f1 f2 f3
    obtain ⟨z2, q2, -, g2⟩ := DataW.trod_int Try.underlying3 f0
    obtain ⟨z3, q3, -⟩ := DataW.trod_bool Try.underlying4 f1
    obtain ⟨z4, q4, x4, -⟩ := DataW.trod_string Try.underlying9 f2
    obtain ⟨z5, q5, -, g5⟩ := DataW.trod_int Try.underlying3 f3
    have ht4 : z4.size ≤ 140737488351232 := by
      rw [x4] at t2
      have := sm_str t2
      simpa using this
    simp at q0 q1 q2 q3 q4 q5
    subst q0 q1 q2 q3 q4 q5
    exact ⟨⟨z0, z1, z2, z3, z4, z5⟩, rfl, ⟨wf_i64 g0, wf_i64 g1, wf_i64 g2, wf_i64 g5⟩, ht4⟩) h hsm
  exact ⟨h1, h3 hb61, xs, h4, h5, h6⟩
theorem open_commits {a : Option Addr} {len cap : Nat} {d : DataW H} {p : List MemPlace} (h : DataW.Trod enc Try.prog W 0 (fun _ => true) held 30 (.slice a len cap) d p) (hsm : Sm Try.prog 30 d) : len ≤ 140737488351232 ∧ ∃ xs, Coms W a len xs := by
  obtain ⟨fuel, hf⟩ := h
  have hb36 : 0 < Try.prog.bytesOf 36 := of_decide_eq_true (by kernel_rfl)
  have hb3 : 0 < Try.prog.bytesOf 3 := of_decide_eq_true (by kernel_rfl)
  have hc3 : Try.prog.cellsOf 3 = 1 := by kernel_rfl
  have hc9 : Try.prog.cellsOf 9 = 1 := by kernel_rfl
  have hc33 : Try.prog.cellsOf 33 = 1 := by kernel_rfl
  have hc34 : Try.prog.cellsOf 34 = 1 := by kernel_rfl
  obtain ⟨h1, -, h3, xs, h4, h5, h6⟩ := open_list (α := CX) Try.underlying30 (by kernel_rfl : Try.prog.cellsOf 36 = 5) (by omega) ccell (GoodC W) (fun _ => rfl) (fun cs' d' pl n htr hs hlen => by
    obtain ⟨ys, m, -, hx, -, hyl, hfd⟩ := DataW.trod_struct Try.underlying36 htr
    obtain ⟨c0, c1, c2, c3, c4, rfl⟩ : ∃ c0 c1 c2 c3 c4, cs' = [c0, c1, c2, c3, c4] := by
      match cs', hlen with
      | [c0, c1, c2, c3, c4], _ => exact ⟨c0, c1, c2, c3, c4, rfl⟩
    obtain ⟨y0, y1, y2, y3, y4, rfl⟩ : ∃ y0 y1 y2 y3 y4, ys = [y0, y1, y2, y3, y4] := by
      match ys, hyl with
      | [y0, y1, y2, y3, y4], _ => exact ⟨y0, y1, y2, y3, y4, rfl⟩
    have hd : d' = .agg [y0.1, y1.1, y2.1, y3.1, y4.1] := by injection hx
    subst hd
    have e0 := hfd 0 _ rfl
    have e1 := hfd 1 _ rfl
    have e2 := hfd 2 _ rfl
    have e3 := hfd 3 _ rfl
    have e4 := hfd 4 _ rfl
    have s1 := sm_part hs Try.underlying36 (i := 1) rfl (d := y1.1) rfl
    have s2 := sm_part hs Try.underlying36 (i := 2) rfl (d := y2.1) rfl
    have s3 := sm_part hs Try.underlying36 (i := 3) rfl (d := y3.1) rfl
    have s4 := sm_part hs Try.underlying36 (i := 4) rfl (d := y4.1) rfl
    simp [hc3, hc9, hc33, hc34] at e0 e1 e2 e3 e4
    obtain ⟨z0, q0, -, g0⟩ := DataW.trod_int Try.underlying3 e0
    obtain ⟨z3, q3, x3, -⟩ := DataW.trod_string Try.underlying9 e3
    have ht3 : z3.size ≤ 140737488351232 := by
      rw [x3] at s3
      have := sm_str s3
      simpa using this
    simp at q0 q3
    subst q0 q3
    obtain ⟨A1, l1, k1, rfl⟩ := slice_form Try.underlying33 e1
    obtain ⟨A2, l2, k2, rfl⟩ := slice_form Try.underlying33 e2
    obtain ⟨A4, l4, k4, rfl⟩ := slice_form Try.underlying34 e4
    obtain ⟨-, u1, ps, rfl, u2, u3⟩ := open_intsS (d := y1.1) (p := y1.2) Try.underlying33 Try.underlying3 hc3 hb3 e1 s1
    obtain ⟨-, v1, qs, rfl, v2, v3⟩ := open_intsS (d := y2.1) (p := y2.2) Try.underlying33 Try.underlying3 hc3 hb3 e2 s2
    obtain ⟨-, w1, ws, rfl, w2, w3⟩ := open_cells (d := y4.1) (p := y4.2) e4 s4
    exact ⟨⟨⟨z0, ps, qs, z3, ws⟩, A1, k1, A2, k2, A4, k4⟩, rfl, ⟨⟨wf_i64 g0, u3, v3, fun x hx => (w3 x hx).1⟩, u2, v2, w2, u1, v1, w1, ht3, fun y hy => (w3 y hy).2⟩⟩) hf hsm
  exact ⟨h3 hb36, xs, h4, h5, h6⟩
end
end Go.Proofs.Ytnnclopojiegfaa
