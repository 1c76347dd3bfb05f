/-
  Acts as data. No condition.
-/
import Derived.Test.YtgblcjoalgckkaaDkO
import Derived.Test.YtgblcjoalgckkaaShape
namespace Go.Proofs.Ytgblcjoalgckkaa
open Go.ChangeShapes Go.WideShapes Go.ChangeAt Go.RowKit Go.Deep
set_option linter.unusedVariables false

structure ActX where
  kind : Int
  at_ : Int
  n : Int
  bA : Option Addr
  bs : List Nat
  bc : Nat
  kA : Option Addr
  ks : List Bool
  kc : Nat
instance : Inhabited ActX := ⟨⟨0, 0, 0, none, [], 0, none, [], 0⟩⟩
def acell (x : ActX) : List Value := [.int .i64 x.kind, .int .i64 x.at_, .int .i64 x.n, .slice x.bA x.bs.length x.bc, .slice x.kA x.ks.length x.kc]
structure GoodAct (w : World) (x : ActX) : Prop where
  kind : -9223372036854775808 ≤ x.kind ∧ x.kind ≤ 9223372036854775807
  at_ : -9223372036854775808 ≤ x.at_ ∧ x.at_ ≤ 9223372036854775807
  n : -9223372036854775808 ≤ x.n ∧ x.n ≤ 9223372036854775807
  rb : Reads w w.heap.size 1 x.bA x.bs.length (x.bs.map byt)
  byt : ∀ b ∈ x.bs, b < 256
  rk : Reads w w.heap.size 1 x.kA x.ks.length (x.ks.map Value.bool)
  lb : x.bs.length ≤ 140737488351232
  lk : x.ks.length ≤ 140737488351232
  cb : x.bs.length ≤ x.bc
structure Acts (w : World) (A : Option Addr) (n : Nat) (xs : List ActX) : Prop where
  len : xs.length = n
  cells : Reads w w.heap.size 5 A n (xs.flatMap acell)
  good : ∀ x ∈ xs, GoodAct w x
section
variable {H : Type} {enc : TypeId × Value → H} {W : World} {held : Bool}
theorem open_acts {a : Option Addr} {len cap : Nat} {d : DataW H} {p : List MemPlace} (h : DataW.Trod enc Try.prog W 0 (fun _ => true) held 39 (.slice a len cap) d p) (hsm : Sm Try.prog 39 d) : len ≤ 140737488351232 ∧ ∃ xs, Acts W a len xs := by
  obtain ⟨fuel, hf⟩ := h
  have hb46 : 0 < Try.prog.bytesOf 46 := of_decide_eq_true (by kernel_rfl)
  have hb5 : 0 < Try.prog.bytesOf 5 := of_decide_eq_true (by kernel_rfl)
  have hb4 : 0 < Try.prog.bytesOf 4 := of_decide_eq_true (by kernel_rfl)
  have hc3 : Try.prog.cellsOf 3 = 1 := by kernel_rfl
  have hc22 : Try.prog.cellsOf 22 = 1 := by kernel_rfl
  have hc23 : Try.prog.cellsOf 23 = 1 := by kernel_rfl
  obtain ⟨h1, -, h3, xs, h4, h5, h6⟩ := open_list (α := ActX) Try.underlying39 (by kernel_rfl : Try.prog.cellsOf 46 = 5) (by omega) acell (GoodAct W) (fun _ => rfl) (fun cs' d' pl n htr hs hlen => by
    obtain ⟨ys, m, -, hx, -, hyl, hfd⟩ := DataW.trod_struct Try.underlying46 htr
    obtain ⟨c0, c1, c2, c3, c4, rfl⟩ : ∃ c0 c1 c2 c3 c4, cs' = [c0, c1, c2, c3, c4] := by
      match cs', hlen with
      | [c0, c1, c2, c3, c4], _ => exact ⟨c0, c1, c2, c3, c4, rfl⟩
    obtain ⟨y0, y1, y2, y3, y4, rfl⟩ : ∃ y0 y1 y2 y3 y4, ys = [y0, y1, y2, y3, y4] := by
      match ys, hyl with
      | [y0, y1, y2, y3, y4], _ => exact ⟨y0, y1, y2, y3, y4, rfl⟩
    have hd : d' = .agg [y0.1, y1.1, y2.1, y3.1, y4.1] := by injection hx
    subst hd
    have e0 := hfd 0 _ rfl
    have e1 := hfd 1 _ rfl
    have e2 := hfd 2 _ rfl
    have e3 := hfd 3 _ rfl
    have e4 := hfd 4 _ rfl
    have s3 := sm_part hs Try.underlying46 (i := 3) rfl (d := y3.1) rfl
    have s4 := sm_part hs Try.underlying46 (i := 4) rfl (d := y4.1) rfl
    simp [hc3, hc22, hc23] at e0 e1 e2 e3 e4
    obtain ⟨z0, q0, -, g0⟩ := DataW.trod_int Try.underlying3 e0
    obtain ⟨z1, q1, -, g1⟩ := DataW.trod_int Try.underlying3 e1
    obtain ⟨z2, q2, -, g2⟩ := DataW.trod_int Try.underlying3 e2
    simp at q0 q1 q2
    subst q0 q1 q2
    obtain ⟨A3, l3, k3, rfl⟩ := slice_form Try.underlying22 e3
    obtain ⟨A4, l4, k4, rfl⟩ := slice_form Try.underlying23 e4
    obtain ⟨u1, u2, bs, rfl, u4, u5⟩ := open_bytesS (d := y3.1) (p := y3.2) Try.underlying22 Try.underlying5 (by kernel_rfl) hb5 e3 s3
    obtain ⟨t1, t2, ks, rfl, t4⟩ := open_boolsS (d := y4.1) (p := y4.2) Try.underlying23 Try.underlying4 (by kernel_rfl) hb4 e4 s4
    exact ⟨⟨z0, z1, z2, A3, bs, k3, A4, ks, k4⟩, rfl, ⟨wf_i64 g0, wf_i64 g1, wf_i64 g2, u4, u5, t4, u2, t2, u1⟩⟩) hf hsm
  exact ⟨h3 hb46, xs, h4, h5, h6⟩
end
end Go.Proofs.Ytgblcjoalgckkaa
