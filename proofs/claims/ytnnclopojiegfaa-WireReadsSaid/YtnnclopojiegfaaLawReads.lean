/-
  WireReads: for every input the law returns true, and its arguments are as they were. No condition beside the given statement's own.
-/
import Derived.Test.YtnnclopojiegfaaWtS
namespace Go.Proofs.Ytnnclopojiegfaa.wireReads
open Go.ChangeShapes Go.WideShapes Go.ChangeAt Go.RowKit
open Go.ChangeMaps (open_string shut_string)
set_option linter.unusedVariables false

set_option maxRecDepth 100000 in
set_option maxHeartbeats 1600000 in
theorem walk (A : Option Addr) (n c : Nat) (z : Int) (w : World) (bs : List Nat) (hm : n ≤ 140737488351232) (hnc : n ≤ c) (hr : Reads w w.heap.size 1 A n (bs.map byt)) (hbs : ∀ x ∈ bs, x < 256) :
    Calls Try.prog 6 #[.slice A n c, .int .i64 z] w fun e w' => e = .returned (.bool true) ∧ Below w.heap.size w w' := by
  have HA := fun W => Lib.hid (awake_any W)
  by_cases hn : 2000 < n
  · clear hr hbs
    have d : decide ((2000 : Int) < (n : Int)) = true := by simp; omega
    go_enter Try.func6, Try.ntmps6
    go_wp2_with fail
    refine ((HA _).out).mono ?_
    rintro e w1 ⟨rfl, hb⟩
    have HB := Lib.hid hb
    clear hb HA
    go_wp2_with fail
    go_ret
    exact ⟨rfl, HB.out⟩
  · have hl : bs.length = n := by have := hr.1; simpa using this
    have d : decide ((2000 : Int) < (n : Int)) = false := by simp; omega
    have hb9 : n ≤ 1000000000 := by omega
    have H1 := Lib.hid ((getCommits_any A n c bs w hb9 hnc hr hbs).mono fun _ _ h => got_uni h)
    have H2 : Hid (∀ w', Below w.heap.size w w' → Calls Try.prog 24 #[.slice A n c] w' (GotU w' (commitsP bs))) := fun w' hb => (refGetCommits_any A n c bs w' hb9 hnc ((hr.below hb).more hb.size) hbs).mono fun _ _ h => got_uni h
    have H3 : Hid (∀ w', Below w.heap.size w w' → Calls Try.prog 25 #[.slice A n c, .int .i64 z] w' (GotM w' (getM bs z))) := fun w' hb => (getCommit_any A n c z bs w' hb9 hnc ((hr.below hb).more hb.size) hbs).mono fun _ _ h => gotM_uni h
    have H4 : Hid (∀ w', Below w.heap.size w w' → Calls Try.prog 26 #[.slice A n c, .int .i64 z] w' (GotM w' (getM bs z))) := fun w' hb => (refGetCommit_any A n c z bs w' hb9 hnc ((hr.below hb).more hb.size) hbs).mono fun _ _ h => gotM_uni h
    have HLL : Hid (((commitsP bs).getD []).length ≤ 2000) := by unfold Hid; have := commitsP_len (bs := bs); omega
    generalize commitsP bs = oc at H1 H2 HLL
    generalize getM bs z = om at H3 H4
    clear hr hbs hl
    unfold GotU at H1 H2
    unfold GotM at H3 H4
    generalize evI oc = ec at H1 H2
    generalize evI om = em at H3 H4
    generalize (((om.map (·.2)).getD 0 : Nat) : Int) = pm at H3 H4
    go_enter Try.func6, Try.ntmps6
    go_wp2_with fail
    refine (H1.out).mono ?_
    rintro e w1 ⟨B1, c1, xs, rfl, hx1, hc1, hb1⟩
    have C1 := Lib.hid hc1
    have X1 := Lib.hid hx1
    have BL1 := Lib.hid hb1
    clear hc1 hx1 hb1 H1
    go_wp2_with fail
    refine (H2.out _ (BL1.out)).mono ?_
    rintro e w2 ⟨B2, c2, ys, rfl, hx2, hc2, hb2⟩
    have C1 := Lib.hid ((C1.out).up hb2)
    have C2 := Lib.hid hc2
    have X2 := Lib.hid hx2
    have BL2 := Lib.hid ((BL1.out).trans (hb2.mono (BL1.out).size))
    clear hc2 hx2 hb2 H2
    go_wp2_with fail
    refine (H3.out _ (BL2.out)).mono ?_
    rintro e w3 ⟨x, rfl, hx3, hc3, hb3⟩
    have C1 := Lib.hid ((C1.out).up hb3)
    have C2 := Lib.hid ((C2.out).up hb3)
    have BL3 := Lib.hid ((BL2.out).trans (hb3.mono (BL2.out).size))
    have G3 := Lib.hid hc3
    have X3 := Lib.hid hx3
    clear hc3 hx3 hb3 H3
    go_wp2_with fail
    refine (H4.out _ ((BL3.out).alloc (BL3.out).size _)).mono ?_
    rintro e w4 ⟨y, rfl, hx4, hc4, hb4⟩
    have XB := Lib.hid ((Blk.new w3 36 #[.int .i64 x.c.stamp, .slice x.A1 x.c.parents.length x.c1, .slice x.A2 x.c.picks.length x.c2, .string x.c.note, .slice x.A3 x.c.writes.length x.c3]).below hb4 (by simp))
    have B34 := Lib.hid (((Below.refl _ w3).alloc (Nat.le_refl _) (.cells #[.int .i64 x.c.stamp, .slice x.A1 x.c.parents.length x.c1, .slice x.A2 x.c.picks.length x.c2, .string x.c.note, .slice x.A3 x.c.writes.length x.c3] 36)).trans (hb4.mono (by simp)))
    have BY := Lib.hid ((Below.refl _ w4).alloc (Nat.le_refl _) (.cells #[.int .i64 y.c.stamp, .slice y.A1 y.c.parents.length y.c1, .slice y.A2 y.c.picks.length y.c2, .string y.c.note, .slice y.A3 y.c.writes.length y.c3] 36))
    have YB := Lib.hid (Blk.new w4 36 #[.int .i64 y.c.stamp, .slice y.A1 y.c.parents.length y.c1, .slice y.A2 y.c.picks.length y.c2, .string y.c.note, .slice y.A3 y.c.writes.length y.c3])
    have C1 := Lib.hid (((C1.out).up (B34.out)).up (BY.out))
    have C2 := Lib.hid (((C2.out).up (B34.out)).up (BY.out))
    have G3 := Lib.hid (((G3.out).up (B34.out)).up (BY.out))
    have G4 := Lib.hid (hc4.up (BY.out))
    have BL4 := Lib.hid (((BL3.out).trans ((B34.out).mono (BL3.out).size)).trans ((BY.out).mono ((BL3.out).trans ((B34.out).mono (BL3.out).size)).size))
    have hlt : w3.heap.size < w4.heap.size := (XB.out).lt
    have XBA := Lib.hid ((XB.out).alloc (.cells #[.int .i64 y.c.stamp, .slice y.A1 y.c.parents.length y.c1, .slice y.A2 y.c.picks.length y.c2, .string y.c.note, .slice y.A3 y.c.writes.length y.c3] 36))
    have hcc : x.c = y.c := by rw [X3.out, hx4]
    have HCC := Lib.hid hcc
    have HS := Lib.hid (sameCommits_any (c1 := c1) (c2 := c2) (by have := HLL.out; omega) (C1.out) (C2.out) (by rw [X1.out, X2.out]))
    clear hx4 hc4 hb4 H4 hcc
    go_wp2_with fail
    refine (HS.out).mono ?_
    rintro e w5 ⟨rfl, hb5⟩
    have hb5' := Lib.hid hb5
    have XB5 := (XBA.out).below hb5 (XBA.out).lt
    have YB5 := (YB.out).below hb5 (YB.out).lt
    have x0 := XB5.cell 0
    have x1 := XB5.cell 1
    have x2 := XB5.cell 2
    have x3 := XB5.cell 3
    have x4 := XB5.cell 4
    have y0 := YB5.cell 0
    have y1 := YB5.cell 1
    have y2 := YB5.cell 2
    have y3 := YB5.cell 3
    have y4 := YB5.cell 4
    simp at x0 x1 x2 x3 x4 y0 y1 y2 y3 y4
    have HC := Lib.hid (sameCommit_cx ((G3.out).up hb5) ((G4.out).up hb5) (HCC.out))
    have BL5 := Lib.hid ((BL4.out).trans (hb5.mono (BL4.out).size))
    have e1 : ((ec : Int) == ec) = true := by simp
    have e2 : ((em : Int) == em) = true := by simp
    have e3 : ((pm : Int) == pm) = true := by simp
    clear hb5 XB5 YB5 HS
    go_wp2_with fail
    refine (HC.out).mono ?_
    rintro e w6 ⟨rfl, hb6⟩
    have BL6 := Lib.hid ((BL5.out).trans (hb6.mono (BL5.out).size))
    clear hb6 HC x0 x1 x2 x3 x4 y0 y1 y2 y3 y4
    go_wp2_with fail
    refine ((HA _).out).mono ?_
    rintro e w7 ⟨rfl, hb7⟩
    have BL7 := Lib.hid ((BL6.out).trans (hb7.mono (BL6.out).size))
    clear hb7 HA
    go_wp2_with fail
    go_ret
    exact ⟨rfl, BL7.out⟩
theorem own : ownKnob Try.prog.godebug = none := by kernel_rfl
theorem laidOut : laidOutB Try.prog = true := by kernel_rfl
theorem specN (H : Type) (ds : List (DataW H)) (h : ds.length = 2) : Rows.wireReadsSpec.fn H (ds ++ []) = { results := [.lit (.bool true)], args := ds } := by
  match ds, h with
  | [_, _], _ => rfl

set_option maxRecDepth 100000 in
theorem lifted (os : Os) (started : os.Started) (H : Type) (enc : TypeId × Value → H) :
    ReturnsInHanded {} Try.checked os 6 .any (Rows.wireReadsSpec.pre6 enc Try.prog Try.f6 Rows.wireReadsRow.domain false) (Rows.wireReadsSpec.post enc Try.prog Try.f6 false true false false) := by
  refine law_of_walk (C := Try.checked) own started (by kernel_rfl) Try.func6 rfl rfl Try.underlying4 laidOut (by kernel_rfl) (fun ds h => specN H ds (h.trans (by kernel_rfl)))
    (ChangeSpec.witness6 (enc := enc) (C := Try.checked) false ⟨#[], #[.slice none 0 0, .int .i64 0], []⟩ 8 (by kernel_rfl) (by kernel_rfl) (by kernel_rfl) (by kernel_rfl)) ?_
  intro W base args ds p hval hA hsz
  have hval' : ∀ (j : Nat) t v, Try.f6.params[j]? = some t → args[j]? = some v → Value.okWide Try.prog W .any base t v := hval
  rw [Try.params6] at hval' hA hsz
  obtain ⟨v0, vs0, d0, ds0, p0, q0, hargs, rfl, rfl, h0, r0⟩ := trodAll_cons hA
  obtain ⟨v1, vs1, d1, ds1, p1, q1, rfl, rfl, rfl, h1, r1⟩ := trodAll_cons r0
  obtain ⟨rfl, rfl, rfl⟩ := trodAll_nil r1
  obtain rfl : args = #[v0, v1] := by cases args; simp_all
  obtain ⟨a0, len0, cap0, rfl⟩ := okWide_slice Try.underlying22 (hval' 0 22 v0 rfl rfl)
  obtain ⟨hw0, hc0, hm0, bs0, hr0, hbs0⟩ := open_bytes Try.underlying22 Try.underlying5 (by kernel_rfl) h0
  have hlen0 := len_reach hsz (j := 0) (t := 22) rfl rfl Try.underlying22 (of_decide_eq_true (by kernel_rfl)) hw0
  obtain ⟨a1, rfl, rfl, rfl, w1⟩ := open_int Try.underlying3 (hval' 1 3 v1 rfl rfl) h1
  exact walk a0 len0 cap0 a1 W bs0 hlen0 hc0 hr0 hbs0

theorem proved : Rows.WireReadsSaid :=
  OpenClaim.holds_of_wide 6 Try.f6 rfl rfl rfl rfl rfl rfl rfl ⟨rfl, rfl, rfl, rfl, rfl⟩ rfl rfl rfl rfl rfl (by kernel_rfl) Try.func6 (by kernel_rfl)
    (of_decide_eq_true (by kernel_rfl)) (by unfold Func.isWrapper; first | (rw [if_pos (by decide +kernel)]; kernel_rfl) | (rw [if_neg (by decide +kernel)]; exact ⟨rfl, rfl⟩))
    (fun os started H enc _ => lifted os started H enc)
end Go.Proofs.Ytnnclopojiegfaa.wireReads

