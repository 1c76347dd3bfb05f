/-
  augment: one more row gets a column, along a shortest path. No condition.
-/
import Derived.Test.YtgmhinmakomabaaAsB
namespace Go.Proofs.Ytgmhinmakomabaa
open Go.RowKit
set_option linter.unusedVariables false

def AugPost (w : World) (B n cc : Nat) (A : Option Addr) (b : SB) (c : Nat → Nat → Int) (k : Nat) (e : Ending) (w' : World) : Prop :=
  e = .returned (.tuple #[]) ∧ ∃ u' v' to' tf' ow', Ph n (k + 1) c u' v' to' ow' ∧ (∀ i, i < k + 1 → tf' i = (to' i : Int)) ∧ Sv w' B A n cc b c u' v' tf' ow' ∧ Chg w w' (fun x => x = b.u ∨ x = b.v ∨ x = b.t ∨ x = b.o)
/-- what is known between the rounds -/
def AugSt (w : World) (B n cc : Nat) (A : Option Addr) (b : SB) (c : Nat → Nat → Int) (tf ow : Nat → Int) (k : Nat) (to : Nat → Nat) (wr : World) : Prop :=
  ∃ u v sl fr d ord m D, Gr n k c u v to ow d sl fr ord m D ∧ Ax w wr B A n cc b c u v tf ow w.heap.size sl fr d
/-- the distances of the columns before j -/
def AugIn (w : World) (B n cc : Nat) (A : Option Addr) (b : SB) (c : Nat → Nat → Int) (u v tf ow : Nat → Int) (k j : Nat) (wr : World) : Prop :=
  ∃ sl fr, Ax w wr B A n cc b c u v tf ow w.heap.size sl fr (fun _ => false) ∧ ∀ i, i < j → sl i = c k i - u k - v i ∧ fr i = k
theorem AugIn.next {w wr w2 : World} {B n cc : Nat} {A : Option Addr} {b : SB} {c : Nat → Nat → Int} {u v tf ow : Nat → Int} {k j : Nat} (h : AugIn w B n cc A b c u v tf ow k j wr) (d : Nat) (hw : w2 = wr.drewN d) :
    AugIn w B n cc A b c u v tf ow k (j + 1) ((w2.setCell ⟨w.heap.size, j, none⟩ (.int .i64 (c k j - u k - v j))).setCell ⟨w.heap.size + 1, j, none⟩ (.int .i64 (k : Int))) := by
  obtain ⟨sl, fr, h1, h2⟩ := h
  subst hw
  refine ⟨_, _, ((h1.drewN d).setS j (c k j - u k - v j)).setF j k, fun i hi => ?_⟩
  by_cases e : i = j
  · subst e; rw [upd_same, upd_same]; exact ⟨rfl, rfl⟩
  · rw [upd_ne _ _ e, upd_ne _ _ e]; exact h2 i (by omega)

theorem Ax.stepDone {w wr w2 : World} {B n cc s k m : Nat} {A : Option Addr} {b : SB} {c : Nat → Nat → Int} {u v tf ow sl : Nat → Int} {to fr ord : Nat → Nat} {d : Nat → Bool} {D δ : Int} {q r : Nat}
    (a : Ax w wr B A n cc b c (uJ k to d u δ q) (vJ d v δ q) tf ow s (sJ d sl δ q) fr d) (h : Gr n k c u v to ow d sl fr ord m D) (hq : q < n) (hd : d q = true) (hr : ow q = (r : Int)) (e : Nat) (hw : w2 = wr.drewN e) :
    Ax w ((w2.setCell ⟨b.u, r, none⟩ (.int .i64 (u r + δ))).setCell ⟨b.v, q, none⟩ (.int .i64 (v q - δ))) B A n cc b c (uJ k to d u δ (q + 1)) (vJ d v δ (q + 1)) tf ow s (sJ d sl δ (q + 1)) fr d := by
  subst hw
  exact (((a.drewN e).setU r (u r + δ)).setV q (v q - δ)).congr (fun i hi => (uJ_done h hq hd hr).2 i) (fun i hi => vJ_done hd i) (fun i hi => sJ_done hd i) (fun _ _ => rfl) (fun _ _ => rfl)
theorem Ax.stepNot {w wr : World} {B n cc s k : Nat} {A : Option Addr} {b : SB} {c : Nat → Nat → Int} {u v tf ow sl : Nat → Int} {to fr : Nat → Nat} {d : Nat → Bool} {δ : Int} {q : Nat}
    (a : Ax w wr B A n cc b c (uJ k to d u δ q) (vJ d v δ q) tf ow s (sJ d sl δ q) fr d) (hd : d q = false) :
    Ax w (wr.setCell ⟨s, q, none⟩ (.int .i64 (sl q - δ))) B A n cc b c (uJ k to d u δ (q + 1)) (vJ d v δ (q + 1)) tf ow s (sJ d sl δ (q + 1)) fr d :=
  (a.setS q (sl q - δ)).congr (fun i hi => uJ_not hd i) (fun i hi => vJ_not hd i) (fun i hi => sJ_not hd i) (fun _ _ => rfl) (fun _ _ => rfl)
theorem Ax.stepTake {w wr w2 : World} {B n cc s : Nat} {A : Option Addr} {b : SB} {c : Nat → Nat → Int} {u v tf ow sl g : Nat → Int} {fr : Nat → Nat} {d : Nat → Bool} {q r : Nat}
    (a : Ax w wr B A n cc b c u v tf ow s (rS d sl g q) (rF d sl g fr r q) d) (hd : d q = false) (hg : g q < sl q) (e : Nat) (hw : w2 = wr.drewN e) :
    Ax w ((w2.setCell ⟨s, q, none⟩ (.int .i64 (g q))).setCell ⟨s + 1, q, none⟩ (.int .i64 (r : Int))) B A n cc b c u v tf ow s (rS d sl g (q + 1)) (rF d sl g fr r (q + 1)) d := by
  subst hw
  exact (((a.drewN e).setS q (g q)).setF q r).congr (fun _ _ => rfl) (fun _ _ => rfl) (fun i hi => rS_take hd hg i) (fun i hi => rF_take hd hg i) (fun _ _ => rfl)
theorem Ax.stepSkip {w wr w2 : World} {B n cc s : Nat} {A : Option Addr} {b : SB} {c : Nat → Nat → Int} {u v tf ow sl g : Nat → Int} {fr : Nat → Nat} {d : Nat → Bool} {q r : Nat}
    (a : Ax w wr B A n cc b c u v tf ow s (rS d sl g q) (rF d sl g fr r q) d) (hd : d q = true ∨ sl q ≤ g q) (e : Nat) (hw : w2 = wr.drewN e) :
    Ax w w2 B A n cc b c u v tf ow s (rS d sl g (q + 1)) (rF d sl g fr r (q + 1)) d := by
  subst hw
  exact (a.drewN e).congr (fun _ _ => rfl) (fun _ _ => rfl) (fun i hi => rS_skip hd i) (fun i hi => rF_skip hd i) (fun _ _ => rfl)
/-- the least of the distances before q -/
def Arg (sl : Nat → Int) (d : Nat → Bool) (q : Nat) (z : Int) : Prop := (z = -1 ∧ ∀ i, i < q → d i = true) ∨ ∃ x : Nat, z = x ∧ x < q ∧ d x = false ∧ ∀ i, i < q → d i = false → sl x ≤ sl i
theorem Arg.start (sl : Nat → Int) (d : Nat → Bool) : Arg sl d 0 (-1) := .inl ⟨rfl, fun i hi => absurd hi (by omega)⟩
theorem Arg.done {sl : Nat → Int} {d : Nat → Bool} {q : Nat} {z : Int} (h : Arg sl d q z) (hd : d q = true) : Arg sl d (q + 1) z := by
  rcases h with ⟨e1, e2⟩ | ⟨x, e1, e2, e3, e4⟩
  · exact .inl ⟨e1, fun i hi => by
      rcases Nat.lt_or_ge i q with h | h
      · exact e2 i h
      · obtain rfl : i = q := by omega
        exact hd⟩
  · exact .inr ⟨x, e1, by omega, e3, fun i hi hdi => by
      rcases Nat.lt_or_ge i q with h | h
      · exact e4 i h hdi
      · obtain rfl : i = q := by omega
        rw [hd] at hdi; cases hdi⟩
theorem Arg.first {sl : Nat → Int} {d : Nat → Bool} {q : Nat} (h : Arg sl d q (-1)) (hd : d q = false) : Arg sl d (q + 1) (q : Int) := by
  rcases h with ⟨e1, e2⟩ | ⟨x, e1, e2, e3, e4⟩
  · exact .inr ⟨q, rfl, by omega, hd, fun i hi hdi => by
      rcases Nat.lt_or_ge i q with h | h
      · rw [e2 i h] at hdi; cases hdi
      · obtain rfl : i = q := by omega
        exact Int.le_refl _⟩
  · omega
theorem Arg.less {sl : Nat → Int} {d : Nat → Bool} {q x : Nat} (h : Arg sl d q (x : Int)) (hd : d q = false) (hlt : sl q < sl x) : Arg sl d (q + 1) (q : Int) := by
  rcases h with ⟨e1, e2⟩ | ⟨x', e1, e2, e3, e4⟩
  · omega
  · obtain rfl : x = x' := by omega
    exact .inr ⟨q, rfl, by omega, hd, fun i hi hdi => by
      rcases Nat.lt_or_ge i q with h | h
      · have := e4 i h hdi; omega
      · obtain rfl : i = q := by omega
        exact Int.le_refl _⟩
theorem Arg.not {sl : Nat → Int} {d : Nat → Bool} {q x : Nat} (h : Arg sl d q (x : Int)) (hlt : sl x ≤ sl q) : Arg sl d (q + 1) (x : Int) := by
  rcases h with ⟨e1, e2⟩ | ⟨x', e1, e2, e3, e4⟩
  · omega
  · obtain rfl : x = x' := by omega
    exact .inr ⟨x, rfl, by omega, e3, fun i hi hdi => by
      rcases Nat.lt_or_ge i q with h | h
      · exact e4 i h hdi
      · obtain rfl : i = q := by omega
        exact hlt⟩

set_option maxRecDepth 100000 in
set_option maxHeartbeats 4000000 in
theorem augment_any (w : World) (B n cc : Nat) (A : Option Addr) (b : SB) (c : Nat → Nat → Int) (u v tf ow : Nat → Int) (k : Nat) (to : Nat → Nat)
    (h : Ph n k c u v to ow) (hk : k < n) (hc : CB n c) (hs : Sv w B A n cc b c u v tf ow) (ht : ∀ i, i < k → tf i = (to i : Int)) (hB : B ≤ w.heap.size) :
    Calls Try.prog 22 #[.pointer (some ⟨b.g, 0, none⟩), .int .i64 (k : Int)] w (AugPost w B n cc A b c k) := by
  have hn := hs.n40
  have mk1 := make_ints n (by omega)
  have mk2 := make_bools n (by omega)
  have H0 := Lib.hid (Ax.start hs hB)
  have HPH := Lib.hid h
  have HC := Lib.hid hc
  have HT := Lib.hid ht
  obtain ⟨c0, _, _, _, _⟩ := hs.cells
  have f0 := hs.hd.lt
  clear h hc hs ht
  go_enter Try.func22, Try.ntmps22
  go_wp2_with fail
  go_loopw [28] (fun s wr => ∃ j : Nat, j ≤ n ∧ s = .int .i64 (j : Int) ∧ Hid (AugIn w B n cc A b c u v tf ow k j wr)) (fun s _ => n - (intOf s).toNat)
  case atStart => exact ⟨0, by omega, rfl, _, _, H0.out, fun i hi => absurd hi (by omega)⟩
  case round =>
    clear H0
    obtain ⟨wo, rfl⟩ : ∃ wo : World, wo = wr := ⟨_, rfl⟩
    obtain ⟨j, hj, rfl, HI⟩ := hrel
    by_cases hlt : j < n
    · obtain ⟨sl, fr, a1, _⟩ := HI.out
      obtain ⟨c0, c1, c2, _, _⟩ := a1.sv.cells
      obtain ⟨b1, o1, b2, o2, c', hA, _, _, g3, g4⟩ := a1.sv.sq k hk
      subst hA
      have g5 := g4 j hlt
      have d1 := a1.sv.vu.at_ hk
      have d2 := a1.sv.vv.at_ hlt
      have x1 := a1.vs.at_ hlt
      have x2 := a1.vf.at_ hlt
      have x3 := Vec.frozen a1.vs j
      have x4 := Vec.frozen a1.vf j
      have q1 := HC.out k j hk hlt
      have q2 := HPH.out.ub HC.out hk
      have q3 := HPH.out.vle j hlt
      have HN := Lib.hid (fun d w2 hw => HI.out.next d (w2 := w2) hw)
      obtain ⟨y1, hy1⟩ : ∃ y, c k j = y := ⟨_, rfl⟩
      obtain ⟨y2, hy2⟩ : ∃ y, u k = y := ⟨_, rfl⟩
      obtain ⟨y3, hy3⟩ : ∃ y, v j = y := ⟨_, rfl⟩
      rw [hy1] at g5 q1 HN
      rw [hy2] at d1 q2 HN
      rw [hy3] at d2 q3 HN
      obtain ⟨q11, q12⟩ := q1
      obtain ⟨q21, q22⟩ := q2
      obtain ⟨q31, q32⟩ := q3
      have q23 : y2 ≤ 100000000 := by omega
      have q33 : -100000000 ≤ y3 := by omega
      clear a1 g4 hy1 hy2 hy3 HI q22 q31
      go_wp2_with fail
      refine region_tail 29 (by kernel_rfl) (by kernel_rfl) _ rfl ?_
      simp only [List.take_succ_cons, List.take_zero, List.drop_succ_cons, List.drop_zero]
      repeat (go_big_quiet_step (fail))
      refine wpQuiet_nil ?_
      go_wp2_with fail
      go_roundw
      case rel => exact ⟨j + 1, by omega, by go_num, HN.out 1 _ rfl⟩
      case measure => simp [intOf] <;> omega
    · obtain rfl : j = n := by omega
      have HS : Hid (AugSt w B j cc A b c tf ow k to wo) := by
        obtain ⟨sl, fr, a1, a2⟩ := HI.out
        exact ⟨u, v, sl, fr, _, fun _ => 0, 0, 0, HPH.out.enter hk HC.out (fun _ _ => rfl) (fun i hi => (a2 i hi).1) (fun i hi => (a2 i hi).2) _, a1⟩
      clear HI HPH
      go_wp2_with fail
      go_loopw [] (fun wr => Hid (AugSt w B j cc A b c tf ow k to wr)) (fun wr => j - dmem wr (w.heap.size + 1 + 1) j)
      case atStart => exact HS
      case round =>
        clear HS
        obtain ⟨w1, rfl⟩ : ∃ w1 : World, w1 = wr := ⟨_, rfl⟩
        obtain ⟨u, v, sl, fr, d, ord, m, D, hg, hx⟩ := hrel.out
        have HG := Lib.hid hg
        have HX := Lib.hid hx
        clear hrel hg hx
        go_wp2_with fail
        go_loopw [9, 66] (fun s i wr => ∃ (q e : Nat) (z : Int), q ≤ j ∧ i = .int .i64 (q : Int) ∧ s = .int .i64 z ∧ wr = w1.drewN e ∧ Hid (Arg sl d q z)) (fun _ i _ => j - (intOf i).toNat)
        case atStart => exact ⟨0, 0, -1, by omega, rfl, rfl, rfl, Arg.start sl d⟩
        case round =>
          obtain ⟨q, e, z, hq, rfl, rfl, rfl, HZ⟩ := hrel
          by_cases hqt : q < j
          · have x1 := HX.out.vs.at_ hqt
            have x3 := HX.out.vd.at_ hqt
            cases hd : d q with
            | true =>
              rw [hd] at x3
              have HZ2 := Lib.hid (HZ.out.done hd)
              clear hd HZ
              go_wp2_with fail
              go_quiet (fail)
              go_wp2_with fail
              go_roundw
              case rel => exact ⟨q + 1, _, z, by omega, by go_num, rfl, (by first | rfl | exact World.drewN_drewN _ _ _), HZ2⟩
              case measure => simp [intOf] <;> omega
            | false =>
              rw [hd] at x3
              by_cases hz : z = -1
              · subst hz
                have HZ2 := Lib.hid (HZ.out.first hd)
                clear hd HZ
                go_wp2_with fail
                go_quiet (fail)
                go_wp2_with fail
                go_roundw
                case rel => exact ⟨q + 1, _, _, by omega, by go_num, rfl, (by first | rfl | exact World.drewN_drewN _ _ _), HZ2⟩
                case measure => simp [intOf] <;> omega
              · obtain ⟨x, rfl, hxq⟩ : ∃ x : Nat, z = x ∧ x < q := by
                  rcases HZ.out with ⟨e1, _⟩ | ⟨x, e1, e2, _⟩
                  · exact absurd e1 hz
                  · exact ⟨x, e1, e2⟩
                have x2 := HX.out.vs.at_ (show x < j by omega)
                have hxn : decide ((x : Int) < 0) = false := by simp <;> omega
                by_cases hlt : sl q < sl x
                · have HZ2 := Lib.hid (HZ.out.less hd hlt)
                  obtain ⟨y1, hy1⟩ : ∃ y, sl q = y := ⟨_, rfl⟩
                  obtain ⟨y2, hy2⟩ : ∃ y, sl x = y := ⟨_, rfl⟩
                  rw [hy1] at x1 hlt
                  rw [hy2] at x2 hlt
                  clear hd HZ hz hy1 hy2
                  go_wp2_with fail
                  go_quiet (fail)
                  go_wp2_with fail
                  go_roundw
                  case rel => exact ⟨q + 1, _, _, by omega, by go_num, rfl, (by first | rfl | exact World.drewN_drewN _ _ _), HZ2⟩
                  case measure => simp [intOf] <;> omega
                · have HZ2 := Lib.hid (HZ.out.not (by omega))
                  obtain ⟨y1, hy1⟩ : ∃ y, sl q = y := ⟨_, rfl⟩
                  obtain ⟨y2, hy2⟩ : ∃ y, sl x = y := ⟨_, rfl⟩
                  rw [hy1] at x1 hlt
                  rw [hy2] at x2 hlt
                  clear hd HZ hz hy1 hy2
                  go_wp2_with fail
                  go_quiet (fail)
                  go_wp2_with fail
                  go_roundw
                  case rel => exact ⟨q + 1, _, _, by omega, by go_num, rfl, (by first | rfl | exact World.drewN_drewN _ _ _), HZ2⟩
                  case measure => simp [intOf] <;> omega
          · obtain rfl : q = j := by omega
            obtain ⟨x, rfl, hxn, hdx, HMIN⟩ : ∃ x : Nat, z = x ∧ x < q ∧ d x = false ∧ Hid (∀ i, i < q → d i = false → sl x ≤ sl i) := by
              rcases HZ.out with ⟨_, e2⟩ | ⟨x, e1, e2, e3, e4⟩
              · obtain ⟨y, hy, hdy⟩ := HG.out.some_nd
                rw [e2 y hy] at hdy; cases hdy
              · exact ⟨x, e1, e2, e3, e4⟩
            have HX2 := Lib.hid (HX.out.drewN e)
            have HDM : Hid (dmem w1 (w.heap.size + 1 + 1) q = cnt d q) := dmem_eq HX.out.vd
            obtain ⟨w2, hw2⟩ : ∃ w2, w2 = w1.drewN e := ⟨_, rfl⟩
            rw [← hw2] at HX2 ⊢
            have HDX := Lib.hid hdx
            have b1 := HG.out.slb HC.out hxn hdx
            have b2 := HG.out.ub HC.out hk
            obtain ⟨c0, c1, c2, c3, c4⟩ := HX2.out.sv.cells
            have x1 := HX2.out.vs.at_ hxn
            have x2 := HX2.out.sv.vu.at_ hk
            have x3 := Vec.frozen HX2.out.sv.vu k
            obtain ⟨δ, hδ⟩ : ∃ y, sl x = y := ⟨_, rfl⟩
            have HX3 : Hid (Ax w (w2.setCell ⟨b.u, k, none⟩ (.int .i64 (u k + δ))) B A q cc b c (uJ k to d u δ 0) (vJ d v δ 0) tf ow w.heap.size (sJ d sl δ 0) fr d) :=
              (HX2.out.setU k (u k + δ)).congr (fun i _ => uJ_start i) (fun i _ => vJ_start i) (fun i _ => sJ_start i) (fun _ _ => rfl) (fun _ _ => rfl)
            have HR := HG.out.round hxn hdx HMIN.out
            rw [hδ] at x1 b1 HR
            have HR2 := Lib.hid HR
            obtain ⟨yk, hyk⟩ : ∃ y, u k = y := ⟨_, rfl⟩
            rw [hyk] at x2 b2 HX3
            obtain ⟨b11, b12⟩ := b1
            obtain ⟨b21, b22⟩ := b2
            have b13 : δ ≤ 100000000 := by omega
            have b23 : yk ≤ 100000000 := by omega
            clear hw2 HZ HX HX2 hdx hδ HR hyk b12 b22 HMIN
            go_wp2_with fail
            go_loopw [106] (fun s wr => ∃ p : Nat, p ≤ q ∧ s = .int .i64 (p : Int) ∧ Hid (Ax w wr B A q cc b c (uJ k to d u δ p) (vJ d v δ p) tf ow w.heap.size (sJ d sl δ p) fr d)) (fun s _ => q - (intOf s).toNat)
            case atStart => exact ⟨0, by omega, rfl, HX3⟩
            case round =>
              clear HX3 c0 c1 c2 c3 c4 x1 x2 x3 b21 b23
              obtain ⟨w3, rfl⟩ : ∃ w3 : World, w3 = wr := ⟨_, rfl⟩
              obtain ⟨p, hp, rfl, HA⟩ := hrel
              obtain ⟨c0, c1, c2, c3, c4⟩ := HA.out.sv.cells
              by_cases hpt : p < q
              · have x3 := HA.out.vd.at_ hpt
                cases hd : d p with
                | true =>
                  rw [hd] at x3
                  obtain ⟨r, hrk, hr, htr⟩ := (HG.out.col p hpt).resolve_left (HG.out.dn p hpt hd)
                  have x4 := HA.out.sv.vo.at_ hpt
                  have x5 := HA.out.sv.vu.at_ (show r < q by omega)
                  have x6 := HA.out.sv.vv.at_ hpt
                  have x7 := Vec.frozen HA.out.sv.vu r
                  have x8 := Vec.frozen HA.out.sv.vv p
                  have hr1 := (uJ_done (u := u) (δ := δ) HG.out hpt hd hr).1.2
                  rw [hr] at x4
                  rw [hr1] at x5
                  rw [vJ_at] at x6
                  have HN := Lib.hid (fun e w2 hw => HA.out.stepDone HG.out hpt hd hr (w2 := w2) e hw)
                  have y1 := HG.out.ub HC.out (show r < q by omega)
                  have y2 := HG.out.vb hpt
                  have n1 := HA.out.sv.ok.uv
                  have n2 := HA.out.sv.ok.uv.symm
                  have n3 := HA.out.sv.ok.gu
                  have n4 := HA.out.sv.ok.gu.symm
                  obtain ⟨z1, hz1⟩ : ∃ y, u r = y := ⟨_, rfl⟩
                  obtain ⟨z2, hz2⟩ : ∃ y, v p = y := ⟨_, rfl⟩
                  rw [hz1] at x5 y1 HN
                  rw [hz2] at x6 y2 HN
                  obtain ⟨y11, y12⟩ := y1
                  obtain ⟨y21, y22⟩ := y2
                  have y13 : z1 ≤ 100000000 := by omega
                  have y23 : -100000000 ≤ z2 := by omega
                  clear HA hd hr htr hr1 hz1 hz2 y12 y21
                  go_wp2_with fail
                  refine region_tail 16 (by kernel_rfl) (by kernel_rfl) _ rfl ?_
                  simp only [List.take_succ_cons, List.take_zero, List.drop_succ_cons, List.drop_zero]
                  repeat (go_big_quiet_step (fail))
                  refine wpQuiet_nil ?_
                  go_wp2_with fail
                  go_roundw
                  case rel => exact ⟨p + 1, by omega, by go_num, HN.out 1 _ rfl⟩
                  case measure => simp [intOf] <;> omega
                | false =>
                  rw [hd] at x3
                  have x6 := HA.out.vs.at_ hpt
                  have x8 := Vec.frozen HA.out.vs p
                  rw [sJ_at] at x6
                  have HN := Lib.hid (HA.out.stepNot hd)
                  have y1 := HG.out.slb HC.out hpt hd
                  obtain ⟨z1, hz1⟩ : ∃ y, sl p = y := ⟨_, rfl⟩
                  rw [hz1] at x6 y1 HN
                  obtain ⟨y11, y12⟩ := y1
                  have y13 : z1 ≤ 100000000 := by omega
                  clear HA hd hz1 y12
                  go_wp2_with fail
                  go_roundw
                  case rel => exact ⟨p + 1, by omega, by go_num, HN⟩
                  case measure => simp [intOf] <;> omega
              · obtain rfl : p = q := by omega
                have hg2 := HR2.out.1
                have h02 := HR2.out.2
                obtain ⟨D2, hD2⟩ : ∃ y, D + δ = y := ⟨_, rfl⟩
                obtain ⟨U, hU⟩ : ∃ y, uJ k to d u δ p = y := ⟨_, rfl⟩
                obtain ⟨V, hV⟩ : ∃ y, vJ d v δ p = y := ⟨_, rfl⟩
                obtain ⟨S, hS⟩ : ∃ y, sJ d sl δ p = y := ⟨_, rfl⟩
                rw [hU, hV, hS, hD2] at hg2
                rw [hS] at h02
                rw [hU, hV, hS] at HA
                have HG2 := Lib.hid hg2
                have H02 := Lib.hid h02
                have HXD := Lib.hid (HA.out.setD x true)
                have x4 := Vec.frozen HA.out.vd x
                have x5 := HA.out.vd.at_ hxn
                have x6 := HA.out.sv.vo.at_ hxn
                clear HG HR2 hg2 h02 hD2 hU hV hS b11 b13
                rcases HG2.out.col x hxn with ho | ⟨r, hrk, hr, htr⟩
                · have HTN := Lib.hid (turn_any _ B p cc A b c U V tf ow k m to d S fr ord D2 x (w.heap.size + 1) HG2.out hxn H02.out ho HXD.out.sv HT.out HXD.out.vf (HXD.out.ne (.inr (.inr (.inr (.inl rfl)))) (by omega)) (HXD.out.ne (.inr (.inr (.inr (.inr rfl)))) (by omega)))
                  have HCH : Hid (∀ e w', TurnPost (w3.setCell ⟨w.heap.size + 1 + 1, x, none⟩ (.bool true)) B p cc A b c U V k e w' → e = .returned (.tuple #[]) ∧ AugPost w B p cc A b c k (.returned (.tuple #[])) w') := by
                    rintro e w' ⟨rfl, to', tf', ow', h1, h2, h3, h4⟩
                    exact ⟨rfl, rfl, U, V, to', tf', ow', h1, h2, h3, HXD.out.chg.trans h4 fun i _ hi => .inr (.inr hi)⟩
                  rw [ho] at x6
                  have n1 := HA.out.ne (x := b.o) (.inr (.inr (.inr (.inr rfl)))) (y := w.heap.size + 1 + 1) (by omega)
                  have n2 := n1.symm
                  have n3 := HA.out.ne (x := b.g) (.inl rfl) (y := w.heap.size + 1 + 1) (by omega)
                  have n4 := n3.symm
                  clear HA HG2 H02 HXD ho HDM HDX HT HC
                  go_wp2_with fail
                  refine (HTN.out).mono ?_
                  rintro e' w4 hpost
                  obtain ⟨rfl, hp2⟩ := HCH.out _ _ hpost
                  have HP2 := Lib.hid hp2
                  clear hpost hp2 HTN HCH
                  go_wp2_with fail
                  go_end0
                  exact HP2.out
                · have HRX := Lib.hid (HG2.out.relax hxn HDX.out H02.out hr).1
                  have HX0 : Hid (Ax w (w3.setCell ⟨w.heap.size + 1 + 1, x, none⟩ (.bool true)) B A p cc b c U V tf ow w.heap.size (rS (upd d x true) S (fun j => c r j - U r - V j) 0) (rF (upd d x true) S (fun j => c r j - U r - V j) fr r 0) (upd d x true)) :=
                    HXD.out.congr (fun _ _ => rfl) (fun _ _ => rfl) (fun i _ => rS_start _ i) (fun i _ => rF_start _ r i) (fun _ _ => rfl)
                  rw [hr] at x6
                  have n1 := HA.out.ne (x := b.o) (.inr (.inr (.inr (.inr rfl)))) (y := w.heap.size + 1 + 1) (by omega)
                  have n2 := n1.symm
                  have n3 := HA.out.ne (x := b.g) (.inl rfl) (y := w.heap.size + 1 + 1) (by omega)
                  have n4 := n3.symm
                  have hrn : r < p := by omega
                  have d2 : decide ((r : Int) < 0) = false := by simp <;> omega
                  clear HA HXD hr htr hrk
                  go_wp2_with fail
                  clear c0 c1 c2 c3 c4 x4 x5 x6 n1 n2 n3 n4 d2
                  obtain ⟨d', hd'⟩ : ∃ y, upd d x true = y := ⟨_, rfl⟩
                  rw [hd'] at HRX HX0
                  obtain ⟨g, hgg⟩ : ∃ y, (fun j => c r j - U r - V j) = y := ⟨_, rfl⟩
                  rw [hgg] at HRX HX0
                  have HGG : Hid (∀ j, g j = c r j - U r - V j) := fun j => by rw [← hgg]
                  have HDD : Hid (∀ j, j < p → d' j = false → d j = false) := fun j hj hdj => by
                    rw [← hd'] at hdj
                    by_cases e : j = x
                    · subst e; rw [upd_same] at hdj; cases hdj
                    · rw [upd_ne _ _ e] at hdj; exact hdj
                  have HMS : Hid (cnt d' p = cnt d p + 1 ∧ cnt d' p ≤ p) := by rw [← hd']; exact ⟨cnt_upd HDX.out hxn, cnt_le _ _⟩
                  clear hd' hgg
                  go_loopw [165] (fun s wr => ∃ y : Nat, y ≤ p ∧ s = .int .i64 (y : Int) ∧ Hid (Ax w wr B A p cc b c U V tf ow w.heap.size (rS d' S g y) (rF d' S g fr r y) d')) (fun s _ => p - (intOf s).toNat)
                  case atStart => exact ⟨0, by omega, rfl, HX0⟩
                  case round =>
                    clear HX0
                    obtain ⟨w5, rfl⟩ : ∃ w5 : World, w5 = wr := ⟨_, rfl⟩
                    obtain ⟨y, hy, rfl, HA⟩ := hrel
                    obtain ⟨c0, c1, c2, _, _⟩ := HA.out.sv.cells
                    by_cases hyt : y < p
                    · obtain ⟨b1, o1, b2, o2, c', hAA, _, _, g3, g4⟩ := HA.out.sv.sq r hrn
                      subst hAA
                      have g5 := g4 y hyt
                      have x1 := HA.out.sv.vu.at_ hrn
                      have x2 := HA.out.sv.vv.at_ hyt
                      have x3 := HA.out.vd.at_ hyt
                      have x4 := HA.out.vs.at_ hyt
                      rw [rS_at] at x4
                      have x5 := Vec.frozen HA.out.vs y
                      have x6 := Vec.frozen HA.out.vf y
                      have x7 := HA.out.vf.at_ hyt
                      have q1 := HC.out r y hrn hyt
                      have q2 := HG2.out.ub HC.out hrn
                      have q3 := HG2.out.vb hyt
                      have hgy := HGG.out y
                      have HTK := Lib.hid (fun h1 h2 e w2 hw => HA.out.stepTake (w2 := w2) h1 h2 e hw)
                      have HSK := Lib.hid (fun h1 e w2 hw => HA.out.stepSkip (w2 := w2) h1 e hw)
                      obtain ⟨y1, hy1⟩ : ∃ z, c r y = z := ⟨_, rfl⟩
                      obtain ⟨y2, hy2⟩ : ∃ z, U r = z := ⟨_, rfl⟩
                      obtain ⟨y3, hy3⟩ : ∃ z, V y = z := ⟨_, rfl⟩
                      obtain ⟨y4, hy4⟩ : ∃ z, S y = z := ⟨_, rfl⟩
                      rw [hy1, hy2, hy3] at hgy
                      rw [hy1] at g5 q1
                      rw [hy2] at x1 q2
                      rw [hy3] at x2 q3
                      rw [hgy] at HTK HSK
                      rw [hy4] at x4 HTK HSK
                      obtain ⟨q11, q12⟩ := q1
                      obtain ⟨q21, q22⟩ := q2
                      obtain ⟨q31, q32⟩ := q3
                      have q23 : y2 ≤ 100000000 := by omega
                      have q33 : -100000000 ≤ y3 := by omega
                      clear g4 hgy hy1 hy2 hy3 hy4 q22 q31 HA
                      cases hd : d' y with
                      | true =>
                        rw [hd] at x3 HSK
                        have HS2 := Lib.hid (HSK.out (.inl rfl))
                        clear hd HTK HSK
                        go_wp2_with fail
                        go_quiet (fail)
                        go_wp2_with fail
                        go_roundw
                        case rel => exact ⟨y + 1, by omega, by go_num, HS2.out _ _ rfl⟩
                        case measure => simp [intOf] <;> omega
                      | false =>
                        rw [hd] at x3 HTK
                        by_cases hlt : y1 - y2 - y3 < y4
                        · have HS2 := Lib.hid (HTK.out rfl hlt)
                          clear hd HTK HSK
                          go_wp2_with fail
                          go_quiet (fail)
                          go_wp2_with fail
                          go_roundw
                          case rel => exact ⟨y + 1, by omega, by go_num, HS2.out _ _ rfl⟩
                          case measure => simp [intOf] <;> omega
                        · have HS2 := Lib.hid (HSK.out (.inr (by omega)))
                          clear hd HTK HSK
                          go_wp2_with fail
                          go_quiet (fail)
                          go_wp2_with fail
                          go_roundw
                          case rel => exact ⟨y + 1, by omega, by go_num, HS2.out _ _ rfl⟩
                          case measure => simp [intOf] <;> omega
                    · obtain rfl : y = p := by omega
                      have HFIN : Hid (AugSt w B y cc A b c tf ow k to w5) := ⟨U, V, _, _, d', _, _, _, HRX.out, HA.out⟩
                      have HDM2 : Hid (dmem w5 (w.heap.size + 1 + 1) y = cnt d' y) := dmem_eq HA.out.vd
                      clear HA HRX
                      go_wp2_with fail
                      go_roundw
                      case rel => exact HFIN
                      case measure => rw [HDM2.out, HDM.out]; have := HMS.out; omega
end Go.Proofs.Ytgmhinmakomabaa
