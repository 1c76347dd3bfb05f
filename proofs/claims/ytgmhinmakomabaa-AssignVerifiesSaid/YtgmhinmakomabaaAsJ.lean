/-
  hungarian: the reference's walk. No condition.
-/
import Derived.Test.YtgmhinmakomabaaAsIa
import Derived.Deep.DeepCutAuto
namespace Go.Proofs.Ytgmhinmakomabaa
open Go.RowKit
set_option linter.unusedVariables false

def HungPost (w : World) (n : Nat) (c : Nat → Nat → Int) (e : Ending) (w' : World) : Prop :=
  ∃ (bt bu bv o : Nat) (tt : Nat → Nat) (u v : Nat → Int) (x0 y0 : Int), e = .returned (.tuple #[.slice (some ⟨bt, 0, none⟩) n n, .slice (some ⟨bu, o, none⟩) n n, .slice (some ⟨bv, o, none⟩) n n]) ∧ (0 < n → o = 1) ∧
    Perfect n tt ∧ Feas n c u v ∧ Tight n c u v tt ∧ (∀ i, i < n → -1000000000 ≤ u i ∧ u i ≤ 1000000000) ∧ (∀ i, i < n → -1000000000 ≤ v i ∧ v i ≤ 1000000000) ∧
    IVec w' bt n (fun i => (tt i : Int)) ∧ IVec w' bu (n + 1) (sh x0 u) ∧ IVec w' bv (n + 1) (sh y0 v) ∧ bt ≠ bu ∧ bt ≠ bv ∧ bu ≠ bv ∧ w.heap.size ≤ bt ∧ w.heap.size ≤ bu ∧ w.heap.size ≤ bv ∧ Below w.heap.size w w'
def Two0 (w : World) (n bu bv : Nat) (wr : World) : Prop := IVec wr bu (n + 1) (fun _ => 0) ∧ IVec wr bv (n + 1) (fun _ => 0) ∧ bu ≠ bv ∧ w.heap.size ≤ bu ∧ w.heap.size ≤ bv ∧ Below w.heap.size w wr

set_option maxRecDepth 100000 in
set_option maxHeartbeats 4000000 in
theorem hungarian_any (w : World) (A : Option Addr) (n cc : Nat) (c : Nat → Nat → Int) (h : Sq w w.heap.size A n c) (hc : CB n c) (hn : n ≤ 40) :
    Calls Try.prog 25 #[.slice A n cc] w (HungPost w n c) := by
  have mk1 := make_ints (n + 1) (by omega)
  have mk2 := make_bools (n + 1) (by omega)
  have mk3 := make_ints n (by omega)
  rw [show ((n + 1 : Nat) : Int) = (n : Int) + 1 by omega] at mk1 mk2
  have HS := Lib.hid h
  have HC := Lib.hid hc
  clear h hc
  go_enter Try.func25, Try.ntmps25
  go_upto_region 2 with fail
  go_cut [6, 7] (fun s t wr => ∃ bu bv, s = .slice (some ⟨bu, 0, none⟩) (n + 1) (n + 1) ∧ t = .slice (some ⟨bv, 0, none⟩) (n + 1) (n + 1) ∧ Hid (Two0 w n bu bv wr))
  case first =>
    have t1 : Two0 w n w.heap.size (w.heap.size + 1) ((w.alloc (.cells (Array.replicate (n + 1) (Value.int .i64 0)) 3)).alloc (.cells (Array.replicate (n + 1) (Value.int .i64 0)) 3)).drew :=
      ⟨((Vec.new w _ _ _).alloc _).drew, by have := (Vec.new (w.alloc (.cells (Array.replicate (n + 1) (Value.int .i64 0)) 3)) 3 (n + 1) (.int .i64 0)).drew; exact (by simpa using this : Vec _ (w.heap.size + 1) 3 (n + 1) (fun _ => .int .i64 0)), by omega, Nat.le_refl _, by omega, below_drewN (((Below.refl _ w).alloc (Nat.le_refl _) _).alloc (by simp) _) 1⟩
    have t2 : Two0 w n (w.heap.size + 1) w.heap.size ((w.alloc (.cells (Array.replicate (n + 1) (Value.int .i64 0)) 3)).alloc (.cells (Array.replicate (n + 1) (Value.int .i64 0)) 3)).drew := ⟨t1.2.1, t1.1, by omega, by omega, Nat.le_refl _, t1.2.2.2.2.2⟩
    have T1 := Lib.hid t1
    have T2 := Lib.hid t2
    clear t1 t2 mk2 mk3
    go_region
    all_goals
      go_wp2_with fail
      go_meet
      first | exact ⟨_, _, rfl, rfl, T1.out⟩ | exact ⟨_, _, rfl, rfl, T2.out⟩
  case rest =>
    obtain ⟨bu, bv, rfl, rfl, HT⟩ := hcut
    obtain ⟨w1, rfl⟩ : ∃ wo : World, wo = wc := ⟨_, rfl⟩
    have hb1 := HT.out.2.2.2.2.2
    have HX0 : Hid (HX w (w1.alloc (.cells (Array.replicate (n + 1) (Value.int .i64 0)) 3)) A n cc ⟨bu, bv, w1.heap.size⟩ c (fun _ => 0) (fun _ => 0) (fun _ => -1) 0 0 0) := by
      obtain ⟨a1, a2, a3, a4, a5, a6⟩ := HT.out
      have l1 := Vec.lt a1
      have l2 := Vec.lt a2
      exact ⟨HS.out.below (a6.alloc a6.size _), (a1.alloc _).congr (fun i _ => by cases i <;> rfl), (a2.alloc _).congr (fun i _ => by cases i <;> rfl), Vec.congr (Vec.new _ _ _ _) (fun i _ => by cases i <;> rfl), ⟨a4, a5, a6.size, a3, by show bu ≠ w1.heap.size; omega, by show bv ≠ w1.heap.size; omega⟩, hn, a6.alloc a6.size _⟩
    obtain ⟨b, hb⟩ : ∃ b : HB, b = ⟨bu, bv, w1.heap.size⟩ := ⟨_, rfl⟩
    have e1 : bu = b.u := by rw [hb]
    have e2 : bv = b.v := by rw [hb]
    have e3 : w1.heap.size = b.r := by rw [hb]
    rw [← hb] at HX0
    have HA : Hid (HunA w A n cc b c 0 (w1.alloc (.cells (Array.replicate (n + 1) (Value.int .i64 0)) 3))) := ⟨_, _, fun _ => 0, _, _, _, _, Ph.start HC.out (fun _ _ => rfl) (fun _ _ => rfl) (fun _ _ => rfl) _, HX0.out, by omega, by omega⟩
    clear HX0 hb HT hb1
    subst e1 e2
    go_wp2_with fail
    clear e3
    obtain ⟨w2, hw2⟩ : ∃ w2, w2 = w1.alloc (.cells (Array.replicate (n + 1) (Value.int .i64 0)) 3) := ⟨_, rfl⟩
    rw [← hw2] at HA ⊢
    clear hw2
    go_loopw [9] (fun s wr => ∃ k : Nat, k ≤ n ∧ s = .int .i64 ((k : Int) + 1) ∧ Hid (HunA w A n cc b c k wr)) (fun s _ => n + 1 - (intOf s).toNat)
    case atStart => exact ⟨0, by omega, rfl, HA⟩
    case round =>
      clear HA
      obtain ⟨wo, rfl⟩ : ∃ wo : World, wo = wr := ⟨_, rfl⟩
      obtain ⟨k, hk, rfl, HA⟩ := hrel
      by_cases hkt : k < n
      · obtain ⟨u, v, tt, ow, x0, y0, r0, h1, h2, h3, h4⟩ := HA.out
        have HL0 : Hid (LFill w A n cc b c u v ow x0 y0 r0 wo.heap.size 0 (((wo.alloc (.cells (Array.replicate (n + 1) (Value.int .i64 0)) 3)).alloc (.cells (Array.replicate (n + 1) (Value.int .i64 0)) 3)).alloc (.cells (Array.replicate (n + 1) (Value.bool false)) 4))) :=
          ⟨_, _, HP.start h2, fun h => absurd h (by omega), fun i hi => absurd hi (by omega)⟩
        have HPH := Lib.hid h1
        have hk1 : decide ((k : Int) + 1 ≤ (n : Int)) = true := by simp <;> omega
        obtain ⟨s, hs⟩ : ∃ s, wo.heap.size = s := ⟨_, rfl⟩
        rw [hs] at HL0
        clear h1 h2 HA
        go_wp2_with fail
        clear hs
        obtain ⟨w3, hw3⟩ : ∃ w3, w3 = (((wo.alloc (.cells (Array.replicate (n + 1) (Value.int .i64 0)) 3)).alloc (.cells (Array.replicate (n + 1) (Value.int .i64 0)) 3)).alloc (.cells (Array.replicate (n + 1) (Value.bool false)) 4)) := ⟨_, rfl⟩
        rw [← hw3] at HL0 ⊢
        clear hw3
        go_loopw [13] (fun z wr => ∃ J : Nat, J ≤ n + 1 ∧ z = .int .i64 (J : Int) ∧ Hid (LFill w A n cc b c u v ow x0 y0 r0 s J wr)) (fun z _ => n + 1 - (intOf z).toNat)
        case atStart => exact ⟨0, by omega, rfl, HL0⟩
        case round =>
          clear HL0
          obtain ⟨w4, rfl⟩ : ∃ wo : World, wo = wr := ⟨_, rfl⟩
          obtain ⟨J, hJ, rfl, HL⟩ := hrel
          by_cases hJt : J < n + 1
          · have hJ2 : J ≤ n := by omega
            obtain ⟨⟨z, hz⟩, hzf, hnx⟩ := HL.out.next hJt
            have HN := Lib.hid hnx
            clear hnx HL
            go_wp2_with fail
            go_roundw
            case rel => exact ⟨J + 1, by omega, by go_num, HN⟩
            case measure => simp [intOf] <;> omega
          · obtain rfl : J = n + 1 := by omega
            rw [show ((n + 1 : Nat) : Int) = (n : Int) + 1 by omega]
            have hH := HL.out.done
            have HH : Hid (HunH w A n cc b c k s 0 (w4.setCell ⟨b.r, 0, none⟩ (.int .i64 ((k : Int) + 1)))) := .inl ⟨u, v, tt, ow, x0, y0, rfl, HPH.out, hH.setR0 _, h3, h4⟩
            have hz := hH.hx.vr.at_ (i := 0) (by omega)
            have hzf := Vec.frozen hH.hx.vr 0
            clear hH HL HPH h3 h4
            go_wp2_with fail
            obtain ⟨w5, hw5⟩ : ∃ w5, w5 = w4.setCell ⟨b.r, 0, none⟩ (.int .i64 ((k : Int) + 1)) := ⟨_, rfl⟩
            rw [← hw5] at HH ⊢
            clear hz hzf hw5
            go_loopw [14] (fun z wr => ∃ a : Nat, z = .int .i64 (a : Int) ∧ Hid (HunH w A n cc b c k s a wr)) (fun _ wr => n + 2 - dmem wr (s + 1 + 1) (n + 1))
            case atStart => exact ⟨0, rfl, HH⟩
            case round =>
              clear HH
              obtain ⟨w6, rfl⟩ : ∃ wo : World, wo = wr := ⟨_, rfl⟩
              obtain ⟨a, rfl, HH⟩ := hrel
              rcases HH.out.split hkt HC.out with ⟨x, rfl, hxn, hrow, hF⟩ | ⟨u, v, tt, ow, x0, y0, wy, sl, d, r, D, g, hP⟩
              · obtain ⟨u, v, tt, ow, x0, y0, d, sl, fr, ord, m, D, wy, _, hg, h0, ho, hw, hp, hy1, hy2⟩ := hF
                have HO1 : Hid (upd ord x m x = m) := upd_same _ _ _
                have HO2 : Hid (∀ y, y ≠ x → upd ord x m y = ord y) := fun y hy => upd_ne _ _ hy
                obtain ⟨o1, ho1⟩ : ∃ o1, o1 = upd ord x m := ⟨_, rfl⟩
                rw [← ho1] at HO1 HO2
                have HT : Hid (HunT w A n cc b c k s u v tt ow d fr ord wy sl x0 y0 x (o1 x) w6) := by rw [HO1.out]; exact HunF.start hg hxn h0 ho hp
                have HG := Lib.hid hg
                have HWY := Lib.hid hw
                have HDX := Lib.hid (hg.free_nd hxn ho)
                clear hg h0 ho hw hp HH ho1
                go_wp2_with fail
                go_loopw [14] (fun z wr => ∃ a : Nat, z = .int .i64 (a : Int) ∧ ((a = 0 ∧ Hid (HunA w A n cc b c (k + 1) wr)) ∨ ∃ y, a = y + 1 ∧ y < n ∧ Hid (HunT w A n cc b c k s u v tt ow d fr ord wy sl x0 y0 y (o1 y) wr))) (fun z _ => if (intOf z).toNat = 0 then 0 else o1 ((intOf z).toNat - 1) + 1)
                case atStart => exact ⟨x + 1, rfl, .inr ⟨x, rfl, hxn, HT⟩⟩
                case round =>
                  clear HT hrow
                  obtain ⟨w7, rfl⟩ : ∃ wo : World, wo = wr := ⟨_, rfl⟩
                  obtain ⟨a, rfl, ⟨rfl, HA⟩ | ⟨y, rfl, hyn, HT⟩⟩ := hrel
                  · go_wp2_with fail
                    go_roundw
                    case rel => exact ⟨k + 1, by omega, by go_num, HA⟩
                    case measure => simp [intOf] <;> omega
                  · obtain ⟨e1, ⟨z, e2⟩, e3, e4, e5⟩ := HT.out.step HG.out HWY.out hyn hy1 hy2
                    have hsr : b.r < s := by obtain ⟨_, _, _, hpp⟩ := HT.out; exact hpp.sr
                    have n1 : ¬ s = b.r := by omega
                    have n2 : ¬ b.r = s := by omega
                    have hyne : ((y : Int) + 1 == 0) = false := by simp <;> omega
                    rcases e5 with ⟨g1, g2, g3⟩ | ⟨p, g1, g2, g3, g4, g5, g6⟩
                    · rw [g1] at e1
                      have HA2 := Lib.hid g3
                      clear HT g1 g3
                      go_wp2_with fail
                      go_roundw
                      case rel => exact ⟨0, by go_num, .inl ⟨rfl, HA2⟩⟩
                      case measure => simp [intOf] <;> omega
                    · rw [g1] at e1
                      have hpx : p ≠ x := fun e => by have := HDX.out; rw [e] at g5; rw [this] at g5; cases g5
                      have HM : Hid (o1 p = ord p) := HO2.out p hpx
                      have hlt : o1 p < o1 y := by rw [HM.out]; exact g4
                      rw [← HM.out] at g6
                      have HA2 := Lib.hid g6
                      obtain ⟨q, hq⟩ : ∃ q, fr y = q := ⟨_, rfl⟩
                      rw [hq] at g3 HA2
                      have HLT := Lib.hid hlt
                      clear HT g1 g4 g5 g6 hpx HM hq hlt
                      go_wp2_with fail
                      go_roundw
                      case rel => exact ⟨p + 1, by go_num, .inr ⟨p, rfl, g2, HA2⟩⟩
                      case measure =>
                        have h1 := HLT.out
                        simp [intOf]
                        omega
              · have han := hP.an
                have hrn := hP.rn
                have hrow := hP.row
                obtain ⟨zu, hzu⟩ := hP.used
                have hzf := hP.usedf
                have HP0 := Lib.hid hP
                have hrne : ((r : Int) + 1 == 0) = false := by simp <;> omega
                have hrne2 : ((r : Int) + 1 != 0) = true := by simp <;> omega
                obtain ⟨S, hS⟩ : ∃ S, S = rS d sl g n := ⟨_, rfl⟩
                have HSS := Lib.hid hS
                have HX0 : Hid (HP w (w6.setCell ⟨s + 1 + 1, a, none⟩ (.bool true)) A n cc b c u v ow x0 y0 ((k : Int) + 1) s (rF d sl g wy a 0) farV (rS d sl g 0) true d) :=
                  hP.hp.congr (fun _ _ => rfl) (fun _ _ => rfl) (fun _ _ => rfl) (fun i _ => rF_start g a i) (fun i _ => rS_start g i) (fun _ _ => rfl)
                have HR : Hid ((w6.setCell ⟨s + 1 + 1, a, none⟩ (.bool true)).cell? ⟨b.r, a, none⟩ = some (.int .i64 ((r : Int) + 1))) := by
                  have := hP.hp.sr
                  show _ = _
                  rw [World.cell?_setCell_other _ _ _ _ (by simp <;> omega)]
                  exact hrow
                clear hP HH hS
                go_wp2_with fail
                obtain ⟨w7, hw7⟩ : ∃ w7, w7 = w6.setCell ⟨s + 1 + 1, a, none⟩ (.bool true) := ⟨_, rfl⟩
                rw [← hw7] at HX0 HR ⊢
                clear hw7 hrow hzu hzf
                go_loopw [15, 16, 17] (fun z15 z16 z17 wr => ∃ (q nx : Nat) (dl : Int), q ≤ n ∧ z17 = .int .i64 ((q : Int) + 1) ∧ z15 = .int .i64 dl ∧ z16 = .int .i64 (nx : Int) ∧ Hid (Arg2 S d q dl nx) ∧ Hid (wr.cell? ⟨b.r, a, none⟩ = some (.int .i64 ((r : Int) + 1))) ∧
                  Hid (HP w wr A n cc b c u v ow x0 y0 ((k : Int) + 1) s (rF d sl g wy a q) farV (rS d sl g q) true d)) (fun _ _ z _ => n + 1 - (intOf z).toNat)
                case atStart => exact ⟨0, 0, _, by omega, rfl, rfl, rfl, Arg2.start S d, HR, HX0⟩
                case round =>
                  clear HX0 HR
                  obtain ⟨w8, rfl⟩ : ∃ wo : World, wo = wr := ⟨_, rfl⟩
                  obtain ⟨q, nx, dl, hq, rfl, rfl, rfl, HAR, HR, HX⟩ := hrel
                  by_cases hqt : q < n
                  · have hqt2 : (q : Int) + 1 ≤ (n : Int) := by omega
                    have x1 := HX.out.vs.at_ (i := q + 1) (by omega)
                    have x2 := HX.out.vl.at_ (i := q + 1) (by omega)
                    have x3 := Vec.frozen HX.out.vl (q + 1)
                    have x4 := Vec.frozen HX.out.vw (q + 1)
                    have x5 := HX.out.vw.at_ (i := q + 1) (by omega)
                    have xr : w8.cell? ⟨b.r, a, none⟩ = some (.int .i64 ((r : Int) + 1)) := HR.out
                    simp only [sh] at x1 x2 x5
                    cases hd : d q with
                    | true =>
                      rw [hd] at x1
                      have HA2 := Lib.hid (HAR.out.done hd)
                      have HX2 := Lib.hid (HX.out.pass (w2 := w8) (.inl hd) 0 rfl)
                      clear hd HX HAR
                      go_wp2_with fail
                      go_roundw
                      case rel => exact ⟨q + 1, nx, dl, by omega, by go_num, rfl, rfl, HA2, HR, HX2⟩
                      case measure => simp [intOf] <;> omega
                    | false =>
                      rw [hd] at x1
                      obtain ⟨fr, ord, m, hgr, _⟩ := HP0.out.gr
                      obtain ⟨b1, o1, b2, o2, c', hAA, _, _, g3, g4⟩ := HX.out.hx.sq r hrn
                      subst hAA
                      have g5 := g4 q hqt
                      have y1 := HX.out.hx.vu.at_ (i := r + 1) (by omega)
                      have y2 := HX.out.hx.vv.at_ (i := q + 1) (by omega)
                      simp only [sh] at y1 y2
                      rw [rS_at] at x2
                      have q1 := HC.out r q hrn hqt
                      have q2 := hgr.ub HC.out hrn
                      have q3 := hgr.vb hqt
                      have q4 := hgr.slb HC.out hqt hd
                      have hgq := HP0.out.gg q
                      rw [← HSS.out] at q4
                      have HTK := Lib.hid (fun h e w2 hw => HX.out.take (w2 := w2) hd h e hw)
                      have HPS := Lib.hid (fun h e w2 hw => HX.out.pass (w2 := w2) (.inr h) e hw)
                      have HLS := Lib.hid (fun h => HAR.out.less hd h)
                      have HNT := Lib.hid (fun h h2 => HAR.out.not hd h h2)
                      have hSq : (g q < sl q → S q = g q) ∧ (sl q ≤ g q → S q = sl q) := by
                        rw [HSS.out]
                        unfold rS
                        exact ⟨fun h => by rw [if_pos ⟨hqt, hd, h⟩], fun h => by rw [if_neg (fun e => by have := e.2.2; omega)]⟩
                      have hr2 : ∀ (e : Nat) (z : Int), (((w8.drewN e).setCell ⟨s + 1, q + 1, none⟩ (.int .i64 z)).setCell ⟨s, q + 1, none⟩ (.int .i64 (a : Int))).cell? ⟨b.r, a, none⟩ = some (.int .i64 ((r : Int) + 1)) := fun e z => by
                        have := HX.out.sr
                        rw [World.cell?_setCell_other _ _ _ _ (by simp <;> omega), World.cell?_setCell_other _ _ _ _ (by simp <;> omega)]
                        exact HR.out
                      have HR2 := Lib.hid hr2
                      obtain ⟨z1, hz1⟩ : ∃ z, c r q = z := ⟨_, rfl⟩
                      obtain ⟨z2, hz2⟩ : ∃ z, u r = z := ⟨_, rfl⟩
                      obtain ⟨z3, hz3⟩ : ∃ z, v q = z := ⟨_, rfl⟩
                      obtain ⟨z4, hz4⟩ : ∃ z, sl q = z := ⟨_, rfl⟩
                      rw [hz1] at g5 q1 hgq
                      rw [hz2] at y1 q2 hgq
                      rw [hz3] at y2 q3 hgq
                      rw [hgq] at HTK HPS hSq
                      rw [hz4] at x2 HTK HPS hSq
                      obtain ⟨q11, q12⟩ := q1
                      obtain ⟨q21, q22⟩ := q2
                      obtain ⟨q31, q32⟩ := q3
                      obtain ⟨q41, q42⟩ := q4
                      have q23 : z2 ≤ 100000000 := by omega
                      have q33 : -100000000 ≤ z3 := by omega
                      have q43 : S q < 1125899906842624 := by omega
                      have j1 : IntKind.i64.wrap (r : Int) = (r : Int) := IntWalk.i64_in _ (by omega)
                      have j2 : IntKind.i64.wrap (q : Int) = (q : Int) := IntWalk.i64_in _ (by omega)
                      have j3 : IntKind.i64.wrap ((r : Int) + 1 - 1) = (r : Int) := by rw [Int.add_sub_cancel]; exact j1
                      have j4 : IntKind.i64.wrap ((q : Int) + 1 - 1) = (q : Int) := by rw [Int.add_sub_cancel]; exact j2
                      have i1 : ((r : Int) + 1).toNat = r + 1 := by omega
                      have i2 : (0 : Int) ≤ (r : Int) + 1 := by omega
                      have i3 : (r : Int) + 1 < (n : Int) + 1 := by omega
                      clear g4 hr2 hgr hz1 hz2 hz3 hz4 hgq q22 q31 q42 hd HX HAR
                      by_cases hlt : z1 - z2 - z3 < z4
                      · have hS2 := hSq.1 hlt
                        rw [hS2] at q43 HLS HNT
                        have HT2 := Lib.hid (HTK.out hlt)
                        clear hSq hS2 HTK HPS
                        by_cases hdl : z1 - z2 - z3 < dl
                        · have HA2 := Lib.hid (HLS.out hdl)
                          clear HLS HNT
                          go_wp2_with fail
                          go_quiet (fail)
                          clear j1 j2 j3 j4
                          go_wp2_with fail
                          go_roundw
                          case rel => exact ⟨q + 1, q + 1, z1 - z2 - z3, by omega, by go_num, rfl, by go_num, HA2, HR2.out nq _, HT2.out nq _ rfl⟩
                          case measure => simp [intOf] <;> omega
                        · have HA2 := Lib.hid (HNT.out q43 (by omega))
                          clear HLS HNT
                          go_wp2_with fail
                          go_quiet (fail)
                          clear j1 j2 j3 j4
                          go_wp2_with fail
                          go_roundw
                          case rel => exact ⟨q + 1, nx, dl, by omega, by go_num, rfl, rfl, HA2, HR2.out nq _, HT2.out nq _ rfl⟩
                          case measure => simp [intOf] <;> omega
                      · have hS2 := hSq.2 (by omega)
                        rw [hS2] at q43 HLS HNT
                        have HT2 := Lib.hid (HPS.out (by omega))
                        clear hSq hS2 HTK HPS
                        by_cases hdl : z4 < dl
                        · have HA2 := Lib.hid (HLS.out hdl)
                          clear HLS HNT
                          go_wp2_with fail
                          go_quiet (fail)
                          clear j1 j2 j3 j4
                          go_wp2_with fail
                          go_roundw
                          case rel => exact ⟨q + 1, q + 1, z4, by omega, by go_num, rfl, by go_num, HA2, HR, HT2.out nq _ rfl⟩
                          case measure => simp [intOf] <;> omega
                        · have HA2 := Lib.hid (HNT.out q43 (by omega))
                          clear HLS HNT
                          go_wp2_with fail
                          go_quiet (fail)
                          clear j1 j2 j3 j4
                          go_wp2_with fail
                          go_roundw
                          case rel => exact ⟨q + 1, nx, dl, by omega, by go_num, rfl, rfl, HA2, HR, HT2.out nq _ rfl⟩
                          case measure => simp [intOf] <;> omega
                  · obtain rfl : q = n := by omega
                    obtain ⟨fr, ord, m, hgr, hwy⟩ := HP0.out.gr
                    rw [← HSS.out] at hgr
                    obtain ⟨x, rfl, hxn, hdx, hdl, hmin⟩ : ∃ x : Nat, nx = x + 1 ∧ x < q ∧ d x = false ∧ dl = S x ∧ ∀ i, i < q → d i = false → S x ≤ S i := by
                      rcases HAR.out with ⟨_, _, e3⟩ | h
                      · obtain ⟨y, hy, hdy⟩ := hgr.some_nd
                        rw [e3 y hy] at hdy; cases hdy
                      · exact h
                    have hrd := hgr.round hxn hdx hmin
                    have hb := hgr.slb HC.out hxn hdx
                    rw [← hdl] at hrd hb
                    have HG := Lib.hid hgr
                    have HRD := Lib.hid hrd
                    have HWY := Lib.hid hwy
                    have HDX := Lib.hid hdx
                    have hy1 := HP0.out.y1
                    have hy2 := HP0.out.y2
                    have hDle := hgr.Dle
                    have hD0 := hgr.D0
                    have HCN := Lib.hid HP0.out.cn
                    have HXX : Hid (HP w w8 A q cc b c u v ow x0 y0 ((k : Int) + 1) s (rF d sl g wy a q) farV S true d) := by rw [HSS.out]; exact HX.out
                    obtain ⟨hb1, hb2⟩ := hb
                    have hb3 : dl ≤ 100000000 := by omega
                    have hy3 : -100000000 ≤ y0 := by omega
                    obtain ⟨wz, hwz⟩ : ∃ z, rF d sl g wy a q = z := ⟨_, rfl⟩
                    rw [hwz] at HXX HWY
                    clear hgr hwy hmin hrd hdl hdx HX HR HAR HP0 HSS hb2 hwz
                    go_wp2_with fail
                    go_loopw [19] (fun z wr => ∃ J : Nat, J ≤ q + 1 ∧ z = .int .i64 (J : Int) ∧ Hid ((J = 0 ∧ HP w wr A q cc b c u v ow x0 y0 ((k : Int) + 1) s wz farV S true d) ∨ ∃ p, J = p + 1 ∧ HP w wr A q cc b c (uJ k tt d u dl p) (vJ d v dl p) ow x0 (y0 - dl) ((k : Int) + 1) s wz farV (sJ d S dl p) true d)) (fun z _ => q + 1 - (intOf z).toNat)
                    case atStart => exact ⟨0, by omega, rfl, .inl ⟨rfl, HXX.out⟩⟩
                    case round =>
                      clear HXX
                      obtain ⟨w9, rfl⟩ : ∃ wo : World, wo = wr := ⟨_, rfl⟩
                      obtain ⟨J, hJ, rfl, HJ⟩ := hrel
                      by_cases hJt : J < q + 1
                      · have hJ2 : J ≤ q := by omega
                        rcases HJ.out with ⟨rfl, hh⟩ | ⟨p, rfl, hh⟩
                        · have x1 := hh.vs.at_ (i := 0) (by omega)
                          have x2 := hh.hx.vr.at_ (i := 0) (by omega)
                          have x3 := hh.hx.vu.at_ (i := k + 1) (by omega)
                          have x4 := Vec.frozen hh.hx.vu (k + 1)
                          have x5 := hh.hx.vv.at_ (i := 0) (by omega)
                          have x6 := Vec.frozen hh.hx.vv 0
                          simp only [sh] at x1 x2 x3 x5
                          have q2 := HG.out.ub HC.out hkt
                          have n1 := hh.hx.ok.uv
                          have n2 := n1.symm
                          have n3 := hh.hx.ok.ur
                          have n4 := n3.symm
                          have HMV := Lib.hid (fun e w2 hw => hh.move0 (w2 := w2) (δ := dl) e hw k tt)
                          obtain ⟨z2, hz2⟩ : ∃ z, u k = z := ⟨_, rfl⟩
                          rw [hz2] at x3 q2 HMV
                          obtain ⟨q21, q22⟩ := q2
                          have q23 : z2 ≤ 100000000 := by omega
                          have i1 : ((k : Int) + 1).toNat = k + 1 := by omega
                          have i2 : (0 : Int) ≤ (k : Int) + 1 := by omega
                          have i3 : (k : Int) + 1 < (q : Int) + 1 := by omega
                          clear hh HJ hz2 q22
                          go_wp2_with fail
                          refine region_tail 15 (by kernel_rfl) (by kernel_rfl) _ rfl ?_
                          simp only [List.take_succ_cons, List.take_zero, List.drop_succ_cons, List.drop_zero]
                          repeat (go_big_quiet_step (fail))
                          refine wpQuiet_nil ?_
                          go_wp2_with fail
                          go_roundw
                          case rel => exact ⟨1, by omega, by go_num, .inr ⟨0, rfl, HMV.out 1 _ rfl⟩⟩
                          case measure => simp [intOf] <;> omega
                        · have hpq : p < q := by omega
                          have x1 := hh.vs.at_ (i := p + 1) (by omega)
                          simp only [sh] at x1
                          cases hd : d p with
                          | true =>
                            rw [hd] at x1
                            obtain ⟨r', hrk, hr, htr⟩ := (HG.out.col p hpq).resolve_left (HG.out.dn p hpq hd)
                            have hrn' : r' < q := by have := HG.out.kn; omega
                            have x2 := hh.hx.vr.at_ (i := p + 1) (by omega)
                            have x3 := hh.hx.vu.at_ (i := r' + 1) (by omega)
                            have x4 := Vec.frozen hh.hx.vu (r' + 1)
                            have x5 := hh.hx.vv.at_ (i := p + 1) (by omega)
                            have x6 := Vec.frozen hh.hx.vv (p + 1)
                            simp only [sh] at x2 x3 x5
                            have hr1 := (uJ_done (u := u) (δ := dl) HG.out hpq hd hr).1.2
                            rw [hr] at x2
                            rw [hr1] at x3
                            rw [vJ_at] at x5
                            have q2 := HG.out.ub HC.out hrn'
                            have q3 := HG.out.vb hpq
                            have n1 := hh.hx.ok.uv
                            have n2 := n1.symm
                            have n3 := hh.hx.ok.ur
                            have n4 := n3.symm
                            have HMV := Lib.hid (fun e w2 hw => hh.moveDone (w2 := w2) HG.out hpq hd hr e hw)
                            obtain ⟨z2, hz2⟩ : ∃ z, u r' = z := ⟨_, rfl⟩
                            obtain ⟨z3, hz3⟩ : ∃ z, v p = z := ⟨_, rfl⟩
                            rw [hz2] at x3 q2 HMV
                            rw [hz3] at x5 q3 HMV
                            obtain ⟨q21, q22⟩ := q2
                            obtain ⟨q31, q32⟩ := q3
                            have q23 : z2 ≤ 100000000 := by omega
                            have q33 : -100000000 ≤ z3 := by omega
                            have i1 : ((r' : Int) + 1).toNat = r' + 1 := by omega
                            have i2 : (0 : Int) ≤ (r' : Int) + 1 := by omega
                            have i3 : (r' : Int) + 1 < (q : Int) + 1 := by omega
                            clear hh HJ hz2 hz3 q22 q31 hd hr htr hr1
                            go_wp2_with fail
                            refine region_tail 15 (by kernel_rfl) (by kernel_rfl) _ rfl ?_
                            simp only [List.take_succ_cons, List.take_zero, List.drop_succ_cons, List.drop_zero]
                            repeat (go_big_quiet_step (fail))
                            refine wpQuiet_nil ?_
                            go_wp2_with fail
                            go_roundw
                            case rel => exact ⟨p + 1 + 1, by omega, by go_num, .inr ⟨p + 1, rfl, HMV.out 1 _ rfl⟩⟩
                            case measure => simp [intOf] <;> omega
                          | false =>
                            rw [hd] at x1
                            have x2 := hh.vl.at_ (i := p + 1) (by omega)
                            have x3 := Vec.frozen hh.vl (p + 1)
                            simp only [sh] at x2
                            rw [sJ_at] at x2
                            have q4 := HG.out.slb HC.out hpq hd
                            have HMV := Lib.hid (hh.moveNot hd)
                            obtain ⟨z2, hz2⟩ : ∃ z, S p = z := ⟨_, rfl⟩
                            rw [hz2] at x2 q4 HMV
                            obtain ⟨q21, q22⟩ := q4
                            have q23 : z2 ≤ 100000000 := by omega
                            clear hh HJ hz2 q22 hd
                            go_wp2_with fail
                            go_roundw
                            case rel => exact ⟨p + 1 + 1, by omega, by go_num, .inr ⟨p + 1, rfl, HMV⟩⟩
                            case measure => simp [intOf] <;> omega
                      · obtain rfl : J = q + 1 := by omega
                        obtain ⟨p, hp, hh⟩ := HJ.out.resolve_left (fun e => by omega)
                        obtain rfl : p = q := by omega
                        have HFIN : Hid (HunH w A p cc b c k s (x + 1) w9) := .inr ⟨_, _, tt, ow, x0, y0 - dl, x, d, _, fr, ord, m, _, wz, rfl, hxn, HRD.out.1, HRD.out.2, HDX.out, HWY.out, hh, by omega, by omega⟩
                        have HMS : Hid (dmem w9 (s + 1 + 1) (p + 1) = cnt d p + 1 ∧ cnt d p + 1 ≤ p + 1) := by
                          refine ⟨by rw [dmem_eq hh.vs, cnt_sh]; simp, ?_⟩
                          have := cnt_le d p
                          omega
                        clear HJ hh
                        go_wp2_with fail
                        go_roundw
                        case rel => exact ⟨x + 1, by go_num, HFIN⟩
                        case measure => have h1 := HMS.out; have h2 := HCN.out; omega
      · obtain rfl : k = n := by omega
        obtain ⟨u, v, tt, ow, x0, y0, r0, h1, h2, h3, h4⟩ := HA.out
        have HPH := Lib.hid h1
        have HX2 := Lib.hid h2
        have hB1 : Hid (Below w.heap.size w wo) := h2.bel
        have HM : Hid (∃ tq : Nat → Int, IVec (wo.alloc (.cells (Array.replicate k (Value.int .i64 0)) 3)) wo.heap.size k tq ∧ ∀ i, i < k → tt i < 0 → tq i = tt i) := ⟨_, Vec.new _ _ _ _, fun i _ hi => absurd hi (by omega)⟩
        have HX3 : Hid (HX w (wo.alloc (.cells (Array.replicate k (Value.int .i64 0)) 3)) A k cc b c u v ow x0 y0 r0) := h2.alloc _
        obtain ⟨bt, hbt⟩ : ∃ z, wo.heap.size = z := ⟨_, rfl⟩
        have l1 := Vec.lt h2.vu
        have l2 := Vec.lt h2.vv
        have l3 := Vec.lt h2.vr
        have l4 := h2.bel.size
        rw [hbt] at HM l1 l2 l3 l4
        clear h1 h2 HA
        go_wp2_with fail
        clear hbt
        obtain ⟨w3, hw3⟩ : ∃ w3, w3 = wo.alloc (.cells (Array.replicate k (Value.int .i64 0)) 3) := ⟨_, rfl⟩
        rw [← hw3] at HM HX3 ⊢
        clear hw3
        go_loopw [21] (fun z wr => ∃ q : Nat, q ≤ k ∧ z = .int .i64 ((q : Int) + 1) ∧ Hid (∃ tq : Nat → Int, IVec wr bt k tq ∧ ∀ i, i < k → tt i < q → tq i = tt i) ∧ Hid (HX w wr A k cc b c u v ow x0 y0 r0)) (fun z _ => k + 1 - (intOf z).toNat)
        case atStart => exact ⟨0, by omega, rfl, HM, HX3⟩
        case round =>
          clear HM HX3
          obtain ⟨w4, rfl⟩ : ∃ wo : World, wo = wr := ⟨_, rfl⟩
          obtain ⟨q, hq, rfl, HM, HX3⟩ := hrel
          by_cases hqt : q < k
          · have hqt2 : (q : Int) + 1 ≤ (k : Int) := by omega
            obtain ⟨tq, m1, m2⟩ := HM.out
            obtain ⟨r, hr, e1⟩ := HPH.out.done.1.onto hqt
            have hor := HPH.out.own r hr
            rw [e1] at hor
            have x1 := HX3.out.vr.at_ (i := q + 1) (by omega)
            simp only [sh] at x1
            rw [hor] at x1
            have x2 := m1.at_ hr
            have x3 := Vec.frozen m1 r
            have HM2 : Hid (∃ tq : Nat → Int, IVec (w4.setCell ⟨bt, r, none⟩ (.int .i64 (q : Int))) bt k tq ∧ ∀ i, i < k → tt i < q + 1 → tq i = tt i) := by
              refine ⟨_, m1.set_ r q, fun i hi hlt => ?_⟩
              by_cases e : i = r
              · subst e; rw [upd_same, e1]
              · rw [upd_ne _ _ e]
                refine m2 i hi ?_
                have hne : tt i ≠ q := fun e2 => e (HPH.out.done.1.2 i r hi hr (by rw [e1, e2]))
                omega
            have HX4 : Hid (HX w (w4.setCell ⟨bt, r, none⟩ (.int .i64 (q : Int))) A k cc b c u v ow x0 y0 r0) := HX3.out.far (p := ⟨bt, r, none⟩) (by show _ ≤ bt; omega) (by show b.u ≠ bt; omega) (by show b.v ≠ bt; omega) (by show b.r ≠ bt; omega) _
            clear HM HX3 m1 m2 hor e1
            go_wp2_with fail
            go_roundw
            case rel => exact ⟨q + 1, by omega, by go_num, HM2, HX4⟩
            case measure => simp [intOf] <;> omega
          · obtain rfl : q = k := by omega
            have HE : Hid (∀ o : Nat, ∀ d : Nat, (0 < q → o = 1) → HungPost w q c (.returned (.tuple #[.slice (some ⟨bt, 0, none⟩) q q, .slice (some ⟨b.u, o, none⟩) q q, .slice (some ⟨b.v, o, none⟩) q q])) (w4.drewN d)) := fun o d ho => by
              obtain ⟨tq, m1, m2⟩ := HM.out
              refine ⟨bt, b.u, b.v, o, tt, u, v, x0, y0, rfl, ho, HPH.out.done.1, HPH.out.feas, HPH.out.done.2, fun i hi => ?_, fun i hi => ?_, ?_, HX3.out.vu, HX3.out.vv, by omega, by omega, HX3.out.ok.uv, by omega, HX3.out.ok.u, HX3.out.ok.v, below_drewN HX3.out.bel d⟩
              · have := HPH.out.ub HC.out hi; omega
              · have := HPH.out.vle i hi; omega
              · exact IVec.congr (f := tq) (m1.drewN d) fun i hi => (m2 i hi (HPH.out.done.1.1 i hi)).symm
            clear HM HX3 HPH HX2 hB1
            rcases Nat.eq_zero_or_pos q with h0 | h0
            · subst h0
              have HE2 := Lib.hid (fun d => HE.out 0 d (fun h => absurd h (by omega)))
              clear HE
              go_wp2_with fail
              go_quiet (fail)
              go_wp2_with fail
              exact bodyPost_ret (v := .tuple #[.slice (some ⟨bt, 0, none⟩) 0 0, .slice (some ⟨b.u, 0, none⟩) 0 0, .slice (some ⟨b.v, 0, none⟩) 0 0]) (by simp [results, Try.results25, go_sem]) rfl (HE2.out _)
            · have HE2 := Lib.hid (fun d => HE.out 1 d (fun _ => rfl))
              have hne : ¬ q + 1 = 1 := by omega
              clear HE
              go_wp2_with fail
              go_quiet (fail)
              go_wp2_with fail
              exact bodyPost_ret (v := .tuple #[.slice (some ⟨bt, 0, none⟩) q q, .slice (some ⟨b.u, 1, none⟩) q q, .slice (some ⟨b.v, 1, none⟩) q q]) (by simp [results, Try.results25, go_sem]) rfl (HE2.out _)
end Go.Proofs.Ytgmhinmakomabaa
