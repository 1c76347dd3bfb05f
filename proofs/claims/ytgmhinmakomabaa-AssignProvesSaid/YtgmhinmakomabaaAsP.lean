/-
  The reference's Solve. No condition.
-/
import Derived.Test.YtgmhinmakomabaaAsJ
import Derived.Test.YtgmhinmakomabaaAsO
import Derived.Test.YtgmhinmakomabaaAsH
namespace Go.Proofs.Ytgmhinmakomabaa
open Go.RowKit
set_option linter.unusedVariables false

/-- the reference's solution, as it lies in memory -/
def RSolPost (w : World) (n : Nat) (c : Nat → Nat → Int) (e : Ending) (w' : World) : Prop :=
  ∃ (bt bu bv o : Nat) (cost : Int) (tt : Nat → Nat) (u v : Nat → Int) (x0 y0 : Int), e = .returned (.tuple #[.agg #[.slice (some ⟨bt, 0, none⟩) n n, .int .i64 cost, .slice (some ⟨bu, o, none⟩) n n, .slice (some ⟨bv, o, none⟩) n n], .int .i64 0]) ∧ (0 < n → o = 1) ∧
    First n c tt ∧ Feas n c u v ∧ Tight n c u v tt ∧ (∀ i, i < n → -1000000000 ≤ u i ∧ u i ≤ 1000000000) ∧ (∀ i, i < n → -1000000000 ≤ v i ∧ v i ≤ 1000000000) ∧ cost = costOf c tt n ∧
    IVec w' bt n (fun i => (tt i : Int)) ∧ IVec w' bu (n + 1) (sh x0 u) ∧ IVec w' bv (n + 1) (sh y0 v) ∧ bt ≠ bu ∧ bt ≠ bv ∧ bu ≠ bv ∧ w.heap.size ≤ bt ∧ w.heap.size ≤ bu ∧ w.heap.size ≤ bv ∧ Below w.heap.size w w'
theorem fn_shift {w : World} {b n o : Nat} {x : Int} {f : Nat → Int} (h : IVec w b (n + 1) (sh x f)) (ho : 0 < n → o = 1) : Fn w w.heap.size (some ⟨b, o, none⟩) n f := fun i hi => by
  obtain rfl := ho (by omega)
  refine ⟨b, 1, rfl, Vec.lt h, ?_⟩
  have := h.at_ (i := i + 1) (by omega)
  rw [Nat.add_comm 1 i, this]
  rfl
/-- while rows are being fixed -/
def RsSt (w0 w1 : World) (A : Option Addr) (n : Nat) (c : Nat → Nat → Int) (bu bv o bf : Nat) (u v : Nat → Int) (x0 y0 : Int) (f : Nat → Int) (wr : World) : Prop :=
  Sq wr w1.heap.size A n c ∧ IVec wr bu (n + 1) (sh x0 u) ∧ IVec wr bv (n + 1) (sh y0 v) ∧ IVec wr bf n f ∧ Below w1.heap.size w1 wr ∧ bu < w1.heap.size ∧ bv < w1.heap.size ∧ w1.heap.size ≤ bf
theorem RsSt.ro {w0 w1 wr : World} {A : Option Addr} {n : Nat} {c : Nat → Nat → Int} {bu bv o bf : Nat} {u v f : Nat → Int} {x0 y0 : Int} (h : RsSt w0 w1 A n c bu bv o bf u v x0 y0 f wr) (ho : 0 < n → o = 1) : Ro wr wr.heap.size A n c (some ⟨bu, o, none⟩) u (some ⟨bv, o, none⟩) v (some ⟨bf, 0, none⟩) f :=
  ⟨h.1.more h.2.2.2.2.1.size, fn_shift h.2.1 ho, fn_shift h.2.2.1 ho, h.2.2.2.1.fn⟩
theorem RsSt.set_ {w0 w1 wr : World} {A : Option Addr} {n : Nat} {c : Nat → Nat → Int} {bu bv o bf : Nat} {u v f : Nat → Int} {x0 y0 : Int} (h : RsSt w0 w1 A n c bu bv o bf u v x0 y0 f wr) (d i : Nat) (x : Int) : RsSt w0 w1 A n c bu bv o bf u v x0 y0 (upd f i x) ((wr.drewN d).setCell ⟨bf, i, none⟩ (.int .i64 x)) := by
  obtain ⟨h1, h2, h3, h4, h5, h6, h7, h8⟩ := h
  exact ⟨(h1.drewN d).setCell h8 _, Vec.far (w := wr.drewN d) h2 (by show bu ≠ bf; omega) _, Vec.far (w := wr.drewN d) h3 (by show bv ≠ bf; omega) _, IVec.set_ (w := wr.drewN d) h4 i x, (below_drewN h5 d).setCell h8 _, h6, h7, h8⟩
theorem RsSt.below {w0 w1 wr w2 : World} {A : Option Addr} {n : Nat} {c : Nat → Nat → Int} {bu bv o bf : Nat} {u v f : Nat → Int} {x0 y0 : Int} (h : RsSt w0 w1 A n c bu bv o bf u v x0 y0 f wr) (hb : Below wr.heap.size wr w2) : RsSt w0 w1 A n c bu bv o bf u v x0 y0 f w2 := by
  obtain ⟨h1, h2, h3, h4, h5, h6, h7, h8⟩ := h
  exact ⟨h1.below (hb.mono h5.size), h2.below hb (Vec.lt h2), h3.below hb (Vec.lt h3), h4.below hb (Vec.lt h4), h5.trans (hb.mono h5.size), h6, h7, h8⟩
theorem RsSt.congr {w0 w1 wr : World} {A : Option Addr} {n : Nat} {c : Nat → Nat → Int} {bu bv o bf : Nat} {u v f g : Nat → Int} {x0 y0 : Int} (h : RsSt w0 w1 A n c bu bv o bf u v x0 y0 f wr) (e : ∀ i, i < n → g i = f i) : RsSt w0 w1 A n c bu bv o bf u v x0 y0 g wr :=
  ⟨h.1, h.2.1, h.2.2.1, h.2.2.2.1.congr e, h.2.2.2.2⟩
theorem upd_back {f : Nat → Int} {i : Nat} {x y : Int} (h : f i = y) : ∀ k : Nat, f k = upd (upd f i x) i y k := fun k => by
  by_cases e : k = i
  · subst e; rw [upd_same]; exact h
  · rw [upd_ne _ _ e, upd_ne _ _ e]

set_option maxRecDepth 100000 in
set_option maxHeartbeats 4000000 in
theorem refSolve_yes (w : World) (A : Option Addr) (n cc : Nat) (m : List (List Int)) (h : Mat w w.heap.size A n m) (hm : matB m = true) :
    Calls Try.prog 11 #[.slice A n cc] w (RSolPost w n (mget m)) := by
  have hl := h.len
  have HMX := Lib.hid (fun o => refMatrix_any A n cc w.heap.size m (w.alloc o) (h.keep fun p hp => World.cell?_alloc_lt w o p hp))
  rw [hm] at HMX
  have hn : n ≤ 40 := by
    unfold matB at hm
    simp only [Bool.and_eq_true, decide_eq_true_eq] at hm
    omega
  have HCB : Hid (CB n (mget m)) := by rw [← hl]; exact matB_bounds hm
  obtain ⟨wa, hwa⟩ : ∃ wa, wa = w.alloc (Obj.cells #[Value.slice none 0 0, Value.int IntKind.i64 0, Value.slice none 0 0, Value.slice none 0 0] 27) := ⟨_, rfl⟩
  have HSQ : Hid (Sq wa wa.heap.size A n (mget m)) := by rw [hwa]; exact ((h.sq hm).alloc (Nat.le_refl _) _).more (by simp)
  have HSQ0 : Hid (Sq wa w.heap.size A n (mget m)) := by rw [hwa]; exact (h.sq hm).alloc (Nat.le_refl _) _
  have HK : Hid (Blk wa w.heap.size 27 #[Value.slice none 0 0, Value.int IntKind.i64 0, Value.slice none 0 0, Value.slice none 0 0]) := by rw [hwa]; exact Blk.new _ _ _
  have HB0 : Hid (Below w.heap.size w wa) := by rw [hwa]; exact (Below.refl _ w).alloc (Nat.le_refl _) _
  have hza : w.heap.size < wa.heap.size := by rw [hwa]; simp
  have mk1 := make_ints n (by omega)
  obtain ⟨c, hc⟩ : ∃ c, mget m = c := ⟨_, rfl⟩
  rw [hc] at HCB HSQ HSQ0 ⊢
  have HMX2 := HMX.out (Obj.cells #[Value.slice none 0 0, Value.int IntKind.i64 0, Value.slice none 0 0, Value.slice none 0 0] 27)
  rw [← hwa] at HMX2
  have HM2 := Lib.hid HMX2
  have HHU := Lib.hid (hungarian_any wa A n cc c HSQ.out HCB.out hn)
  have HWA := Lib.hid hwa
  clear h hm hl hwa HMX HMX2 hc
  go_enter Try.func11, Try.ntmps11
  go_wp2_with fail
  rw [← HWA.out]
  refine (HM2.out).mono ?_
  rintro e w1 ⟨rfl, rfl⟩
  clear HM2
  go_wp2_with fail
  refine (HHU.out).mono ?_
  rintro e w1 ⟨bt, bu, bv, o, tt, u, v, x0, y0, rfl, ho, hp, hfe, hti, hu, hv, k1, k2, k3, d1, d2, d3, l1, l2, l3, hbl⟩
  have HO := Lib.hid ho
  have HP := Lib.hid hp
  have HFE := Lib.hid hfe
  have HTI := Lib.hid hti
  have HU := Lib.hid hu
  have HV := Lib.hid hv
  have HBT := Lib.hid k1
  have HBL := Lib.hid hbl
  have HS0 : Hid (∃ f, RsSt w w1 A n c bu bv o w1.heap.size u v x0 y0 f (w1.alloc (.cells (Array.replicate n (Value.int .i64 0)) 3)) ∧ ∀ i, i < 0 → f i = -1) :=
    ⟨_, ⟨((HSQ0.out.below (hbl.mono (by omega))).more (by have := hbl.size; omega)).alloc (Nat.le_refl _) _, k2.alloc _, k3.alloc _, Vec.new _ _ _ _, (Below.refl _ _).alloc (Nat.le_refl _) _, Vec.lt k2, Vec.lt k3, Nat.le_refl _⟩, fun i hi => absurd hi (by omega)⟩
  clear ho hp hfe hti hu hv k1 k2 k3 hbl HHU
  go_wp2_with fail
  obtain ⟨bf, hbf⟩ : ∃ z, w1.heap.size = z := ⟨_, rfl⟩
  obtain ⟨w2, hw2⟩ : ∃ w2, w2 = w1.alloc (.cells (Array.replicate n (Value.int .i64 0)) 3) := ⟨_, rfl⟩
  rw [← hw2, hbf] at HS0
  rw [← hw2, hbf]
  clear hw2
  have HBF := Lib.hid hbf
  clear hbf
  go_loopw [9] (fun s wr => ∃ j : Nat, j ≤ n ∧ s = .int .i64 (j : Int) ∧ Hid (∃ f, RsSt w w1 A n c bu bv o bf u v x0 y0 f wr ∧ ∀ i, i < j → f i = -1)) (fun s _ => n - (intOf s).toNat)
  case atStart => exact ⟨0, by omega, rfl, HS0⟩
  case round =>
    clear HS0
    obtain ⟨w3, rfl⟩ : ∃ w1 : World, w1 = wr := ⟨_, rfl⟩
    obtain ⟨j, hj, rfl, HJ⟩ := hrel
    by_cases hjt : j < n
    · obtain ⟨f, hst, hf⟩ := HJ.out
      have x1 := hst.2.2.2.1.at_ hjt
      have x2 := Vec.frozen hst.2.2.2.1 j
      have HN : Hid (∃ f, RsSt w w1 A n c bu bv o bf u v x0 y0 f (w3.setCell ⟨bf, j, none⟩ (.int .i64 (-1))) ∧ ∀ i, i < j + 1 → f i = -1) :=
        ⟨_, hst.set_ 0 j (-1), fun i hi => by
          by_cases e : i = j
          · subst e; exact upd_same _ _ _
          · rw [upd_ne _ _ e]; exact hf i (by omega)⟩
      clear HJ hst hf
      go_wp2_with fail
      go_roundw
      case rel => exact ⟨j + 1, by omega, by go_num, HN⟩
      case measure => simp [intOf] <;> omega
    · obtain rfl : j = n := by omega
      have HR : Hid (∃ f, RsSt w w1 A j c bu bv o bf u v x0 y0 f w3 ∧ Fd j 0 c u v f) := by
        obtain ⟨f, hst, hf⟩ := HJ.out
        exact ⟨f, hst, Fd.start hf HP.out HTI.out⟩
      clear HJ
      go_wp2_with fail
      go_loopw [10] (fun s wr => ∃ i : Nat, i ≤ j ∧ s = .int .i64 (i : Int) ∧ Hid (∃ f, RsSt w w1 A j c bu bv o bf u v x0 y0 f wr ∧ Fd j i c u v f)) (fun s _ => j - (intOf s).toNat)
      case atStart => exact ⟨0, by omega, rfl, HR⟩
      case round =>
        clear HR
        obtain ⟨w4, rfl⟩ : ∃ w1 : World, w1 = wr := ⟨_, rfl⟩
        obtain ⟨i, hi, rfl, HR⟩ := hrel
        by_cases hit : i < j
        · obtain ⟨f, hst, hfd⟩ := HR.out
          have HFD := Lib.hid hfd
          have HI : Hid (RsSt w w1 A j c bu bv o bf u v x0 y0 f w4 ∧ ∀ q', q' < 0 → NoT j c u v f i q') := ⟨hst, fun q hq => absurd hq (by omega)⟩
          clear HR hst hfd
          go_wp2_with fail
          go_loopw [11] (fun s wr => ∃ q : Nat, q ≤ j ∧ s = .int .i64 (q : Int) ∧ Hid (RsSt w w1 A j c bu bv o bf u v x0 y0 f wr ∧ ∀ q', q' < q → NoT j c u v f i q')) (fun s _ => j - (intOf s).toNat)
          case atStart => exact ⟨0, by omega, rfl, HI⟩
          case round =>
            clear HI
            obtain ⟨w5, rfl⟩ : ∃ w1 : World, w1 = wr := ⟨_, rfl⟩
            obtain ⟨q, hq, rfl, HI⟩ := hrel
            by_cases hqt : q < j
            · have hro := HI.out.1.ro HO.out
              have HTK := Lib.hid (fun e => taken_any (some ⟨bf, 0, none⟩) j j _ f (q : Int) (w5.drewN e) (hro.f.drewN e) (by unfold maxLen; omega))
              obtain ⟨b1, o1, b2, o2, c', hAA, _, _, g3, g4⟩ := hro.sq i hit
              subst hAA
              have g5 := g4 q hqt
              obtain ⟨b3, o3, hA3, _, g6⟩ := hro.u i hit
              injection hA3 with hA3
              injection hA3 with hA31 hA32
              subst hA31 hA32
              obtain ⟨b4, o4, hA4, _, g7⟩ := hro.v q hqt
              injection hA4 with hA4
              injection hA4 with hA41 hA42
              subst hA41 hA42
              have q1 := HCB.out i q hit hqt
              have q2 := HU.out i hit
              have q3 := HV.out q hqt
              have HTG : Hid (u i + v q = c i q ↔ u i + v q = c i q) := Iff.rfl
              have x1 := HI.out.1.2.2.2.1.at_ hit
              have x2 := Vec.frozen HI.out.1.2.2.2.1 i
              have HSK : Hid (NoT j c u v f i q → ∀ e w2, w2 = w5.drewN e → RsSt w w1 (some ⟨b1, o1, none⟩) j c bu bv o bf u v x0 y0 f w2 ∧ ∀ q', q' < q + 1 → NoT j c u v f i q') := by
                rintro hn e w2 rfl
                refine ⟨HI.out.1.below (below_drewN (Below.refl _ _) e), fun q' hq' => ?_⟩
                rcases Nat.lt_or_ge q' q with h | h
                · exact HI.out.2 q' h
                · obtain rfl : q' = q := by omega
                  exact hn
              obtain ⟨y1, hy1⟩ : ∃ y, c i q = y := ⟨_, rfl⟩
              obtain ⟨y2, hy2⟩ : ∃ y, u i = y := ⟨_, rfl⟩
              obtain ⟨y3, hy3⟩ : ∃ y, v q = y := ⟨_, rfl⟩
              rw [hy1, hy2, hy3] at HTG
              rw [hy1] at g5 q1
              rw [hy2] at g6 q2
              rw [hy3] at g7 q3
              obtain ⟨q11, q12⟩ := q1
              obtain ⟨q21, q22⟩ := q2
              obtain ⟨q31, q32⟩ := q3
              have HY : Hid (c i q = y1 ∧ u i = y2 ∧ v q = y3) := ⟨hy1, hy2, hy3⟩
              clear g4 hy1 hy2 hy3 HTG
              by_cases ht : y2 + y3 = y1
              rotate_left
              · have e1 : (y2 + y3 != y1) = true := by simpa using ht
                have HS2 := Lib.hid (HSK.out (no_slack hit (by rw [HY.out.1, HY.out.2.1, HY.out.2.2]; exact ht) f))
                clear HI HSK ht hro
                go_wp2_with fail
                go_quiet (exact quiet_left (HTK.out _))
                go_wp2_with fail
                go_roundw
                case rel => exact ⟨q + 1, by omega, by go_num, HS2.out nq _ rfl⟩
                case measure => simp [intOf] <;> omega
              have e1 : (y2 + y3 != y1) = false := by simpa using ht
              cases htk : tkB f (q : Int) j with
              | true =>
                rw [htk] at HTK
                have HS2 := Lib.hid (HSK.out (HFD.out.taken hit ((tkB_iff f _ j).1 htk)))
                clear HI HSK ht hro htk
                go_wp2_with fail
                go_quiet (exact quiet_left (HTK.out _))
                go_wp2_with fail
                go_roundw
                case rel => exact ⟨q + 1, by omega, by go_num, HS2.out nq _ rfl⟩
                case measure => simp [intOf] <;> omega
              | false =>
                rw [htk] at HTK
                have hfx := HFD.out.fx_upd hit hqt (ut_iff.2 htk) (by rw [HY.out.1, HY.out.2.1, HY.out.2.2]; exact ht)
                have HFX := Lib.hid hfx
                have HST := Lib.hid (fun e => HI.out.1.set_ e i (q : Int))
                have HPO := Lib.hid (fun e => possible_any _ j cc (some ⟨b1, o1, none⟩) c (some ⟨bu, o, none⟩) j u (some ⟨bv, o, none⟩) j v (some ⟨bf, 0, none⟩) j (upd f i (q : Int)) hn hfx HCB.out HU.out HV.out ((HST.out e).ro HO.out))
                have HNT : Hid (∀ q', q' < q → NoT j c u v f i q') := HI.out.2
                clear HI HSK ht hro htk hfx
                go_wp2_with fail
                go_quiet (exact quiet_left (HTK.out _))
                go_wp2_with fail
                refine (HPO.out nq).mono ?_
                rintro e w6 ⟨hb6, ⟨rfl, hcm⟩ | ⟨rfl, hcm⟩⟩
                · have HN : Hid (∃ f, RsSt w w1 (some ⟨b1, o1, none⟩) j c bu bv o bf u v x0 y0 f w6 ∧ Fd j (i + 1) c u v f) := ⟨_, (HST.out nq).below hb6, HFD.out.next hit hqt HFX.out HNT.out hcm⟩
                  clear hb6 hcm HPO HST
                  go_wp2_with fail
                  go_roundw
                  case rel => exact ⟨i + 1, by omega, by go_num, HN⟩
                  case measure => simp [intOf] <;> omega
                · have hst6 := (HST.out nq).below hb6
                  have x3 := hst6.2.2.2.1.at_ hit
                  have x4 := Vec.frozen hst6.2.2.2.1 i
                  have HN : Hid (RsSt w w1 (some ⟨b1, o1, none⟩) j c bu bv o bf u v x0 y0 f (w6.setCell ⟨bf, i, none⟩ (.int .i64 (-1))) ∧ ∀ q', q' < q + 1 → NoT j c u v f i q') := by
                    refine ⟨(hst6.set_ 0 i (-1)).congr (fun k _ => upd_back (HFD.out.neg i (Nat.le_refl _) hit) k), fun q' hq' => ?_⟩
                    rcases Nat.lt_or_ge q' q with h | h
                    · exact HNT.out q' h
                    · obtain rfl : q' = q := by omega
                      exact HFD.out.not hit hcm
                  clear hb6 hcm HPO HST hst6
                  go_wp2_with fail
                  go_roundw
                  case rel => exact ⟨q + 1, by omega, by go_num, HN⟩
                  case measure => simp [intOf] <;> omega
            · obtain rfl : q = j := by omega
              exact (HFD.out.some hit HI.out.2).elim
        · obtain rfl : i = j := by omega
          obtain ⟨f, hst, hfd⟩ := HR.out
          obtain ⟨σ, s1, s2, s3⟩ := hfd.done HFE.out
          have hb4 : Below wa.heap.size wa w4 := HBL.out.trans (hst.2.2.2.2.1.mono HBL.out.size)
          have hb5 : Below w.heap.size w w4 := HB0.out.trans (hb4.mono (by omega))
          have hbt : IVec w4 bt i (fun k => (tt k : Int)) := Vec.below HBT.out hst.2.2.2.2.1 (Vec.lt HBT.out)
          have HTO := Lib.hid (total_any A i cc _ c (some ⟨bt, 0, none⟩) i i _ tt w4 hst.1 HCB.out (IVec.fn hbt) (Nat.le_refl _) (by omega) HP.out.1)
          have hcost : costOf c tt i = costOf c σ i := ((least_iff HFE.out HP.out HTI.out tt).2 ⟨HP.out, HTI.out⟩).same s1.1
          rw [hcost] at HTO
          have hK := HK.out.below hb4 hza
          have k0 := hK.cell 0
          have k1 := hK.cell 1
          have k2 := hK.cell 2
          have k3 := hK.cell 3
          have z0 := hK.frozen 0
          have z1 := hK.frozen 1
          have z2 := hK.frozen 2
          have z3 := hK.frozen 3
          simp at k0 k1 k2 k3
          have HE : Hid (∀ (d : Nat) (v0 v1 v2 v3 : Value), RSolPost w i c (.returned (.tuple #[.agg #[.slice (some ⟨bf, 0, none⟩) i i, .int .i64 (costOf c σ i), .slice (some ⟨bu, o, none⟩) i i, .slice (some ⟨bv, o, none⟩) i i], .int .i64 0]))
              (((((w4.drewN d).setCell ⟨w.heap.size, 0, none⟩ v0).setCell ⟨w.heap.size, 1, none⟩ v1).setCell ⟨w.heap.size, 2, none⟩ v2).setCell ⟨w.heap.size, 3, none⟩ v3)) := fun d v0 v1 v2 v3 => by
            obtain ⟨_, r2, r3, r4, r5, r6, r7, r8⟩ := hst
            have hz1 := HBL.out.size
            have n1 : bf ≠ w.heap.size := by omega
            have n2 : bu ≠ w.heap.size := by omega
            have n3 : bv ≠ w.heap.size := by omega
            refine ⟨bf, bu, bv, o, _, σ, u, v, x0, y0, rfl, HO.out, s1, HFE.out, s2, HU.out, HV.out, rfl, ?_, ?_, ?_, by omega, by omega, d3, by omega, by omega, by omega, ?_⟩
            · exact (((((r4.congr (fun i hi => (s3 i hi).symm)).drewN d).far n1 _).far n1 _).far n1 _).far n1 _
            · exact ((((r2.drewN d).far n2 _).far n2 _).far n2 _).far n2 _
            · exact ((((r3.drewN d).far n3 _).far n3 _).far n3 _).far n3 _
            · exact (((((below_drewN hb5 d).setCell (Nat.le_refl _) _).setCell (Nat.le_refl _) _).setCell (Nat.le_refl _) _).setCell (Nat.le_refl _) _)
          obtain ⟨x, hx⟩ : ∃ x, costOf c σ i = x := ⟨_, rfl⟩
          rw [hx] at HE HTO
          clear HR hst hfd s1 s2 s3 hb4 hb5 hbt hcost hK hx
          go_wp2_with fail
          refine (HTO.out).mono ?_
          rintro e w6 ⟨rfl, d, rfl⟩
          go_wp2_with fail
          have hE := HE.out d (.slice (some ⟨bf, 0, none⟩) i i) (.int .i64 x) (.slice (some ⟨bu, o, none⟩) i i) (.slice (some ⟨bv, o, none⟩) i i)
          clear HE
          refine bodyPost_ret (v := .tuple #[.agg #[.slice (some ⟨bf, 0, none⟩) i i, .int .i64 x, .slice (some ⟨bu, o, none⟩) i i, .slice (some ⟨bv, o, none⟩) i i], .int .i64 0]) ?_ rfl hE
          simp [results, Try.results11, go_sem, k0, k1, k2, k3]

set_option maxRecDepth 100000 in
set_option maxHeartbeats 4000000 in
theorem refSolve_no (w : World) (A : Option Addr) (n cc : Nat) (m : List (List Int)) (h : Mat w w.heap.size A n m) (hm : matB m = false) :
    Calls Try.prog 11 #[.slice A n cc] w (SolNo w) := by
  have HMX := Lib.hid (fun o => refMatrix_any A n cc w.heap.size m (w.alloc o) (h.keep fun p hp => World.cell?_alloc_lt w o p hp))
  rw [hm] at HMX
  have HB : Hid (∀ o, Below w.heap.size w (w.alloc o)) := fun o => (Below.refl _ w).alloc (Nat.le_refl _) _
  clear h hm
  go_enter Try.func11, Try.ntmps11
  go_wp2_with fail
  refine (HMX.out _).mono ?_
  rintro e w1 ⟨rfl, rfl⟩
  go_wp2_with fail
  exact bodyPost_ret (v := .tuple #[.agg #[.slice none 0 0, .int .i64 0, .slice none 0 0, .slice none 0 0], .int .i64 5]) (by simp [results, Try.results11, go_sem]) rfl ⟨rfl, HB.out _⟩
end Go.Proofs.Ytgmhinmakomabaa
