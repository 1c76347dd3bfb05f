/-
  augment, possible: the reference's walk. No condition.
-/
import Derived.Test.YtgmhinmakomabaaAsD
namespace Go.Proofs.Ytgmhinmakomabaa
open Go.RowKit
set_option linter.unusedVariables false

/-- what is only read -/
structure Ro (w : World) (B : Nat) (A : Option Addr) (n : Nat) (c : Nat → Nat → Int) (Au : Option Addr) (u : Nat → Int) (Av : Option Addr) (v : Nat → Int) (Af : Option Addr) (f : Nat → Int) : Prop where
  sq : Sq w B A n c
  u : Fn w B Au n u
  v : Fn w B Av n v
  f : Fn w B Af n f
theorem Ro.below {w w' : World} {B n : Nat} {A Au Av Af : Option Addr} {c : Nat → Nat → Int} {u v f : Nat → Int} (h : Ro w B A n c Au u Av v Af f) (hb : Below B w w') : Ro w' B A n c Au u Av v Af f :=
  ⟨h.sq.below hb, h.u.below hb, h.v.below hb, h.f.below hb⟩

def RaPost (w : World) (B n : Nat) (c : Nat → Nat → Int) (u v f : Nat → Int) (A : Nat → Prop) (tt : Nat → Nat) (ow : Nat → Int) (i bo bs : Nat) (seen : Nat → Bool) (e : Ending) (w' : World) : Prop :=
  Below B w w' ∧ ((e = .returned (.bool true) ∧ ∃ seen' tt' ow', Found n (Tg c u v) (Ut n f) A tt ow seen i tt' ow' ∧ IVec w' bo n ow' ∧ BVec w' bs n seen') ∨
  (e = .returned (.bool false) ∧ ∃ seen', Part n (Tg c u v) (Ut n f) ow seen i n seen' ∧ IVec w' bo n ow ∧ BVec w' bs n seen'))
def RaSt (w : World) (B n : Nat) (c : Nat → Nat → Int) (u v f : Nat → Int) (ow : Nat → Int) (i bo bs : Nat) (seen : Nat → Bool) (j : Nat) (seen' : Nat → Bool) (wr : World) : Prop :=
  Part n (Tg c u v) (Ut n f) ow seen i j seen' ∧ IVec wr bo n ow ∧ BVec wr bs n seen' ∧ Below B w wr
section
variable {w wr w2 : World} {B n : Nat} {c : Nat → Nat → Int} {u v f ow : Nat → Int} {A : Nat → Prop} {tt : Nat → Nat} {i bo bs j : Nat} {seen seen' : Nat → Bool}
theorem RaSt.skip (h : RaSt w B n c u v f ow i bo bs seen j seen' wr) (hk : Tg c u v i j → Ut n f j → seen' j = true) (e : Nat) (hw : w2 = wr.drewN e) : RaSt w B n c u v f ow i bo bs seen (j + 1) seen' w2 := by
  subst hw
  exact ⟨h.1.skip hk, h.2.1, h.2.2.1, below_drewN h.2.2.2 e⟩
theorem RaSt.mark (h : RaSt w B n c u v f ow i bo bs seen j seen' wr) (hs : B ≤ bs) (hne : bo ≠ bs) (e : Nat) (hw : w2 = wr.drewN e) :
    IVec (w2.setCell ⟨bs, j, none⟩ (.bool true)) bo n ow ∧ BVec (w2.setCell ⟨bs, j, none⟩ (.bool true)) bs n (upd seen' j true) ∧ Below B w (w2.setCell ⟨bs, j, none⟩ (.bool true)) := by
  subst hw
  exact ⟨Vec.far (w := wr.drewN e) h.2.1 hne _, BVec.set_ (w := wr.drewN e) h.2.2.1 j true, (below_drewN h.2.2.2 e).setCell hs _⟩
theorem RaSt.free (h : RaSt w B n c u v f ow i bo bs seen j seen' wr) (hm : Mt n (Tg c u v) (Ut n f) A tt ow) (hA : A i → seen (tt i) = true) (hj : j < n) (hT : Tg c u v i j) (hC : Ut n f j) (hns : seen' j = false) (ho : ow j = -1) (hs : B ≤ bs) (hb : B ≤ bo) (hne : bo ≠ bs) (e : Nat) (hw : w2 = wr.drewN e) :
    RaPost w B n c u v f A tt ow i bo bs seen (.returned (.bool true)) ((w2.setCell ⟨bs, j, none⟩ (.bool true)).setCell ⟨bo, j, none⟩ (.int .i64 (i : Int))) := by
  obtain ⟨h1, h2, h3⟩ := h.mark hs hne e hw
  have hs0 : seen j = false := by
    cases hx : seen j with
    | false => rfl
    | true => rw [← hns, h.1.sub _ hx]
  exact ⟨h3.setCell hb _, .inl ⟨rfl, _, _, _, hm.take hA hj hC hT hs0 ho, h1.set_ j i, h2.far hne.symm _⟩⟩
theorem RaPost.pass {w1 w' : World} {i' : Nat} (h : RaSt w B n c u v f ow i bo bs seen j seen' wr) (hm : Mt n (Tg c u v) (Ut n f) A tt ow) (hA : A i → seen (tt i) = true) (hj : j < n) (hT : Tg c u v i j) (hC : Ut n f j) (hns : seen' j = false)
    (hi : A i') (hti : tt i' = j) (hs : B ≤ bs) (hb : B ≤ bo) (hne : bo ≠ bs) (hw1 : Below B w w1)
    (hp : RaPost w1 B n c u v f A tt ow i' bo bs (upd seen' j true) (.returned (.bool true)) w') :
    RaPost w B n c u v f A tt ow i bo bs seen (.returned (.bool true)) (w'.setCell ⟨bo, j, none⟩ (.int .i64 (i : Int))) ∧ ∃ ow', IVec w' bo n ow' := by
  rcases hp with ⟨hbl, ⟨-, s2, tt', ow', fd, hv, hbv⟩ | ⟨h0, _⟩⟩
  · have hs0 : seen j = false := by
      cases hx : seen j with
      | false => rfl
      | true => rw [← hns, h.1.sub _ hx]
    have hup : ∀ x, upd seen j true x = true → upd seen' j true x = true := fun x hx => by
      by_cases e : x = j
      · subst e; exact upd_same _ _ _
      · rw [upd_ne _ _ e] at hx ⊢; exact h.1.sub _ hx
    have f2 := fd.less hm hup (fun _ => by rw [hti]; exact upd_same _ _ _)
    exact ⟨⟨(hw1.trans hbl).setCell hb _, .inl ⟨rfl, _, _, _, hm.pass hA hj hC hT hs0 hi hti f2, hv.set_ j i, hbv.far hne.symm _⟩⟩, ow', hv⟩
  · injection h0 with h0
    injection h0 with h0
    cases h0
theorem RaSt.fail {w1 w' : World} {i' : Nat} (h : RaSt w B n c u v f ow i bo bs seen j seen' wr) (hC : Ut n f j) (ho : ow j = (i' : Int)) (hw1 : Below B w w1)
    (hp : RaPost w1 B n c u v f A tt ow i' bo bs (upd seen' j true) (.returned (.bool false)) w') : ∃ s2, RaSt w B n c u v f ow i bo bs seen (j + 1) s2 w' := by
  rcases hp with ⟨hbl, ⟨h0, _⟩ | ⟨-, s2, p, hv, hbv⟩⟩
  · injection h0 with h0
    injection h0 with h0
    cases h0
  · exact ⟨s2, h.1.fail hC ho p, hv, hbv, hw1.trans hbl⟩
theorem ut_iff : Ut n f j ↔ tkB f (j : Int) n = false := by
  rw [← Bool.not_eq_true, tkB_iff]
  unfold Ut
  constructor
  · rintro h ⟨r, hr, e⟩; exact h r hr e
  · intro h r hr e; exact h ⟨r, hr, e⟩
end

set_option maxRecDepth 100000 in
set_option maxHeartbeats 4000000 in
theorem refAug_any (B n cc : Nat) (AA : Option Addr) (c : Nat → Nat → Int) (Au : Option Addr) (cu : Nat) (u : Nat → Int) (Av : Option Addr) (cv : Nat) (v : Nat → Int) (Af : Option Addr) (cf : Nat) (f : Nat → Int) (A : Nat → Prop) (tt : Nat → Nat) (ow : Nat → Int) (bo bs : Nat) (hn : n ≤ 40)
    (hm : Mt n (Tg c u v) (Ut n f) A tt ow) (hc : CB n c) (hu : ∀ i, i < n → -1000000000 ≤ u i ∧ u i ≤ 1000000000) (hv : ∀ i, i < n → -1000000000 ≤ v i ∧ v i ≤ 1000000000) (hbo : B ≤ bo) (hbs : B ≤ bs) (hne : bo ≠ bs) :
    ∀ (q : Nat) (w : World) (i : Nat) (seen : Nat → Bool), n - cnt seen n = q → i < n → (A i → seen (tt i) = true) → Ro w B AA n c Au u Av v Af f → IVec w bo n ow → BVec w bs n seen →
    Calls Try.prog 35 #[.slice AA n cc, .slice Au n cu, .slice Av n cv, .slice Af n cf, .slice (some ⟨bo, 0, none⟩) n n, .slice (some ⟨bs, 0, none⟩) n n, .int .i64 (i : Int)] w (RaPost w B n c u v f A tt ow i bo bs seen) := by
  intro q
  induction q using Nat.strongRecOn with
  | _ q ih =>
  intro w i seen hq hi hA hro hvo hvs
  have IH := Lib.hid ih
  have HM := Lib.hid hm
  have HC := Lib.hid hc
  have HU := Lib.hid hu
  have HV := Lib.hid hv
  have HA := Lib.hid hA
  have HQ := Lib.hid hq
  have HRO := Lib.hid hro
  have HB1 := Lib.hid hbo
  have HB2 := Lib.hid hbs
  have HNE := Lib.hid hne
  have HS : Hid (RaSt w B n c u v f ow i bo bs seen 0 seen w) := ⟨Part.start, hvo, hvs, Below.refl _ _⟩
  have n1 : ¬ bo = bs := hne
  have n2 : ¬ bs = bo := fun e => hne e.symm
  clear ih hm hc hu hv hA hq hro hvo hvs hbo hbs hne
  go_enter Try.func35, Try.ntmps35
  go_wp2_with fail
  go_loopw [15] (fun s wr => ∃ (j : Nat) (seen' : Nat → Bool), j ≤ n ∧ s = .int .i64 (j : Int) ∧ Hid (RaSt w B n c u v f ow i bo bs seen j seen' wr)) (fun s _ => n - (intOf s).toNat)
  case atStart => exact ⟨0, seen, by omega, rfl, HS⟩
  case round =>
    clear HS
    obtain ⟨w1, rfl⟩ : ∃ w1 : World, w1 = wr := ⟨_, rfl⟩
    obtain ⟨j, seen', hj, rfl, HS⟩ := hrel
    by_cases hjt : j < n
    rotate_left
    · obtain rfl : j = n := by omega
      have HE : Hid (RaPost w B j c u v f A tt ow i bo bs seen (.returned (.bool false)) w1) := ⟨HS.out.2.2.2, .inr ⟨rfl, seen', HS.out.1, HS.out.2.1, HS.out.2.2.1⟩⟩
      clear HS
      go_wp2_with fail
      go_ret
      exact HE.out
    have hR := HRO.out.below HS.out.2.2.2
    have x1 := HS.out.2.2.1.at_ hjt
    have x2 := Vec.frozen HS.out.2.2.1 j
    have x3 := HS.out.2.1.at_ hjt
    have x4 := Vec.frozen HS.out.2.1 j
    have HTK := Lib.hid (fun e => taken_any Af n cf B f (j : Int) (w1.drewN e) (hR.f.drewN e) (by unfold maxLen; omega))
    cases hd : seen' j with
    | true =>
      rw [hd] at x1
      have HS2 := Lib.hid (fun e w2 hw => HS.out.skip (w2 := w2) (fun _ _ => hd) e hw)
      clear HS hd hR
      go_wp2_with fail
      go_quiet (exact quiet_left (HTK.out _))
      go_wp2_with fail
      go_roundw
      case rel => exact ⟨j + 1, seen', by omega, by go_num, HS2.out nq _ rfl⟩
      case measure => simp [intOf] <;> omega
    | false =>
      rw [hd] at x1
      cases htk : tkB f (j : Int) n with
      | true =>
        rw [htk] at HTK
        have HS2 := Lib.hid (fun e w2 hw => HS.out.skip (w2 := w2) (fun _ h => by rw [ut_iff, htk] at h; cases h) e hw)
        clear HS hd hR htk
        go_wp2_with fail
        go_quiet (exact quiet_left (HTK.out _))
        go_wp2_with fail
        go_roundw
        case rel => exact ⟨j + 1, seen', by omega, by go_num, HS2.out nq _ rfl⟩
        case measure => simp [intOf] <;> omega
      | false =>
        rw [htk] at HTK
        have hC : Ut n f j := ut_iff.2 htk
        obtain ⟨b1, o1, b2, o2, c', hAA, _, _, g3, g4⟩ := hR.sq i hi
        subst hAA
        have g5 := g4 j hjt
        obtain ⟨b3, o3, hA3, _, g6⟩ := hR.u i hi
        subst hA3
        obtain ⟨b4, o4, hA4, _, g7⟩ := hR.v j hjt
        subst hA4
        have q1 := HC.out i j hi hjt
        have q2 := HU.out i hi
        have q3 := HV.out j hjt
        have HTG : Hid (Tg c u v i j ↔ u i + v j = c i j) := Iff.rfl
        obtain ⟨y1, hy1⟩ : ∃ y, c i j = y := ⟨_, rfl⟩
        obtain ⟨y2, hy2⟩ : ∃ y, u i = y := ⟨_, rfl⟩
        obtain ⟨y3, hy3⟩ : ∃ y, v j = y := ⟨_, rfl⟩
        rw [hy1] at g5 q1 HTG
        rw [hy2] at g6 q2 HTG
        rw [hy3] at g7 q3 HTG
        obtain ⟨q11, q12⟩ := q1
        obtain ⟨q21, q22⟩ := q2
        obtain ⟨q31, q32⟩ := q3
        clear g4 hy1 hy2 hy3 hR
        by_cases ht : y2 + y3 = y1
        rotate_left
        · have e1 : (y2 + y3 != y1) = true := by simpa using ht
          have HS2 := Lib.hid (fun e w2 hw => HS.out.skip (w2 := w2) (fun h _ => absurd (HTG.out.1 h) ht) e hw)
          clear HS hd htk ht hC
          go_wp2_with fail
          go_quiet (exact quiet_left (HTK.out _))
          go_wp2_with fail
          go_roundw
          case rel => exact ⟨j + 1, seen', by omega, by go_num, HS2.out nq _ rfl⟩
          case measure => simp [intOf] <;> omega
        have e1 : (y2 + y3 != y1) = false := by simpa using ht
        have hT := HTG.out.2 ht
        rcases HM.out.col j hjt hC with ho | ⟨i', hi', ho, hti⟩
        · have HE := Lib.hid (fun e w2 hw => HS.out.free (w2 := w2) HM.out HA.out hjt hT hC hd ho HB2.out HB1.out HNE.out e hw)
          rw [ho] at x3
          clear HS hd htk ht hC hT ho
          go_wp2_with fail
          go_quiet (exact quiet_left (HTK.out _))
          go_wp2_with fail
          go_ret
          exact HE.out nq _ rfl
        · have hin := (HM.out.lt i' hi').1
          have hcn : n - cnt (upd seen' j true) n < q := by
            have h1 := cnt_upd hd hjt
            have h2 := cnt_lt hd hjt
            have h3 := cnt_mono (n := n) fun x _ hx => HS.out.1.sub x hx
            have h4 := HQ.out
            omega
          have HMK := Lib.hid (fun e w2 hw => HS.out.mark (w2 := w2) HB2.out HNE.out e hw)
          have HIH := Lib.hid (fun e w2 hw => IH.out _ hcn (World.setCell w2 ⟨bs, j, none⟩ (.bool true)) i' (upd seen' j true) rfl hin (fun _ => by rw [hti]; exact upd_same _ _ _) (HRO.out.below (HMK.out e w2 hw).2.2) (HMK.out e w2 hw).1 (HMK.out e w2 hw).2.1)
          have HPS := Lib.hid (fun w2 w' h1 h2 => RaPost.pass (w1 := w2) (w' := w') HS.out HM.out HA.out hjt hT hC hd hi' hti HB2.out HB1.out HNE.out h1 h2)
          have HFL := Lib.hid (fun w2 w' h1 h2 => RaSt.fail (w1 := w2) (w' := w') (A := A) (tt := tt) HS.out hC ho h1 h2)
          rw [ho] at x3
          have d1 : decide ((i' : Int) < 0) = false := by simp <;> omega
          clear HS hd htk ht hC hT ho hti hi' hcn
          go_wp2_with fail
          go_quiet (exact quiet_left (HTK.out _))
          go_wp2_with fail
          refine (HIH.out nq _ rfl).mono ?_
          rintro e' w3 ⟨hbl, ⟨rfl, hp⟩ | ⟨rfl, hp⟩⟩
          · have hp2 := HPS.out _ w3 (HMK.out nq _ rfl).2.2 ⟨hbl, .inl ⟨rfl, hp⟩⟩
            obtain ⟨hp3, ow', hv2⟩ := hp2
            have x6 := hv2.at_ hjt
            have x7 := Vec.frozen hv2 j
            have HP3 := Lib.hid hp3
            clear hp hp3 hv2 HPS HFL HIH HMK hbl
            go_wp2_with fail
            go_ret
            exact HP3.out
          · obtain ⟨s2, hp3⟩ := HFL.out _ w3 (HMK.out nq _ rfl).2.2 ⟨hbl, .inr ⟨rfl, hp⟩⟩
            have HP3 := Lib.hid hp3
            clear hp hp3 HPS HFL HIH HMK hbl
            go_wp2_with fail
            go_roundw
            case rel => exact ⟨j + 1, s2, by omega, by go_num, HP3⟩
            case measure => simp [intOf] <;> omega

/-- can the rows without a column get some? -/
def PosPost (w : World) (n : Nat) (c : Nat → Nat → Int) (u v f : Nat → Int) (e : Ending) (w' : World) : Prop :=
  Below w.heap.size w w' ∧ ((e = .returned (.bool true) ∧ Comp n c u v f) ∨ (e = .returned (.bool false) ∧ ¬ Comp n c u v f))
def PosSt (w : World) (n : Nat) (c : Nat → Nat → Int) (u v f : Nat → Int) (bo i : Nat) (wr : World) : Prop :=
  Below w.heap.size w wr ∧ ∃ tt ow, Mt n (Tg c u v) (Ut n f) (fun r => r < i ∧ f r < 0) tt ow ∧ IVec wr bo n ow

set_option maxRecDepth 100000 in
set_option maxHeartbeats 4000000 in
theorem possible_any (w : World) (n cc : Nat) (AA : Option Addr) (c : Nat → Nat → Int) (Au : Option Addr) (cu : Nat) (u : Nat → Int) (Av : Option Addr) (cv : Nat) (v : Nat → Int) (Af : Option Addr) (cf : Nat) (f : Nat → Int) (hn : n ≤ 40)
    (hf : Fx n c u v f) (hc : CB n c) (hu : ∀ i, i < n → -1000000000 ≤ u i ∧ u i ≤ 1000000000) (hv : ∀ i, i < n → -1000000000 ≤ v i ∧ v i ≤ 1000000000) (hro : Ro w w.heap.size AA n c Au u Av v Af f) :
    Calls Try.prog 27 #[.slice AA n cc, .slice Au n cu, .slice Av n cv, .slice Af n cf] w (PosPost w n c u v f) := by
  have mk1 := make_ints n (by omega)
  have mk2 := make_bools n (by omega)
  have HF := Lib.hid hf
  have HC := Lib.hid hc
  have HU := Lib.hid hu
  have HV := Lib.hid hv
  have HRO := Lib.hid hro
  have H0 : Hid (Below w.heap.size w (w.alloc (.cells (Array.replicate n (Value.int .i64 0)) 3)) ∧ ∃ g : Nat → Int, IVec (w.alloc (.cells (Array.replicate n (Value.int .i64 0)) 3)) w.heap.size n g ∧ ∀ i, i < 0 → g i = -1) := ⟨(Below.refl _ w).alloc (Nat.le_refl _) _, _, Vec.new _ _ _ _, fun i hi => absurd hi (by omega)⟩
  clear hf hc hu hv hro
  go_enter Try.func27, Try.ntmps27
  go_wp2_with fail
  obtain ⟨w1, hw1⟩ : ∃ w1, w1 = w.alloc (.cells (Array.replicate n (Value.int .i64 0)) 3) := ⟨_, rfl⟩
  rw [← hw1] at H0 ⊢
  have hsz : w.heap.size < w1.heap.size := by rw [hw1]; simp
  clear hw1
  go_loopw [11] (fun s wr => ∃ j : Nat, j ≤ n ∧ s = .int .i64 (j : Int) ∧ Hid (Below w.heap.size w wr ∧ ∃ g : Nat → Int, IVec wr w.heap.size n g ∧ ∀ i, i < j → g i = -1)) (fun s _ => n - (intOf s).toNat)
  case atStart => exact ⟨0, by omega, rfl, H0⟩
  case round =>
    clear H0
    obtain ⟨w2, rfl⟩ : ∃ w1 : World, w1 = wr := ⟨_, rfl⟩
    obtain ⟨j, hj, rfl, HJ⟩ := hrel
    by_cases hjt : j < n
    · obtain ⟨hb, g, hg, hg2⟩ := HJ.out
      have x1 := hg.at_ hjt
      have x2 := Vec.frozen hg j
      have HN : Hid (Below w.heap.size w (w2.setCell ⟨w.heap.size, j, none⟩ (.int .i64 (-1))) ∧ ∃ g : Nat → Int, IVec (w2.setCell ⟨w.heap.size, j, none⟩ (.int .i64 (-1))) w.heap.size n g ∧ ∀ i, i < j + 1 → g i = -1) :=
        ⟨hb.setCell (Nat.le_refl _) _, _, hg.set_ j (-1), fun i hi => by
          by_cases e : i = j
          · subst e; exact upd_same _ _ _
          · rw [upd_ne _ _ e]; exact hg2 i (by omega)⟩
      clear HJ hb hg hg2
      go_wp2_with fail
      go_roundw
      case rel => exact ⟨j + 1, by omega, by go_num, HN⟩
      case measure => simp [intOf] <;> omega
    · obtain rfl : j = n := by omega
      have HP : Hid (PosSt w j c u v f w.heap.size 0 w2) := by
        obtain ⟨hb, g, hg, hg2⟩ := HJ.out
        exact ⟨hb, fun _ => 0, g, mt_start _ _ hg2, hg⟩
      clear HJ
      go_wp2_with fail
      go_loopw [12] (fun s wr => ∃ i : Nat, i ≤ j ∧ s = .int .i64 (i : Int) ∧ Hid (PosSt w j c u v f w.heap.size i wr)) (fun s _ => j - (intOf s).toNat)
      case atStart => exact ⟨0, by omega, rfl, HP⟩
      case round =>
        clear HP
        obtain ⟨w3, rfl⟩ : ∃ w1 : World, w1 = wr := ⟨_, rfl⟩
        obtain ⟨i, hi, rfl, HP⟩ := hrel
        by_cases hit : i < j
        rotate_left
        · obtain rfl : i = j := by omega
          have HE : Hid (PosPost w i c u v f (.returned (.bool true)) w3) := by
            obtain ⟨hb, tt, ow, hm, _⟩ := HP.out
            exact ⟨hb, .inl ⟨rfl, hm.comp HF.out⟩⟩
          clear HP
          go_wp2_with fail
          go_ret
          exact HE.out
        obtain ⟨hb, tt, ow, hm, hv⟩ := HP.out
        have hr3 := HRO.out.below hb
        obtain ⟨b1, o1, hA1, _, x1⟩ := hr3.f i hit
        subst hA1
        by_cases h0 : 0 ≤ f i
        · have HN : Hid (PosSt w j c u v f w.heap.size (i + 1) w3) := ⟨hb, tt, ow, hm.skip h0, hv⟩
          obtain ⟨y, hy⟩ : ∃ y, f i = y := ⟨_, rfl⟩
          rw [hy] at x1 h0
          clear HP hb hm hv hr3 hy
          go_wp2_with fail
          go_roundw
          case rel => exact ⟨i + 1, by omega, by go_num, HN⟩
          case measure => simp [intOf] <;> omega
        · have l1 := Vec.lt hv
          have HAU := Lib.hid (refAug_any w.heap.size j cc AA c Au cu u Av cv v (some ⟨b1, o1, none⟩) cf f (fun r => r < i ∧ f r < 0) tt ow w.heap.size w3.heap.size hn hm HC.out HU.out HV.out (Nat.le_refl _) hb.size (by omega)
            (j - cnt (fun _ => false) j) (w3.alloc (.cells (Array.replicate j (Value.bool false)) 4)) i (fun _ => false) rfl hit (fun h => absurd h.1 (by omega)) (hr3.below ((Below.refl _ _).alloc hb.size _)) (hv.alloc _) (Vec.new _ _ _ _))
          have HPO : Hid (∀ e w4, RaPost (w3.alloc (.cells (Array.replicate j (Value.bool false)) 4)) w.heap.size j c u v f (fun r => r < i ∧ f r < 0) tt ow i w.heap.size w3.heap.size (fun _ => false) e w4 →
              (e = .returned (.bool true) ∧ PosSt w j c u v f w.heap.size (i + 1) w4) ∨ (e = .returned (.bool false) ∧ PosPost w j c u v f (.returned (.bool false)) w4)) := by
            rintro e w4 ⟨q1, ⟨rfl, s2, tt', ow', fd, q2, q3⟩ | ⟨rfl, s2, p, _⟩⟩
            · exact .inl ⟨rfl, (hb.alloc hb.size _).trans q1, tt', ow', fd.mt hit (by omega) (fun _ _ => rfl), q2⟩
            · exact .inr ⟨rfl, (hb.alloc hb.size _).trans q1, .inr ⟨rfl, hm.stuck hit (by omega) (fun _ _ => rfl) p⟩⟩
          obtain ⟨y, hy⟩ : ∃ y, f i = y := ⟨_, rfl⟩
          rw [hy] at x1 h0
          clear HP hb hm hv hr3 hy
          go_wp2_with fail
          refine (HAU.out).mono ?_
          rintro e w4 hpost
          rcases HPO.out e w4 hpost with ⟨rfl, hN⟩ | ⟨rfl, hE⟩
          · have HN := Lib.hid hN
            clear hpost hN HPO HAU
            go_wp2_with fail
            go_roundw
            case rel => exact ⟨i + 1, by omega, by go_num, HN⟩
            case measure => simp [intOf] <;> omega
          · have HE := Lib.hid hE
            clear hpost hE HPO HAU
            go_wp2_with fail
            go_ret
            exact HE.out
end Go.Proofs.Ytgmhinmakomabaa
