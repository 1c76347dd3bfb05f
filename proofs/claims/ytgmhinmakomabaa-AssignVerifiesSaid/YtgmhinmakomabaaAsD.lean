/-
  move, lower: a row gets its first column with which the others still have some. No condition.
-/
import Derived.Test.YtgmhinmakomabaaAsC
namespace Go.Proofs.Ytgmhinmakomabaa
open Go.RowKit
set_option linter.unusedVariables false

/-- a column found with more columns seen before -/
theorem Found.less {n : Nat} {E : Nat → Nat → Prop} {C A : Nat → Prop} {to : Nat → Nat} {ow : Nat → Int} {big small : Nat → Bool} {i : Nat} {to' : Nat → Nat} {ow' : Nat → Int} (f : Found n E C A to ow big i to' ow') (h : Mt n E C A to ow)
    (hs : ∀ x, small x = true → big x = true) (hi : A i → small (to i) = true) : Found n E C A to ow small i to' ow' := by
  refine ⟨f.lt, f.e, f.own, ?_, fun x hx => f.old x (hs x hx), fun x hx hc hsx => ?_, fun r hr hne hx => f.keep r hr hne (hs _ hx), f.other, f.out⟩
  · cases hx : small (to' i) with
    | false => rfl
    | true => rw [← f.new, hs _ hx]
  · cases hb : big x with
    | false => exact f.col x hx hc hb
    | true =>
      rw [f.old x hb]
      rcases h.col x hx hc with e | ⟨r, a, e1, e2⟩
      · exact .inl e
      · by_cases e3 : r = i
        · subst e3
          have := hi a
          rw [e2, hsx] at this
          cases this
        · exact .inr ⟨r, .inl a, e1, by rw [f.keep r a e3 (by rw [e2]; exact hb), e2]⟩

def Later (k n : Nat) (r : Nat) : Prop := k < r ∧ r < n
def MovePost (w : World) (B n cc : Nat) (A : Option Addr) (b : SB) (c : Nat → Nat → Int) (u v tf ow : Nat → Int) (k : Nat) (to : Nat → Nat) (r bd : Nat) (seen : Nat → Bool) (e : Ending) (w' : World) : Prop :=
  (e = .returned (.bool true) ∧ ∃ seen' to' tf' ow', Found n (Tg c u v) (Cl k ow (to k)) (Later k n) to (upd ow (to k) (-1)) seen r to' ow' ∧ (∀ i, i < n → tf' i = (to' i : Int)) ∧ Sv w' B A n cc b c u v tf' ow' ∧ BVec w' bd n seen' ∧ Chg w w' (fun x => x = b.t ∨ x = b.o ∨ x = bd)) ∨
  (e = .returned (.bool false) ∧ ∃ seen', Part n (Tg c u v) (Cl k ow (to k)) (upd ow (to k) (-1)) seen r n seen' ∧ Sv w' B A n cc b c u v tf ow ∧ BVec w' bd n seen' ∧ Chg w w' (fun x => x = bd))
/-- what is known within move, before column j -/
def MvSt (w : World) (B n cc : Nat) (A : Option Addr) (b : SB) (c : Nat → Nat → Int) (u v tf ow : Nat → Int) (k : Nat) (to : Nat → Nat) (r bd : Nat) (seen : Nat → Bool) (j : Nat) (seen' : Nat → Bool) (wr : World) : Prop :=
  Part n (Tg c u v) (Cl k ow (to k)) (upd ow (to k) (-1)) seen r j seen' ∧ Sv wr B A n cc b c u v tf ow ∧ BVec wr bd n seen' ∧ Chg w wr (fun x => x = bd)
section
variable {w wr w2 : World} {B n cc : Nat} {A : Option Addr} {b : SB} {c : Nat → Nat → Int} {u v tf ow : Nat → Int} {k : Nat} {to : Nat → Nat} {r bd j : Nat} {seen seen' : Nat → Bool}
theorem MvSt.skip (h : MvSt w B n cc A b c u v tf ow k to r bd seen j seen' wr) (hk : Tg c u v r j → Cl k ow (to k) j → seen' j = true) (e : Nat) (hw : w2 = wr.drewN e) : MvSt w B n cc A b c u v tf ow k to r bd seen (j + 1) seen' w2 := by
  subst hw
  exact ⟨h.1.skip hk, h.2.1.drewN e, h.2.2.1, h.2.2.2.drewN e⟩
/-- column j is tried -/
theorem MvSt.mark (h : MvSt w B n cc A b c u v tf ow k to r bd seen j seen' wr) (hB : B ≤ bd) (hb : ¬ b.has bd) (e : Nat) (hw : w2 = wr.drewN e) :
    Sv (w2.setCell ⟨bd, j, none⟩ (.bool true)) B A n cc b c u v tf ow ∧ BVec (w2.setCell ⟨bd, j, none⟩ (.bool true)) bd n (upd seen' j true) ∧ Chg w (w2.setCell ⟨bd, j, none⟩ (.bool true)) (fun x => x = bd) := by
  subst hw
  exact ⟨(h.2.1.drewN e).far hB hb _, BVec.set_ (w := wr.drewN e) h.2.2.1 j true, (h.2.2.2.drewN e).setCell (.inl rfl) _⟩
/-- the free column -/
theorem MvSt.free (hjk : to k = j) (h : MvSt w B n cc A b c u v tf ow k to r bd seen j seen' wr) (hm : Mt n (Tg c u v) (Cl k ow (to k)) (Later k n) to (upd ow (to k) (-1))) (hA : Later k n r) (hr : seen (to r) = true) (hk : j < n) (hT : Tg c u v r j) (hns : seen' j = false) (htf : ∀ i, i < n → tf i = (to i : Int))
    (hB : B ≤ bd) (hb : ¬ b.has bd) (e : Nat) (hw : w2 = wr.drewN e) :
    MovePost w B n cc A b c u v tf ow k to r bd seen (.returned (.bool true)) (((w2.setCell ⟨bd, j, none⟩ (.bool true)).setCell ⟨b.t, r, none⟩ (.int .i64 (j : Int))).setCell ⟨b.o, j, none⟩ (.int .i64 (r : Int))) := by
  obtain ⟨h1, h2, h3⟩ := h.mark hB hb e hw
  subst hjk
  have hs : seen (to k) = false := by
    cases hx : seen (to k) with
    | false => rfl
    | true => rw [← hns, h.1.sub _ hx]
  refine .inl ⟨rfl, _, _, _, _, hm.take (fun _ => hr) hk (.inl rfl) hT hs (upd_same _ _ _), fun i hi => ?_, ((h1.setT r (to k)).setO (to k) r).congr (fun _ _ => rfl) (fun _ _ => rfl) (fun _ _ => rfl) (fun i _ => ?_), (h2.far (fun e => hb (e ▸ .inr (.inr (.inr (.inl rfl))))) _).far (fun e => hb (e ▸ .inr (.inr (.inr (.inr rfl))))) _, ((h3.mono fun x hx => .inr (.inr hx)).setCell (.inl (.inl rfl)) _).setCell (.inl (.inr (.inl rfl))) _⟩
  · by_cases e : i = r
    · subst e; rw [upd_same, upd_same]
    · rw [upd_ne _ _ e, upd_ne _ _ e]; exact htf i hi
  · by_cases e : i = to k
    · subst e; rw [upd_same, upd_same]
    · rw [upd_ne _ _ e, upd_ne _ _ e, upd_ne _ _ e]
/-- the row of column j has found another one -/
theorem MovePost.pass {w1 w' : World} {i' : Nat} (h : MvSt w B n cc A b c u v tf ow k to r bd seen j seen' wr) (hm : Mt n (Tg c u v) (Cl k ow (to k)) (Later k n) to (upd ow (to k) (-1))) (hA : Later k n r) (hr : seen (to r) = true) (hj : j < n) (hC : Cl k ow (to k) j) (hT : Tg c u v r j) (hns : seen' j = false)
    (hi : Later k n i') (hti : to i' = j) (hB : B ≤ bd) (hb : ¬ b.has bd) (hw1 : Chg w w1 (fun x => x = bd))
    (hp : MovePost w1 B n cc A b c u v tf ow k to i' bd (upd seen' j true) (.returned (.bool true)) w') :
    MovePost w B n cc A b c u v tf ow k to r bd seen (.returned (.bool true)) ((w'.setCell ⟨b.t, r, none⟩ (.int .i64 (j : Int))).setCell ⟨b.o, j, none⟩ (.int .i64 (r : Int))) ∧
      ∃ tf' ow', Sv w' B A n cc b c u v tf' ow' := by
  rcases hp with ⟨-, s2, to', tf', ow', f, ht, hs, hbv, hch⟩ | ⟨h0, _⟩
  · have hs0 : seen j = false := by
      cases hx : seen j with
      | false => rfl
      | true => rw [← hns, h.1.sub _ hx]
    have hup : ∀ x, upd seen j true x = true → upd seen' j true x = true := fun x hx => by
      by_cases e : x = j
      · subst e; exact upd_same _ _ _
      · rw [upd_ne _ _ e] at hx ⊢; exact h.1.sub _ hx
    have f2 := f.less hm hup (fun _ => by rw [hti]; exact upd_same _ _ _)
    refine ⟨.inl ⟨rfl, _, _, _, _, hm.pass (fun _ => hr) hj hC hT hs0 hi hti f2, fun i hi => ?_, (hs.setT r j).setO j r, (hbv.far (fun e => hb (e ▸ .inr (.inr (.inr (.inl rfl))))) _).far (fun e => hb (e ▸ .inr (.inr (.inr (.inr rfl))))) _, ((((hw1.mono fun x hx => .inr (.inr hx)).trans hch fun _ _ hx => hx).setCell (.inl (.inl rfl)) _).setCell (.inl (.inr (.inl rfl))) _)⟩, tf', ow', hs⟩
    by_cases e : i = r
    · subst e; rw [upd_same, upd_same]
    · rw [upd_ne _ _ e, upd_ne _ _ e]; exact ht i hi
  · injection h0 with h0
    injection h0 with h0
    cases h0
/-- .. has found none -/
theorem MvSt.fail {w1 w' : World} {i' : Nat} (h : MvSt w B n cc A b c u v tf ow k to r bd seen j seen' wr) (hC : Cl k ow (to k) j) (hne : j ≠ to k) (ho : ow j = (i' : Int)) (hw1 : Chg w w1 (fun x => x = bd))
    (hp : MovePost w1 B n cc A b c u v tf ow k to i' bd (upd seen' j true) (.returned (.bool false)) w') :
    ∃ s2, (∀ x, seen' x = true → s2 x = true) ∧ MvSt w B n cc A b c u v tf ow k to r bd seen (j + 1) s2 w' := by
  rcases hp with ⟨h0, _⟩ | ⟨-, s2, p, hs, hbv, hch⟩
  · injection h0 with h0
    injection h0 with h0
    cases h0
  · refine ⟨s2, fun x hx => p.sub x ?_, h.1.fail hC (by rw [upd_ne _ _ hne]; exact ho) p, hs, hbv, hw1.trans hch fun _ _ hx => hx⟩
    by_cases e : x = j
    · subst e; exact upd_same _ _ _
    · rw [upd_ne _ _ e]; exact hx
end

set_option maxRecDepth 100000 in
set_option maxHeartbeats 4000000 in
theorem move_any (B n cc : Nat) (A : Option Addr) (b : SB) (c : Nat → Nat → Int) (u v tf ow : Nat → Int) (k : Nat) (to : Nat → Nat) (bd : Nat) (hk : to k < n) (hm : Mt n (Tg c u v) (Cl k ow (to k)) (Later k n) to (upd ow (to k) (-1))) (htf : ∀ i, i < n → tf i = (to i : Int))
    (hu : ∀ i, i < n → -1000000000 ≤ u i ∧ u i ≤ 1000000000) (hv : ∀ i, i < n → -1000000000 ≤ v i ∧ v i ≤ 1000000000) (hB : B ≤ bd) (hb : ¬ b.has bd) :
    ∀ (f : Nat) (w : World) (r : Nat) (seen : Nat → Bool), n - cnt seen n = f → Later k n r → seen (to r) = true → Sv w B A n cc b c u v tf ow → BVec w bd n seen →
    Calls Try.prog 34 #[.pointer (some ⟨b.g, 0, none⟩), .int .i64 (r : Int), .int .i64 (k : Int), .int .i64 (to k : Int), .slice (some ⟨bd, 0, none⟩) n n] w (MovePost w B n cc A b c u v tf ow k to r bd seen) := by
  intro f
  induction f using Nat.strongRecOn with
  | _ f ih =>
  intro w r seen hf hA hr hs hbv
  have IH := Lib.hid ih
  have HM := Lib.hid hm
  have HTF := Lib.hid htf
  have HU := Lib.hid hu
  have HV := Lib.hid hv
  have HA := Lib.hid hA
  have HR := Lib.hid hr
  have HF := Lib.hid hf
  have HB := Lib.hid hB
  have HBB := Lib.hid hb
  have HS : Hid (MvSt w B n cc A b c u v tf ow k to r bd seen 0 seen w) := ⟨Part.start, hs, hbv, Chg.refl _ _⟩
  have hrn : r < n := hA.2
  have hn := hs.n40
  obtain ⟨c0, _, _, _, _⟩ := hs.cells
  obtain ⟨fr, hfr⟩ : ∃ x, to k = x := ⟨_, rfl⟩
  have n1 : ¬ b.g = bd := fun e => hb (e ▸ .inl rfl)
  have n2 : ¬ bd = b.g := fun e => n1 e.symm
  have n3 : ¬ b.o = bd := fun e => hb (e ▸ .inr (.inr (.inr (.inr rfl))))
  have n4 : ¬ bd = b.o := fun e => n3 e.symm
  have n5 : ¬ b.t = bd := fun e => hb (e ▸ .inr (.inr (.inr (.inl rfl))))
  have n6 : ¬ bd = b.t := fun e => n5 e.symm
  have n7 : ¬ b.g = b.t := hs.ok.gt
  have n8 : ¬ b.t = b.g := fun e => n7 e.symm
  have n9 : ¬ b.o = b.t := fun e => hs.ok.to e.symm
  have hfn : fr < n := by rw [← hfr]; exact hk
  rw [hfr]
  have HFR := Lib.hid hfr
  clear ih hm htf hu hv hA hr hf hB hb hs hbv hfr hk
  go_enter Try.func34, Try.ntmps34
  go_wp2_with fail
  go_loopw [17] (fun s wr => ∃ (j : Nat) (seen' : Nat → Bool), j ≤ n ∧ s = .int .i64 (j : Int) ∧ Hid (MvSt w B n cc A b c u v tf ow k to r bd seen j seen' wr)) (fun s _ => n - (intOf s).toNat)
  case atStart => exact ⟨0, seen, by omega, rfl, HS⟩
  case round =>
    clear HS c0
    obtain ⟨w1, rfl⟩ : ∃ w1 : World, w1 = wr := ⟨_, rfl⟩
    obtain ⟨j, seen', hj, rfl, HS⟩ := hrel
    by_cases hjt : j < n
    rotate_left
    · obtain rfl : j = n := by omega
      have HE : Hid (MovePost w B j cc A b c u v tf ow k to r bd seen (.returned (.bool false)) w1) := .inr ⟨rfl, seen', HS.out.1, HS.out.2.1, HS.out.2.2.1, HS.out.2.2.2⟩
      clear HS
      go_wp2_with fail
      go_ret
      exact HE.out
    obtain ⟨c0, c1, c2, c3, c4⟩ := HS.out.2.1.cells
    have x1 := HS.out.2.2.1.at_ hjt
    have x2 := Vec.frozen HS.out.2.2.1 j
    cases hd : seen' j with
    | true =>
      rw [hd] at x1
      have HS2 := Lib.hid (HS.out.skip (w2 := w1) (fun _ _ => hd) 0 rfl)
      clear HS hd
      go_wp2_with fail
      go_roundw
      case rel => exact ⟨j + 1, seen', by omega, by go_num, HS2⟩
      case measure => simp [intOf] <;> omega
    | false =>
      rw [hd] at x1
      have HTG := Lib.hid (tight_any w1 B n cc A b c u v tf ow HS.out.2.1 r j hrn hjt (HU.out r hrn) (HV.out j hjt))
      by_cases ht : Tg c u v r j
      rotate_left
      · have e1 : decide (u r + v j = c r j) = false := decide_eq_false ht
        rw [e1] at HTG
        have HS2 := Lib.hid (fun e w2 hw => HS.out.skip (w2 := w2) (fun h _ => absurd h ht) e hw)
        clear HS hd ht e1
        go_wp2_with fail
        refine (HTG.out).mono ?_
        rintro e' w2 ⟨rfl, m, rfl⟩
        go_wp2_with fail
        go_roundw
        case rel => exact ⟨j + 1, seen', by omega, by go_num, HS2.out _ _ rfl⟩
        case measure => simp [intOf] <;> omega
      have e1 : decide (u r + v j = c r j) = true := decide_eq_true ht
      rw [e1] at HTG
      by_cases hjf : j = fr
      · subst hjf
        have HE := Lib.hid (fun e w2 hw => HS.out.free (w2 := w2) HFR.out HM.out HA.out HR.out hjt ht hd HTF.out HB.out HBB.out e hw)
        have x4 := HS.out.2.1.vt.at_ hrn
        have x5 := Vec.frozen HS.out.2.1.vt r
        have x6 := HS.out.2.1.vo.at_ hjt
        have x7 := Vec.frozen HS.out.2.1.vo j
        clear HS hd ht e1
        go_wp2_with fail
        refine (HTG.out).mono ?_
        rintro e' w2 ⟨rfl, m, rfl⟩
        go_wp2_with fail
        go_ret
        exact HE.out _ _ rfl
      · have hjf' : ((j : Int) == (fr : Int)) = false := by simpa using (by omega : ¬ ((j : Int) = (fr : Int)))
        have x3 := HS.out.2.1.vo.at_ hjt
        by_cases hl : (k : Int) < ow j
        · have hC : Cl k ow (to k) j := .inr hl
          obtain ⟨i', hi', ho', hti⟩ : ∃ i' : Nat, Later k n i' ∧ ow j = i' ∧ to i' = j := by
            have hne : j ≠ to k := by rw [HFR.out]; exact hjf
            rcases HM.out.col j hjt hC with e | ⟨r', a, e2, e3⟩
            · rw [upd_ne _ _ hne] at e; omega
            · rw [upd_ne _ _ hne] at e2; exact ⟨r', a, e2, e3⟩
          have hcn : n - cnt (upd seen' j true) n < f := by
            have h1 := cnt_upd hd hjt
            have h2 := cnt_lt hd hjt
            have h3 := cnt_mono (n := n) fun x _ hx => HS.out.1.sub x hx
            have h4 := HF.out
            omega
          have HMK := Lib.hid (fun e w2 hw => HS.out.mark (w2 := w2) HB.out HBB.out e hw)
          have HIH := Lib.hid (fun e w2 hw => IH.out _ hcn (World.setCell w2 ⟨bd, j, none⟩ (.bool true)) i' (upd seen' j true) rfl hi' (by rw [hti]; exact upd_same _ _ _) (HMK.out e w2 hw).1 (HMK.out e w2 hw).2.1)
          have HPS := Lib.hid (fun w2 w' h1 h2 => MovePost.pass (w1 := w2) (w' := w') HS.out HM.out HA.out HR.out hjt hC ht hd hi' hti HB.out HBB.out h1 h2)
          have HFL := Lib.hid (fun w2 w' h1 h2 => MvSt.fail (w1 := w2) (w' := w') HS.out hC (by rw [HFR.out]; exact hjf) ho' h1 h2)
          rw [ho'] at x3 hl
          rw [HFR.out] at HIH
          have hin := hi'.2
          clear HS hd ht e1 hjf ho' hti hi' hcn hC
          go_wp2_with fail
          refine (HTG.out).mono ?_
          rintro e' w2 ⟨rfl, m, rfl⟩
          go_wp2_with fail
          refine (HIH.out m _ rfl).mono ?_
          rintro e' w3 hpost
          rcases hpost with ⟨rfl, hp⟩ | ⟨rfl, hp⟩
          · have hp2 := HPS.out _ w3 (HMK.out m _ rfl).2.2 (.inl ⟨rfl, hp⟩)
            obtain ⟨hp3, tf', ow', hsv⟩ := hp2
            obtain ⟨_, _, _, c3, c4⟩ := hsv.cells
            have x4 := hsv.vt.at_ hrn
            have x5 := Vec.frozen hsv.vt r
            have x6 := hsv.vo.at_ hjt
            have x7 := Vec.frozen hsv.vo j
            have HP3 := Lib.hid hp3
            clear hp hp3 hsv HPS HFL HIH HMK
            go_wp2_with fail
            go_ret
            exact HP3.out
          · obtain ⟨s2, hs2, hp3⟩ := HFL.out _ w3 (HMK.out m _ rfl).2.2 (.inr ⟨rfl, hp⟩)
            have HP3 := Lib.hid hp3
            clear hp hp3 hs2 HPS HFL HIH HMK
            go_wp2_with fail
            go_roundw
            case rel => exact ⟨j + 1, s2, by omega, by go_num, HP3⟩
            case measure => simp [intOf] <;> omega
        · have HS2 := Lib.hid (fun e w2 hw => HS.out.skip (w2 := w2) (fun _ h => absurd (h.resolve_left (by rw [HFR.out]; exact hjf)) hl) e hw)
          obtain ⟨y, hy⟩ : ∃ y, ow j = y := ⟨_, rfl⟩
          rw [hy] at x3 hl
          clear HS hd ht e1 hjf hy
          go_wp2_with fail
          refine (HTG.out).mono ?_
          rintro e' w2 ⟨rfl, m, rfl⟩
          go_wp2_with fail
          go_roundw
          case rel => exact ⟨j + 1, seen', by omega, by go_num, HS2.out _ _ rfl⟩
          case measure => simp [intOf] <;> omega
end Go.Proofs.Ytgmhinmakomabaa
