/-
  lower: the program's walk. No condition.
-/
import Derived.Test.YtgmhinmakomabaaAsD
namespace Go.Proofs.Ytgmhinmakomabaa
open Go.RowKit
set_option linter.unusedVariables false

def LowPost (w : World) (B n cc : Nat) (A : Option Addr) (b : SB) (c : Nat → Nat → Int) (u v : Nat → Int) (k : Nat) (e : Ending) (w' : World) : Prop :=
  e = .returned (.tuple #[]) ∧ ∃ to' tf' ow', Lw n (k + 1) c u v to' ow' ∧ (∀ i, i < n → tf' i = (to' i : Int)) ∧ Sv w' B A n cc b c u v tf' ow' ∧ Chg w w' (fun x => x = b.t ∨ x = b.o)
/-- what is known within lower, before column j -/
def LowSt (w : World) (B n cc : Nat) (A : Option Addr) (b : SB) (c : Nat → Nat → Int) (u v tf ow : Nat → Int) (k : Nat) (to : Nat → Nat) (j : Nat) (wr : World) : Prop :=
  (∀ j', j' < j → NoT n c u v (fun q => (to q : Int)) k j') ∧ Sv wr B A n cc b c u v tf ow ∧ Chg w wr (fun _ => False)
section
variable {w wr w2 : World} {B n cc : Nat} {A : Option Addr} {b : SB} {c : Nat → Nat → Int} {u v tf ow : Nat → Int} {k : Nat} {to : Nat → Nat} {j : Nat}
theorem LowSt.next (h : LowSt w B n cc A b c u v tf ow k to j wr) (hn : NoT n c u v (fun q => (to q : Int)) k j) (e : Nat) (hw : w2 = wr.drewN e) : LowSt w B n cc A b c u v tf ow k to (j + 1) w2 := by
  subst hw
  refine ⟨fun j' hj' => ?_, h.2.1.drewN e, h.2.2.drewN e⟩
  rcases Nat.lt_or_ge j' j with h1 | h1
  · exact h.1 j' h1
  · obtain rfl : j' = j := by omega
    exact hn
/-- what was seen when move begins -/
def seenJ (j : Nat) : Nat → Bool := upd (fun _ => false) j true
theorem seenJ_iff (j x : Nat) : seenJ j x = true ↔ x = j := by
  unfold seenJ
  by_cases e : x = j
  · subst e; simp [upd_same]
  · rw [upd_ne _ _ e]; simp [e]
theorem LowSt.begin (h : LowSt w B n cc A b c u v tf ow k to j wr) (hB : B ≤ w.heap.size) (e : Nat) (hw : w2 = wr.drewN e) :
    Sv ((w2.alloc (.cells (Array.replicate n (Value.bool false)) 4)).setCell ⟨wr.heap.size, j, none⟩ (.bool true)) B A n cc b c u v tf ow ∧ BVec ((w2.alloc (.cells (Array.replicate n (Value.bool false)) 4)).setCell ⟨wr.heap.size, j, none⟩ (.bool true)) wr.heap.size n (seenJ j) ∧
      B ≤ wr.heap.size ∧ ¬ b.has wr.heap.size ∧ Chg w ((w2.alloc (.cells (Array.replicate n (Value.bool false)) 4)).setCell ⟨wr.heap.size, j, none⟩ (.bool true)) (fun _ => False) ∧ w.heap.size ≤ wr.heap.size := by
  subst hw
  have hsz : w.heap.size ≤ wr.heap.size := h.2.2.size
  have hnh : ¬ b.has wr.heap.size := fun hx => by have := h.2.1.lt _ hx; exact absurd this (Nat.lt_irrefl _)
  refine ⟨((h.2.1.drewN e).alloc (by show B ≤ wr.heap.size; omega) _).far (by show B ≤ wr.heap.size; omega) hnh _, BVec.set_ (Vec.new (wr.drewN e) _ n (.bool false)) j true, by omega, hnh, ((h.2.2.drewN e).alloc _).setCell (.inr hsz) _, hsz⟩
theorem LowSt.fail {w3 w4 : World} {r bd : Nat} (h : LowSt w B n cc A b c u v tf ow k to j wr) (hl : Lw n k c u v to ow) (hk : k < n) (hj : j < n) (hr : ow j = (r : Int)) (hkr : k < r) (hc : Chg w w3 (fun _ => False)) (hbd : w.heap.size ≤ bd)
    (hp : MovePost w3 B n cc A b c u v tf ow k to r bd (seenJ j) (.returned (.bool false)) w4) : LowSt w B n cc A b c u v tf ow k to (j + 1) w4 := by
  rcases hp with ⟨h0, _⟩ | ⟨-, s2, p, hs, _, hch⟩
  · injection h0 with h0
    injection h0 with h0
    cases h0
  · have h1 := h.next (w2 := wr) (hl.stuck hk hj hr hkr (fun x _ => seenJ_iff j x) p) 0 rfl
    exact ⟨h1.1, hs, hc.trans hch fun i hi hx => by omega⟩
theorem LowSt.found {w3 w4 : World} {r bd : Nat} (h : LowSt w B n cc A b c u v tf ow k to j wr) (hl : Lw n k c u v to ow) (hk : k < n) (hj : j < n) (hr : ow j = (r : Int)) (hkr : k < r) (ht : Tg c u v k j) (hc : Chg w w3 (fun _ => False)) (hbd : w.heap.size ≤ bd)
    (hp : MovePost w3 B n cc A b c u v tf ow k to r bd (seenJ j) (.returned (.bool true)) w4) :
    LowPost w B n cc A b c u v k (.returned (.tuple #[])) ((w4.setCell ⟨b.t, k, none⟩ (.int .i64 (j : Int))).setCell ⟨b.o, j, none⟩ (.int .i64 (k : Int))) ∧ ∃ tf' ow', Sv w4 B A n cc b c u v tf' ow' := by
  rcases hp with ⟨-, s2, to', tf', ow', f, htf, hs, _, hch⟩ | ⟨h0, _⟩
  · refine ⟨⟨rfl, _, _, _, hl.found hk hj hr hkr ((seenJ_iff j j).2 rfl) ht h.1 f, fun i hi => ?_, (hs.setT k j).setO j k, ?_⟩, tf', ow', hs⟩
    · by_cases e : i = k
      · subst e; rw [upd_same, upd_same]
      · rw [upd_ne _ _ e, upd_ne _ _ e]; exact htf i hi
    · have h1 : Chg w w4 (fun x => x = b.t ∨ x = b.o) := (hc.mono fun _ hx => hx.elim).trans hch fun i hi hx => by
        rcases hx with hx | hx | hx
        · exact .inl hx
        · exact .inr hx
        · omega
      exact (h1.setCell (.inl (.inl rfl)) _).setCell (.inl (.inr rfl)) _
  · injection h0 with h0
    injection h0 with h0
    cases h0
end

set_option maxRecDepth 100000 in
set_option maxHeartbeats 4000000 in
theorem lower_any (w : World) (B n cc : Nat) (A : Option Addr) (b : SB) (c : Nat → Nat → Int) (u v tf ow : Nat → Int) (k : Nat) (to : Nat → Nat) (hk : k < n) (hl : Lw n k c u v to ow) (htf : ∀ i, i < n → tf i = (to i : Int)) (hs : Sv w B A n cc b c u v tf ow) (hB : B ≤ w.heap.size)
    (hu : ∀ i, i < n → -1000000000 ≤ u i ∧ u i ≤ 1000000000) (hv : ∀ i, i < n → -1000000000 ≤ v i ∧ v i ≤ 1000000000) :
    Calls Try.prog 23 #[.pointer (some ⟨b.g, 0, none⟩), .int .i64 (k : Int)] w (LowPost w B n cc A b c u v k) := by
  have hn := hs.n40
  have mk2 := make_bools n (by omega)
  have HL := Lib.hid hl
  have HTF := Lib.hid htf
  have HU := Lib.hid hu
  have HV := Lib.hid hv
  have HB := Lib.hid hB
  have HS : Hid (LowSt w B n cc A b c u v tf ow k to 0 w) := ⟨fun j hj => absurd hj (by omega), hs, Chg.refl _ _⟩
  obtain ⟨_, _, _, c3, _⟩ := hs.cells
  have x0 := hs.vt.at_ hk
  rw [htf k hk] at x0
  have hfk := hl.perf.1 k hk
  obtain ⟨fr, hfr⟩ : ∃ x, to k = x := ⟨_, rfl⟩
  rw [hfr] at x0 hfk
  have HFR := Lib.hid hfr
  have n7 : ¬ b.g = b.t := hs.ok.gt
  have n8 : ¬ b.t = b.g := fun e => n7 e.symm
  have n9 : ¬ b.o = b.t := fun e => hs.ok.to e.symm
  clear hl htf hu hv hB hs hfr
  go_enter Try.func23, Try.ntmps23
  go_wp2_with fail
  go_loopw [15] (fun s wr => ∃ j : Nat, j ≤ fr ∧ s = .int .i64 (j : Int) ∧ Hid (LowSt w B n cc A b c u v tf ow k to j wr)) (fun s _ => fr - (intOf s).toNat)
  case atStart => exact ⟨0, by omega, rfl, HS⟩
  case round =>
    clear HS c3 x0
    obtain ⟨w1, rfl⟩ : ∃ w1 : World, w1 = wr := ⟨_, rfl⟩
    obtain ⟨j, hj, rfl, HS⟩ := hrel
    by_cases hjt : j < fr
    rotate_left
    · obtain rfl : j = fr := by omega
      have HE : Hid (LowPost w B n cc A b c u v k (.returned (.tuple #[])) w1) := ⟨rfl, to, tf, ow, HL.out.none (by rw [HFR.out]; exact HS.out.1), HTF.out, HS.out.2.1, HS.out.2.2.mono fun _ h => h.elim⟩
      clear HS
      go_wp2_with fail
      go_end0
      exact HE.out
    have hjn : j < n := by omega
    obtain ⟨c0, c1, c2, c3, c4⟩ := HS.out.2.1.cells
    obtain ⟨r, hrn, hro, hrt⟩ := HL.out.inv hjn
    have x1 := HS.out.2.1.vo.at_ hjn
    rw [hro] at x1
    by_cases hrk : r < k
    · have HN := Lib.hid (HS.out.next (w2 := w1) (HL.out.skip_low hk hjn (by omega)) 0 rfl)
      clear HS hro hrt
      go_wp2_with fail
      go_roundw
      case rel => exact ⟨j + 1, by omega, by go_num, HN⟩
      case measure => simp [intOf] <;> omega
    have hkr : k < r := by
      rcases Nat.lt_or_ge k r with h | h
      · exact h
      · obtain rfl : r = k := by omega
        have := HFR.out
        omega
    have HTG := Lib.hid (tight_any w1 B n cc A b c u v tf ow HS.out.2.1 k j hk hjn (HU.out k hk) (HV.out j hjn))
    by_cases ht : Tg c u v k j
    rotate_left
    · have e1 : decide (u k + v j = c k j) = false := decide_eq_false ht
      rw [e1] at HTG
      have HN := Lib.hid (fun e w2 hw => HS.out.next (w2 := w2) (no_slack hk ht _) e hw)
      clear HS hro hrt ht e1
      go_wp2_with fail
      refine (HTG.out).mono ?_
      rintro e' w2 ⟨rfl, m, rfl⟩
      go_wp2_with fail
      go_roundw
      case rel => exact ⟨j + 1, by omega, by go_num, HN.out _ _ rfl⟩
      case measure => simp [intOf] <;> omega
    have e1 : decide (u k + v j = c k j) = true := decide_eq_true ht
    rw [e1] at HTG
    have x2 := HS.out.2.1.vt.at_ hk
    rw [HTF.out k hk, HFR.out] at x2
    have HBG := Lib.hid (fun e w2 hw => HS.out.begin (w2 := w2) HB.out e hw)
    have hkf : to k < n := HL.out.perf.1 k hk
    have HMV := Lib.hid (fun e w2 hw => move_any B n cc A b c u v tf ow k to w1.heap.size hkf (HL.out.mt hk) HTF.out HU.out HV.out (HBG.out e w2 hw).2.2.1 (HBG.out e w2 hw).2.2.2.1 _ _ r (seenJ j) rfl ⟨hkr, hrn⟩ (by rw [hrt]; exact (seenJ_iff j j).2 rfl) (HBG.out e w2 hw).1 (HBG.out e w2 hw).2.1)
    have HFL := Lib.hid (fun w3 w4 bd h1 h2 h3 => LowSt.fail (w3 := w3) (w4 := w4) (bd := bd) HS.out HL.out hk hjn hro hkr h1 h2 h3)
    have HFD := Lib.hid (fun w3 w4 bd h1 h2 h3 => LowSt.found (w3 := w3) (w4 := w4) (bd := bd) HS.out HL.out hk hjn hro hkr ht h1 h2 h3)
    rw [HFR.out] at HMV
    clear HS hro hrt ht e1 hkf
    go_wp2_with fail
    refine (HTG.out).mono ?_
    rintro e' w2 ⟨rfl, m, rfl⟩
    have x8 : ((w1.drewN m).alloc (.cells (Array.replicate n (Value.bool false)) 4)).cell? ⟨w1.heap.size, j, none⟩ = some (.bool false) := Vec.at_ (Vec.new (w1.drewN m) 4 n (.bool false)) hjn
    have x9 : ((w1.drewN m).alloc (.cells (Array.replicate n (Value.bool false)) 4)).frozen? ⟨w1.heap.size, j, none⟩ = false := Vec.frozen (Vec.new (w1.drewN m) 4 n (.bool false)) j
    go_wp2_with fail
    refine (HMV.out m _ rfl).mono ?_
    rintro e' w3 hpost
    rcases hpost with ⟨rfl, hp⟩ | ⟨rfl, hp⟩
    · have hp2 := HFD.out _ w3 _ (HBG.out m _ rfl).2.2.2.2.1 (HBG.out m _ rfl).2.2.2.2.2 (.inl ⟨rfl, hp⟩)
      obtain ⟨hp3, tf', ow', hsv⟩ := hp2
      obtain ⟨_, _, _, c3, c4⟩ := hsv.cells
      have x4 := hsv.vt.at_ hk
      have x5 := Vec.frozen hsv.vt k
      have x6 := hsv.vo.at_ hjn
      have x7 := Vec.frozen hsv.vo j
      have HP3 := Lib.hid hp3
      clear hp hp3 hsv HFD HFL HMV HBG
      go_wp2_with fail
      go_end0
      exact HP3.out
    · have hp3 := HFL.out _ w3 _ (HBG.out m _ rfl).2.2.2.2.1 (HBG.out m _ rfl).2.2.2.2.2 (.inr ⟨rfl, hp⟩)
      have HP3 := Lib.hid hp3
      clear hp hp3 HFD HFL HMV HBG
      go_wp2_with fail
      go_roundw
      case rel => exact ⟨j + 1, by omega, by go_num, HP3⟩
      case measure => simp [intOf] <;> omega
end Go.Proofs.Ytgmhinmakomabaa
