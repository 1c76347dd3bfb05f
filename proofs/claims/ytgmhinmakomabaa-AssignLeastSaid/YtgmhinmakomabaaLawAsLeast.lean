/-
  AssignLeast: no assignment is cheaper than the one that is returned, and of the same cost none comes earlier. No condition.
-/
import Derived.Test.YtgmhinmakomabaaAsTb
import Derived.Test.YtgmhinmakomabaaAsH
import Derived.Test.YtgmhinmakomabaaAsV
namespace Go.Proofs.Ytgmhinmakomabaa.assignLeast
open Go.ChangeShapes Go.WideShapes Go.ChangeAt Go.RowKit
open Go.ChangeMaps (open_string shut_string)
set_option linter.unusedVariables false

/-- a least assignment that agrees with the first one before place i does not lie below it there -/
theorem first_le {n : Nat} {c : Nat → Nat → Int} {σ t : Nat → Nat} (h : First n c σ) (hp : Perfect n t) (he : costOf c t n = costOf c σ n) {i : Nat} (hi : i < n) (hk : ∀ k, k < i → t k = σ k) : σ i ≤ t i := by
  refine Classical.byContradiction fun hc => h.2 i (t i) hi (by omega) ⟨t, ⟨hp, fun τ hτ => by rw [he]; exact h.1.2 τ hτ⟩, hk, rfl⟩

set_option maxRecDepth 100000 in
set_option maxHeartbeats 8000000 in
theorem walk (z : Int) (A0 : Option Addr) (nl cl : Nat) (l : List Int) (A1 : Option Addr) (no co : Nat) (lo : List Int) (w : World) (v1 : (Lit.int .i64 z).wf = true) (hnl : nl ≤ maxLen) (hr : Ints w w.heap.size A0 nl l) (hli : ∀ x ∈ l, inI64 x) (hno : no ≤ maxLen) (hro : Ints w w.heap.size A1 no lo) (hlo : ∀ x ∈ lo, inI64 x) :
    Calls Try.prog 6 #[.int .i64 z, .slice A0 nl cl, .slice A1 no co] w fun e w' => e = .returned (.bool true) ∧ Below w.heap.size w w' := by
  have HL := Lib.hid (llight_any A0 nl cl w hnl)
  have HAW := Lib.hid (fun w => awake_any w)
  unfold maxLen at hnl hno
  by_cases hle : nl ≤ 120 ∧ no ≤ 60
  rotate_left
  · by_cases k1 : nl ≤ 120
    · rw [decide_eq_true k1] at HL
      have k2 : 60 < no := by omega
      have d2 : decide (60 < no) = true := decide_eq_true k2
      have d2' : decide ((60 : Int) < (no : Int)) = true := decide_eq_true (by omega)
      clear hr hli hro hlo
      go_enter Try.func6, Try.ntmps6
      go_wp2_with fail
      refine (HL.out).mono ?_
      rintro e w0 ⟨rfl, rfl⟩
      go_wp2_with fail
      refine (HAW.out _).mono ?_
      rintro e w9 ⟨rfl, hb9⟩
      go_wp2_with fail
      go_ret
      exact ⟨rfl, hb9⟩
    · rw [decide_eq_false k1] at HL
      clear hr hli hro hlo
      go_enter Try.func6, Try.ntmps6
      go_wp2_with fail
      refine (HL.out).mono ?_
      rintro e w0 ⟨rfl, rfl⟩
      go_wp2_with fail
      refine (HAW.out _).mono ?_
      rintro e w9 ⟨rfl, hb9⟩
      go_wp2_with fail
      go_ret
      exact ⟨rfl, hb9⟩
  obtain ⟨k1, k2⟩ := hle
  rw [decide_eq_true k1] at HL
  have d2 : decide (60 < no) = false := decide_eq_false (by omega)
  have d2' : decide ((60 : Int) < (no : Int)) = false := decide_eq_false (by omega)
  have HM := Lib.hid (fun w => mod_any z 9 w (by omega) (by omega) (wf_i64 v1).1 (wf_i64 v1).2)
  obtain ⟨n, hm1, hm2⟩ : ∃ n : Nat, z % 9 = n ∧ n ≤ 9 := ⟨(z % 9).toNat, by omega, by omega⟩
  rw [hm1] at HM
  have HX := Lib.hid (lawMatrix_any n A0 nl cl l w hm2 (by omega) hr hli)
  have HRO := Lib.hid hro
  have HLO := Lib.hid hlo
  clear hm1 hr hli hro hlo v1
  go_enter Try.func6, Try.ntmps6
  go_wp2_with fail
  refine (HL.out).mono ?_
  rintro e w1 ⟨rfl, rfl⟩
  go_wp2_with fail
  refine (HM.out _).mono ?_
  rintro e w1 ⟨rfl, rfl⟩
  go_wp2_with fail
  refine (HX.out).mono ?_
  rintro e wm ⟨A, m, rfl, hmat, hlen, hmb, hbm⟩
  have HS := Lib.hid (solve_yes wm A n n m hmat hmb)
  have HBM := Lib.hid hbm
  have HMT := Lib.hid hmat
  have HMB := Lib.hid hmb
  have HLN := Lib.hid hlen
  clear hmat hlen hmb hbm HX HM HL
  go_wp2_with fail
  refine (HS.out).mono ?_
  rintro e w1 ⟨bt, bu, bv, cost, tt, u, v, rfl, hf, hfe, hti, hu, hv, hc, k1, k2, k3, e1, e2, e3, l1, l2, l3, hb1⟩
  obtain ⟨w2, hw2⟩ : ∃ w2, w2 = w1.alloc (Obj.cells #[.slice (some ⟨bt, 0, none⟩) n n, .int .i64 cost, .slice (some ⟨bu, 0, none⟩) n n, .slice (some ⟨bv, 0, none⟩) n n] 27) := ⟨_, rfl⟩
  have hb2 : Below wm.heap.size wm w2 := by rw [hw2]; exact hb1.alloc hb1.size _
  have hx2 : Blk w2 w1.heap.size 27 #[.slice (some ⟨bt, 0, none⟩) n n, .int .i64 cost, .slice (some ⟨bu, 0, none⟩) n n, .slice (some ⟨bv, 0, none⟩) n n] := by rw [hw2]; exact Blk.new _ _ _
  have ht2 : IVec w2 bt n (fun i => (tt i : Int)) := by rw [hw2]; exact Vec.alloc k1 _
  have hbw2 : Below w.heap.size w w2 := HBM.out.trans (hb2.mono HBM.out.size)
  have HCH := Lib.hid (choice_any n A1 no co lo w2 (by omega) (by omega) ((Reads.below HRO.out hbw2).more hbw2.size) HLO.out)
  have HW2 := Lib.hid hw2
  have HB2 := Lib.hid hb2
  have HBW2 := Lib.hid hbw2
  have HX2 := Lib.hid hx2
  have HT2 := Lib.hid ht2
  have HFI := Lib.hid hf
  have HC := Lib.hid hc
  clear hf hfe hti hu hv hc k1 k2 k3 e1 e2 e3 l1 l2 l3 hb1 hw2 hb2 hx2 ht2 hbw2 HS HRO HLO
  go_wp2_with fail
  rw [← HW2.out]
  refine (HCH.out).mono ?_
  rintro e w3 ⟨Ac, cc, t, rfl, hfn, hp, hb3⟩
  have hx3 := HX2.out.below hb3 HX2.out.lt
  have ht3 := Vec.below HT2.out hb3 (Vec.lt HT2.out)
  have hbm3 : Below wm.heap.size wm w3 := HB2.out.trans (hb3.mono HB2.out.size)
  have hm3 : Mat w3 w3.heap.size A n m := (HMT.out.below hbm3).more hbm3.size
  have hsq := hm3.sq HMB.out
  have hcb := matB_bounds HMB.out
  rw [HLN.out] at hcb
  have htot1 : ∀ q, Calls Try.prog 19 #[.slice A n n, .slice (some ⟨bt, 0, none⟩) n n] (w3.drewN q) (QuietP (w3.drewN q) (.int .i64 (costOf (mget m) tt n))) := fun q => total_any A n n _ (mget m) _ n n _ tt (w3.drewN q) (hsq.drewN q) hcb (IVec.fn ht3) (Nat.le_refl _) (by omega) (HFI.out.1.1.1)
  have htot2 : ∀ q, Calls Try.prog 19 #[.slice A n n, .slice Ac n cc] (w3.drewN q) (QuietP (w3.drewN q) (.int .i64 (costOf (mget m) t n))) := fun q => total_any A n n _ (mget m) _ n cc _ t (w3.drewN q) (hsq.drewN q) hcb hfn (Nat.le_refl _) (by omega) hp.1
  have hle := HFI.out.1.2 t hp
  obtain ⟨d, hd⟩ : ∃ d, costOf (mget m) t n = d := ⟨_, rfl⟩
  rw [hd] at htot2 hle
  rw [← HC.out] at htot1 hle
  have hfirst : ∀ i, i < n → cost = d → (∀ k, k < i → t k = tt k) → tt i ≤ t i := fun i hi he hk => first_le HFI.out hp (by rw [hd, ← he]; exact HC.out) hi hk
  have HF := Lib.hid hfirst
  have H1 := Lib.hid htot1
  have H2 := Lib.hid htot2
  have HX3 := Lib.hid hx3
  have HT3 := Lib.hid ht3
  have HFN := Lib.hid hfn
  have HB3 : Hid (Below w.heap.size w w3) := HBW2.out.trans (hb3.mono HBW2.out.size)
  have c0 := hx3.cell 0
  have c1 := hx3.cell 1
  simp at c0 c1
  have hgx := hx3.lt
  have hne : ((n : Int) != (n : Int)) = false := by simp
  have dle : decide (cost ≤ d) = true := decide_eq_true hle
  clear hfn hp hb3 hx3 ht3 hbm3 hm3 hsq hcb htot1 htot2 hfirst hd HCH HX2 HT2 HB2 HBW2 HMT HMB HLN HFI HC HW2
  go_wp2_with fail
  refine (H1.out 0).mono ?_
  rintro e w4 ⟨rfl, q1, rfl⟩
  go_wp2_with fail
  refine (H2.out _).mono ?_
  rintro e w4 ⟨rfl, q2, rfl⟩
  clear H1 H2
  go_wp2_with fail
  go_loopw [13] (fun s wr => ∃ (i q : Nat), i ≤ n ∧ s = .int .i64 (i : Int) ∧ wr = w3.drewN q ∧ Hid (∀ k, k < i → t k = tt k)) (fun s _ => n - (intOf s).toNat)
  case atStart => exact ⟨0, _, by omega, rfl, (by first | rfl | exact World.drewN_drewN _ _ _), fun k hk => absurd hk (by omega)⟩
  case round =>
    obtain ⟨i, q, hi, rfl, rfl, HK⟩ := hrel
    by_cases hin : i < n
    · have din : decide ((i : Int) < (n : Int)) = true := decide_eq_true (by omega)
      by_cases hcd : cost = d
      · subst hcd
        have hfl := HF.out i hin rfl HK.out
        obtain ⟨b, off, rfl, hb, h1⟩ := HFN.out i hin
        have h2 := IVec.at_ HT3.out hin
        have f1 : w3.cell? ⟨b, off + i, none⟩ = some (.int .i64 (t i : Int)) := h1
        have f2 : w3.cell? ⟨bt, i, none⟩ = some (.int .i64 (tt i : Int)) := h2
        by_cases heq : t i = tt i
        · have HK' : Hid (∀ k, k < i + 1 → t k = tt k) := fun k hk => by
            by_cases e : k = i
            · subst e; exact heq
            · exact HK.out k (by omega)
          rw [heq] at f1
          clear h1 h2
          go_wp2_with fail
          go_quiet (fail)
          go_wp2_with fail
          go_quiet (fail)
          go_wp2_with fail
          go_roundw
          case rel => exact ⟨i + 1, _, by omega, by go_num, (by first | rfl | exact World.drewN_drewN _ _ _ | simp [World.drewN_drewN]), HK'⟩
          case measure => simp [intOf] <;> omega
        · have hlt : tt i < t i := by omega
          obtain ⟨a, ha⟩ : ∃ a : Int, (t i : Int) = a := ⟨_, rfl⟩
          obtain ⟨b', hb'⟩ : ∃ a : Int, (tt i : Int) = a := ⟨_, rfl⟩
          rw [ha] at f1
          rw [hb'] at f2
          clear h1 h2
          have hab : b' < a := by omega
          go_wp2_with fail
          go_quiet (fail)
          go_wp2_with fail
          go_quiet (fail)
          go_wp2_with fail
          refine (HAW.out _).mono ?_
          rintro e w9 ⟨rfl, hb9⟩
          have g1 := (HX3.out.below ((below_drewN (Below.refl _ w3) _).trans hb9) HX3.out.lt).cell 1
          simp at g1
          have HB9 : Hid (Below w.heap.size w w9) := HB3.out.trans (((below_drewN (Below.refl _ w3) _).trans hb9).mono HB3.out.size)
          clear hb9
          go_wp2_with fail
          go_ret
          exact ⟨rfl, HB9.out⟩
      · have dcd : (cost == d) = false := by simpa using hcd
        go_wp2_with fail
        refine (HAW.out _).mono ?_
        rintro e w9 ⟨rfl, hb9⟩
        have g1 := (HX3.out.below ((below_drewN (Below.refl _ w3) _).trans hb9) HX3.out.lt).cell 1
        simp at g1
        have HB9 : Hid (Below w.heap.size w w9) := HB3.out.trans (((below_drewN (Below.refl _ w3) _).trans hb9).mono HB3.out.size)
        clear hb9
        go_wp2_with fail
        go_ret
        exact ⟨rfl, HB9.out⟩
    · have din : decide ((i : Int) < (n : Int)) = false := decide_eq_false (by omega)
      go_wp2_with fail
      refine (HAW.out _).mono ?_
      rintro e w9 ⟨rfl, hb9⟩
      have g1 := (HX3.out.below ((below_drewN (Below.refl _ w3) _).trans hb9) HX3.out.lt).cell 1
      simp at g1
      have HB9 : Hid (Below w.heap.size w w9) := HB3.out.trans (((below_drewN (Below.refl _ w3) _).trans hb9).mono HB3.out.size)
      clear hb9
      go_wp2_with fail
      go_ret
      exact ⟨rfl, HB9.out⟩

theorem own : ownKnob Try.prog.godebug = none := by kernel_rfl
theorem laidOut : laidOutB Try.prog = true := by kernel_rfl
theorem specN (H : Type) (ds : List (DataW H)) (h : ds.length = 3) : Rows.assignLeastSpec.fn H (ds ++ []) = { results := [.lit (.bool true)], args := ds } := by
  match ds, h with
  | [_, _, _], _ => rfl

set_option maxRecDepth 100000 in
theorem lifted (os : Os) (started : os.Started) (H : Type) (enc : TypeId × Value → H) :
    ReturnsInHanded {} Try.checked os 6 .any (Rows.assignLeastSpec.pre6 enc Try.prog Try.f6 Rows.assignLeastRow.domain false) (Rows.assignLeastSpec.post enc Try.prog Try.f6 false true false false) := by
  refine law_of_walk (C := Try.checked) own started (by kernel_rfl) Try.func6 rfl rfl Try.underlying4 laidOut (by kernel_rfl) (fun ds h => specN H ds (h.trans (by kernel_rfl)))
    (ChangeSpec.witness6 (enc := enc) (C := Try.checked) false ⟨#[], #[.int .i64 0, .slice none 0 0, .slice none 0 0], []⟩ 8 (by kernel_rfl) (by kernel_rfl) (by kernel_rfl) (by kernel_rfl)) ?_
  intro W base args ds p hval hA hsz
  have hval' : ∀ (j : Nat) t v, Try.f6.params[j]? = some t → args[j]? = some v → Value.okWide Try.prog W .any base t v := hval
  rw [Try.params6] at hval' hA hsz
  obtain ⟨v0, vs0, d0, ds0, p0, q0, hargs, rfl, rfl, h0, r0⟩ := trodAll_cons hA
  obtain ⟨v1, vs1, d1, ds1, p1, q1, rfl, rfl, rfl, h1, r1⟩ := trodAll_cons r0
  obtain ⟨v2, vs2, d2, ds2, p2, q2, rfl, rfl, rfl, h2, r2⟩ := trodAll_cons r1
  obtain ⟨rfl, rfl, rfl⟩ := trodAll_nil r2
  obtain rfl : args = #[v0, v1, v2] := by cases args; simp_all
  obtain ⟨a0, rfl, rfl, rfl, w0⟩ := open_int Try.underlying3 (hval' 0 3 v0 rfl rfl) h0
  obtain ⟨a1, len1, cap1, rfl⟩ := okWide_slice Try.underlying25 (hval' 1 25 v1 rfl rfl)
  obtain ⟨hw1, hc1, hm1, l1, hr1, hl1⟩ := open_i64s Try.underlying25 Try.underlying3 (by kernel_rfl) h1
  have hlen1 := len_reach hsz (j := 1) (t := 25) rfl rfl Try.underlying25 (of_decide_eq_true (by kernel_rfl)) hw1
  obtain ⟨a2, len2, cap2, rfl⟩ := okWide_slice Try.underlying25 (hval' 2 25 v2 rfl rfl)
  obtain ⟨hw2, hc2, hm2, l2, hr2, hl2⟩ := open_i64s Try.underlying25 Try.underlying3 (by kernel_rfl) h2
  have hlen2 := len_reach hsz (j := 2) (t := 25) rfl rfl Try.underlying25 (of_decide_eq_true (by kernel_rfl)) hw2
  exact walk a0 a1 len1 cap1 l1 a2 len2 cap2 l2 W w0 (Nat.le_trans hc1 hm1) hr1 hl1 (Nat.le_trans hc2 hm2) hr2 hl2

theorem proved : Rows.AssignLeastSaid :=
  OpenClaim.holds_of_wide 6 Try.f6 rfl rfl rfl rfl rfl rfl rfl ⟨rfl, rfl, rfl, rfl, rfl⟩ rfl rfl rfl rfl rfl (by kernel_rfl) Try.func6 (by kernel_rfl)
    (of_decide_eq_true (by kernel_rfl)) (by unfold Func.isWrapper; first | (rw [if_pos (by decide +kernel)]; kernel_rfl) | (rw [if_neg (by decide +kernel)]; exact ⟨rfl, rfl⟩))
    (fun os started H enc _ => lifted os started H enc)
end Go.Proofs.Ytgmhinmakomabaa.assignLeast
