/-
  AssignSolves: the program's assignment of any matrix is the reference's, costs the same, and its certificate is accepted. No condition.
-/
import Derived.Test.YtgmhinmakomabaaAsP
import Derived.Test.YtgmhinmakomabaaAsS
import Derived.Test.YtgmhinmakomabaaAsV
import Derived.Test.YtgmhinmakomabaaAsZ
namespace Go.Proofs.Ytgmhinmakomabaa.assignSolves
open Go.ChangeShapes Go.WideShapes Go.ChangeAt Go.RowKit
open Go.ChangeMaps (open_string shut_string)
set_option linter.unusedVariables false

set_option maxRecDepth 100000 in
set_option maxHeartbeats 4000000 in
theorem walk (w : World) (A : Option Addr) (n cc : Nat) (m : List (List Int)) (h : Mat w w.heap.size A n m) :
    Calls Try.prog 3 #[.slice A n cc] w fun e w' => e = .returned (.bool true) ∧ Below w.heap.size w w' := by
  have HL := Lib.hid (light_any A n cc _ m w h)
  have HAW := Lib.hid (fun w => awake_any w)
  have hl := h.len
  cases hlb : lightB m with
  | false =>
    rw [hlb] at HL
    clear h hl hlb
    go_enter Try.func3, Try.ntmps3
    go_wp2_with fail
    refine (HL.out).mono ?_
    rintro e w1 ⟨rfl, rfl⟩
    go_wp2_with fail
    refine (HAW.out _).mono ?_
    rintro e w9 ⟨rfl, hb9⟩
    go_wp2_with fail
    go_ret
    exact ⟨rfl, hb9⟩
  | true =>
  rw [hlb] at HL
  cases hmb : matB m with
  | false =>
    have HS := Lib.hid (solve_no w A n cc m h hmb)
    have HR : Hid (∀ w', Below w.heap.size w w' → Calls Try.prog 11 #[.slice A n cc] w' (SolNo w')) := fun w' hb => refSolve_no w' A n cc m ((h.below hb).more hb.size) hmb
    clear h hl hlb hmb
    go_enter Try.func3, Try.ntmps3
    go_wp2_with fail
    refine (HL.out).mono ?_
    rintro e w1 ⟨rfl, rfl⟩
    go_wp2_with fail
    refine (HS.out).mono ?_
    rintro e w1 ⟨rfl, hb1⟩
    have HB1 : Hid (Below w.heap.size w (w1.alloc (Obj.cells #[Value.slice none 0 0, Value.int IntKind.i64 0, Value.slice none 0 0, Value.slice none 0 0] 27))) := hb1.alloc hb1.size _
    clear hb1 HS
    go_wp2_with fail
    refine (HR.out _ HB1.out).mono ?_
    rintro e w2 ⟨rfl, hb2⟩
    have hx := Blk.below (Blk.new w1 27 #[Value.slice none 0 0, Value.int IntKind.i64 0, Value.slice none 0 0, Value.slice none 0 0]) hb2 (by simp)
    have p0 := hx.cell 0
    have p1 := hx.cell 1
    simp at p0 p1
    have plt := hx.lt
    have HB2 : Hid (Below w.heap.size w (w2.alloc (Obj.cells #[Value.slice none 0 0, Value.int IntKind.i64 0, Value.slice none 0 0, Value.slice none 0 0] 27))) := (HB1.out.trans (hb2.mono HB1.out.size)).alloc (Nat.le_trans HB1.out.size hb2.size) _
    have HSI : Hid (∀ w', Calls Try.prog 12 #[.slice none 0 0, .slice none 0 0] w' (QuietP w' (.bool true))) := fun w' => sameInts_eq none 0 0 0 none 0 0 (fun _ => 0) (fun _ => 0) w' (fun i hi => absurd hi (by omega)) (fun i hi => absurd hi (by omega)) (by omega) (fun i hi => absurd hi (by omega))
    clear hb2 HB1 HR hx
    go_wp2_with fail
    refine (HSI.out _).mono ?_
    rintro e w3 ⟨rfl, d, rfl⟩
    go_wp2_with fail
    refine (HAW.out _).mono ?_
    rintro e w9 ⟨rfl, hb9⟩
    have HE : Hid (Below w.heap.size w w9) := (below_drewN HB2.out d).trans (hb9.mono HB2.out.size)
    clear hb9
    go_wp2_with fail
    go_ret
    exact ⟨rfl, HE.out⟩
  | true =>
    have HS := Lib.hid (solve_yes w A n cc m h hmb)
    have HR : Hid (∀ w', Below w.heap.size w w' → Calls Try.prog 11 #[.slice A n cc] w' (RSolPost w' n (mget m))) := fun w' hb => refSolve_yes w' A n cc m ((h.below hb).more hb.size) hmb
    have HM : Hid (∀ w', Below w.heap.size w w' → Mat w' w'.heap.size A n m) := fun w' hb => (h.below hb).more hb.size
    have HMB := Lib.hid hmb
    have HLN := Lib.hid hl
    have hn : n ≤ 40 := by
      unfold matB at hmb
      simp only [Bool.and_eq_true, decide_eq_true_eq] at hmb
      omega
    clear h hl hlb hmb
    go_enter Try.func3, Try.ntmps3
    go_wp2_with fail
    refine (HL.out).mono ?_
    rintro e w1 ⟨rfl, rfl⟩
    go_wp2_with fail
    refine (HS.out).mono ?_
    rintro e w1 ⟨bt, bu, bv, cost, tt, u, v, rfl, hf, hfe, hti, hu, hv, hc, k1, k2, k3, d1, d2, d3, l1, l2, l3, hb1⟩
    have HV : Hid (verB m n n n (fun i => (tt i : Int)) u v cost = true) := verB_true HMB.out HLN.out (fun _ _ => rfl) hf hfe hti hu hv hc
    have HFI := Lib.hid hf
    have HCO := Lib.hid hc
    have HB1 : Hid (Below w.heap.size w (w1.alloc (Obj.cells #[.slice (some ⟨bt, 0, none⟩) n n, .int .i64 cost, .slice (some ⟨bu, 0, none⟩) n n, .slice (some ⟨bv, 0, none⟩) n n] 27))) := hb1.alloc hb1.size _
    have K1 := Lib.hid k1
    have K2 := Lib.hid k2
    have K3 := Lib.hid k3
    clear hf hfe hti hu hv hc k1 k2 k3 d1 d2 d3 l1 l2 l3 hb1 HS
    go_wp2_with fail
    refine (HR.out _ HB1.out).mono ?_
    rintro e w2 ⟨bt', bu', bv', o, cost', tt', u', v', x0, y0, rfl, _, hf, _, _, _, _, hc, k1, _, _, _, _, _, _, _, _, hb2⟩
    have huq := HFI.out.unique hf
    have hcc : cost' = cost := by rw [HCO.out, hc]; exact sumTo_congr fun i hi => by rw [huq i hi]
    subst hcc
    have hx := Blk.below (Blk.new w1 27 #[.slice (some ⟨bt, 0, none⟩) n n, .int .i64 cost', .slice (some ⟨bu, 0, none⟩) n n, .slice (some ⟨bv, 0, none⟩) n n]) hb2 (by simp)
    have p0 := hx.cell 0
    have p1 := hx.cell 1
    have p2 := hx.cell 2
    have p3 := hx.cell 3
    simp at p0 p1 p2 p3
    have plt := hx.lt
    have hz2 : w1.heap.size + 1 ≤ w2.heap.size := by have := hb2.size; simpa using this
    obtain ⟨wy, hwy⟩ : ∃ wy, wy = w2.alloc (Obj.cells #[.slice (some ⟨bt', 0, none⟩) n n, .int .i64 cost', .slice (some ⟨bu', o, none⟩) n n, .slice (some ⟨bv', o, none⟩) n n] 27) := ⟨_, rfl⟩
    have hb12 : Below w1.heap.size w1 wy := by rw [hwy]; exact ((((Below.refl _ w1).alloc (Nat.le_refl _) _).trans (hb2.mono (by simp))).alloc (by omega) _)
    have HB2 : Hid (Below w.heap.size w wy) := by rw [hwy]; exact (HB1.out.trans (hb2.mono HB1.out.size)).alloc (Nat.le_trans HB1.out.size hb2.size) _
    have hzy : w1.heap.size ≤ wy.heap.size := hb12.size
    have hty : IVec wy bt' n (fun i => (tt' i : Int)) := by rw [hwy]; exact Vec.alloc k1 _
    have HSI : Hid (Calls Try.prog 12 #[.slice (some ⟨bt, 0, none⟩) n n, .slice (some ⟨bt', 0, none⟩) n n] wy (QuietP wy (.bool true))) :=
      sameInts_eq _ n n _ _ n _ (fun i => (tt i : Int)) (fun i => (tt' i : Int)) wy ((IVec.fn K1.out).below hb12) (IVec.fn hty) (by omega) (fun i hi => by rw [huq i hi])
    have HVE : Hid (∀ w', Below wy.heap.size wy w' → Calls Try.prog 13 #[.slice A n cc, .agg #[.slice (some ⟨bt, 0, none⟩) n n, .int .i64 cost', .slice (some ⟨bu, 0, none⟩) n n, .slice (some ⟨bv, 0, none⟩) n n]] w' (VerPost w' true)) := fun w' hb => by
      have hb' : Below w1.heap.size w1 w' := hb12.trans (hb.mono hzy)
      have h1 := refVerify_any w' A n cc m (some ⟨bt, 0, none⟩) n n (fun i => (tt i : Int)) cost' (some ⟨bu, 0, none⟩) n n u (some ⟨bv, 0, none⟩) n n v (HM.out w' (HB2.out.trans (hb.mono HB2.out.size)))
        ⟨((IVec.fn K1.out).below hb').more hb'.size, ((IVec.fn K2.out).below hb').more hb'.size, ((IVec.fn K3.out).below hb').more hb'.size, Nat.le_refl _, Nat.le_refl _, by omega, by omega, by omega⟩ (Nat.le_refl _)
      rw [HV.out] at h1
      exact h1
    have HWY := Lib.hid hwy
    have HXB : Hid (∀ w', Below wy.heap.size wy w' → Blk w' w1.heap.size 27 #[.slice (some ⟨bt, 0, none⟩) n n, .int .i64 cost', .slice (some ⟨bu, 0, none⟩) n n, .slice (some ⟨bv, 0, none⟩) n n]) := fun w' hb => by
      have h1 : Blk wy w1.heap.size 27 #[.slice (some ⟨bt, 0, none⟩) n n, .int .i64 cost', .slice (some ⟨bu, 0, none⟩) n n, .slice (some ⟨bv, 0, none⟩) n n] := by rw [hwy]; exact hx.alloc _
      exact h1.below hb h1.lt
    clear hf hc k1 huq hx hb2 hb12 hty hwy hzy HR HB1 HCO HFI HM K1 K2 K3 HV HMB HLN
    go_wp2_with fail
    rw [← HWY.out]
    refine (HSI.out).mono ?_
    rintro e w3 ⟨rfl, d, rfl⟩
    go_wp2_with fail
    refine (HAW.out _).mono ?_
    rintro e w4 ⟨rfl, hb4⟩
    have hb5 : Below wy.heap.size wy w4 := (below_drewN (Below.refl _ wy) d).trans hb4
    have hk := HXB.out w4 hb5
    have r0 := hk.cell 0
    have r1 := hk.cell 1
    have r2 := hk.cell 2
    have r3 := hk.cell 3
    simp at r0 r1 r2 r3
    have HB5 := Lib.hid hb5
    clear hb4 hb5 hk HXB
    go_wp2_with fail
    refine (HVE.out _ HB5.out).mono ?_
    rintro e w6 ⟨rfl, hb6⟩
    have HE : Hid (Below w.heap.size w w6) := (HB2.out.trans (HB5.out.mono HB2.out.size)).trans (hb6.mono (Nat.le_trans HB2.out.size HB5.out.size))
    clear hb6
    go_wp2_with fail
    go_ret
    exact ⟨rfl, HE.out⟩

theorem own : ownKnob Try.prog.godebug = none := by kernel_rfl
theorem laidOut : laidOutB Try.prog = true := by kernel_rfl
theorem specN (H : Type) (ds : List (DataW H)) (h : ds.length = 1) : Rows.assignSolvesSpec.fn H (ds ++ []) = { results := [.lit (.bool true)], args := ds } := by
  match ds, h with
  | [_], _ => rfl

set_option maxRecDepth 100000 in
theorem lifted (os : Os) (started : os.Started) (H : Type) (enc : TypeId × Value → H) :
    ReturnsInHanded {} Try.checked os 3 .any (Rows.assignSolvesSpec.pre6 enc Try.prog Try.f3 Rows.assignSolvesRow.domain false) (Rows.assignSolvesSpec.post enc Try.prog Try.f3 false true false false) := by
  refine law_of_walk (C := Try.checked) own started (by kernel_rfl) Try.func3 rfl rfl Try.underlying4 laidOut (by kernel_rfl) (fun ds h => specN H ds (h.trans (by kernel_rfl)))
    (ChangeSpec.witness6 (enc := enc) (C := Try.checked) false ⟨#[], #[.slice none 0 0], []⟩ 8 (by kernel_rfl) (by kernel_rfl) (by kernel_rfl) (by kernel_rfl)) ?_
  intro W base args ds p hval hA hsz
  have hval' : ∀ (j : Nat) t v, Try.f3.params[j]? = some t → args[j]? = some v → Value.okWide Try.prog W .any base t v := hval
  rw [Try.params3] at hval' hA hsz
  obtain ⟨v0, vs0, d0, ds0, p0, q0, hargs, rfl, rfl, h0, r0⟩ := trodAll_cons hA
  obtain ⟨rfl, rfl, rfl⟩ := trodAll_nil r0
  obtain rfl : args = #[v0] := by cases args; simp_all
  obtain ⟨a0, len0, cap0, rfl⟩ := okWide_slice Try.underlying22 (hval' 0 22 v0 rfl rfl)
  obtain ⟨hm0, l0, hr0⟩ := open_mat' h0
  exact walk W a0 len0 cap0 l0 hr0

theorem proved : Rows.AssignSolvesSaid :=
  OpenClaim.holds_of_wide 3 Try.f3 rfl rfl rfl rfl rfl rfl rfl ⟨rfl, rfl, rfl, rfl, rfl⟩ rfl rfl rfl rfl rfl (by kernel_rfl) Try.func3 (by kernel_rfl)
    (of_decide_eq_true (by kernel_rfl)) (by unfold Func.isWrapper; first | (rw [if_pos (by decide +kernel)]; kernel_rfl) | (rw [if_neg (by decide +kernel)]; exact ⟨rfl, rfl⟩))
    (fun os started H enc _ => lifted os started H enc)
end Go.Proofs.Ytgmhinmakomabaa.assignSolves
