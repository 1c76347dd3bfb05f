/-
  awake. No condition.
-/
import Derived.Test.YtgmhinmakomabaaAsH
import Derived.Test.YtgmhinmakomabaaAsU
namespace Go.Proofs.Ytgmhinmakomabaa
open Go.RowKit
set_option linter.unusedVariables false

theorem ints_new (w : World) (l : List Int) (c : Nat) (hc : c = l.length) : Ints (w.alloc (.cells (l.map (Value.int .i64)).toArray 3)) (w.heap.size + 1) (some ⟨w.heap.size, 0, none⟩) c l := by
  subst hc
  refine ⟨by simp, fun _ => ⟨_, rfl, by show w.heap.size < w.heap.size + 1; omega, fun j u hu => ?_⟩⟩
  rw [Addr.add_lit, Nat.zero_add, (Blk.new w _ _).cell]
  simpa using hu
/-- the example's matrix, made anew -/
def exW (w : World) : World := ((w.alloc (.cells #[.int .i64 1, .int .i64 2] 3)).alloc (.cells #[.int .i64 1, .int .i64 5] 3)).alloc (.cells #[.slice (some ⟨w.heap.size, 0, none⟩) 2 2, .slice (some ⟨w.heap.size + 1, 0, none⟩) 2 2] 25)
theorem exW_size (w : World) : (exW w).heap.size = w.heap.size + 3 := by simp [exW]
theorem exW_below (w : World) : Below w.heap.size w (exW w) := (((Below.refl _ w).alloc (Nat.le_refl _) _).alloc (by simp) _).alloc (by simp; omega) _
theorem exW_mat (w : World) : Mat (exW w) (exW w).heap.size (some ⟨w.heap.size + 1 + 1, 0, none⟩) 2 exM := by
  have r1 : Ints (exW w) (exW w).heap.size (some ⟨w.heap.size, 0, none⟩) 2 [1, 2] := by
    have h := ints_new w [1, 2] 2 rfl
    exact ((h.alloc (by simp) _).alloc (by simp) _).more (by rw [exW_size]; omega)
  have r2 : Ints (exW w) (exW w).heap.size (some ⟨w.heap.size + 1, 0, none⟩) 2 [1, 5] := by
    have h := ints_new (w.alloc (.cells #[.int .i64 1, .int .i64 2] 3)) [1, 5] 2 rfl
    have e : (w.alloc (.cells #[.int .i64 1, .int .i64 2] 3)).heap.size = w.heap.size + 1 := by simp
    rw [e] at h
    exact (h.alloc (by simp) _).more (by rw [exW_size]; omega)
  refine ⟨[(some ⟨w.heap.size, 0, none⟩, 2, 2), (some ⟨w.heap.size + 1, 0, none⟩, 2, 2)], ⟨rfl, fun _ => ⟨_, rfl, by rw [exW_size]; show w.heap.size + 1 + 1 < w.heap.size + 3; omega, fun j u hu => ?_⟩⟩, rfl, fun i h r h1 h2 => ?_⟩
  · have hb : Blk (exW w) (w.heap.size + 1 + 1) 25 #[.slice (some ⟨w.heap.size, 0, none⟩) 2 2, .slice (some ⟨w.heap.size + 1, 0, none⟩) 2 2] := by
      have := Blk.new ((w.alloc (.cells #[.int .i64 1, .int .i64 2] 3)).alloc (.cells #[.int .i64 1, .int .i64 5] 3)) 25 #[.slice (some ⟨w.heap.size, 0, none⟩) 2 2, .slice (some ⟨w.heap.size + 1, 0, none⟩) 2 2]
      have e : ((w.alloc (.cells #[.int .i64 1, .int .i64 2] 3)).alloc (.cells #[.int .i64 1, .int .i64 5] 3)).heap.size = w.heap.size + 1 + 1 := by simp
      rw [e] at this
      exact this
    rw [Addr.add_lit, Nat.zero_add, hb.cell]
    simpa [hdv] using hu
  · match i with
    | 0 =>
      simp [exM] at h1 h2
      subst h1 h2
      exact r1
    | 1 =>
      simp [exM] at h1 h2
      subst h1 h2
      exact r2
    | k + 2 => simp at h1

set_option maxRecDepth 100000 in
set_option maxHeartbeats 4000000 in
theorem awake_any (w : World) : Calls Try.prog 9 #[] w (VerPost w true) := by
  have HS := Lib.hid (solve_yes (exW w) _ 2 2 exM (exW_mat w) exM_mat)
  have HE : Hid (((w.alloc (.cells #[.int .i64 1, .int .i64 2] 3)).alloc (.cells #[.int .i64 1, .int .i64 5] 3)).alloc (.cells #[.slice (some ⟨w.heap.size, 0, none⟩) 2 2, .slice (some ⟨w.heap.size + 1, 0, none⟩) 2 2] 25) = exW w) := rfl
  go_enter Try.func9, Try.ntmps9
  go_wp2_with fail
  rw [HE.out]
  refine (HS.out).mono ?_
  rintro e w1 ⟨bt, bu, bv, cost, tt, u, v, rfl, hf, hfe, hti, hu, hv, hc, k1, k2, k3, d1, d2, d3, l1, l2, l3, hb⟩
  obtain ⟨t0, t1, t2⟩ := ex_first hf
  have hc3 : cost = 3 := hc.trans t2
  subst hc3
  have HV : Hid (verB exM 2 2 2 (fun i => (tt i : Int)) u v 3 = true) := verB_true exM_mat rfl (fun _ _ => rfl) hf hfe hti hu hv hc
  have hb0 : Below w.heap.size w w1 := (exW_below w).trans (hb.mono (by rw [exW_size]; omega))
  have HB := Lib.hid hb0
  have K1 := Lib.hid k1
  have K2 := Lib.hid k2
  have K3 := Lib.hid k3
  have x0 := k1.at_ (i := 0) (by omega)
  have x1 := k1.at_ (i := 1) (by omega)
  rw [t0] at x0
  rw [t1] at x1
  have lt1 := Vec.lt k1
  obtain ⟨wb, hwb⟩ : ∃ wb, wb = w1.alloc (Obj.cells #[.slice (some ⟨bt, 0, none⟩) 2 2, .int .i64 3, .slice (some ⟨bu, 0, none⟩) 2 2, .slice (some ⟨bv, 0, none⟩) 2 2] 27) := ⟨_, rfl⟩
  have hz : wb.heap.size = w1.heap.size + 1 := by rw [hwb]; simp
  have hb1 : Below w1.heap.size w1 wb := by rw [hwb]; exact (Below.refl _ _).alloc (Nat.le_refl _) _
  have hb2 : Below w1.heap.size w1 (exW wb) := hb1.trans ((exW_below wb).mono (by omega))
  have hle : w1.heap.size ≤ (exW wb).heap.size := by rw [exW_size]; omega
  have HA : Asg (exW wb) (exW wb).heap.size (some ⟨bt, 0, none⟩) 2 2 (fun i => (tt i : Int)) (some ⟨bu, 0, none⟩) 2 2 u (some ⟨bv, 0, none⟩) 2 2 v :=
    ⟨((IVec.fn k1).below hb2).more hle, ((IVec.fn k2).below hb2).more hle, ((IVec.fn k3).below hb2).more hle, by omega, by omega, by omega, by omega, by omega⟩
  have hvr := verify_any (exW wb) (some ⟨wb.heap.size + 1 + 1, 0, none⟩) 2 2 exM _ 2 2 _ 3 _ 2 2 _ _ 2 2 _ (exW_mat wb) HA
  rw [HV.out] at hvr
  have HBE : Hid (∀ w', Below (exW wb).heap.size (exW wb) w' → Below w.heap.size w w') := fun w' h => (hb0.trans (hb2.mono hb0.size)).trans (h.mono (Nat.le_trans hb0.size hle))
  unfold exW at hvr HBE
  rw [hz] at hvr HBE
  have HVR := Lib.hid hvr
  have HWB := Lib.hid hwb
  clear hf hfe hti hu hv hc k1 k2 k3 hb hb0 t0 t1 t2 HS HE d1 d2 d3 l1 l2 l3 hwb hz hb1 hb2 hle HA hvr HV HB
  go_wp2_with fail
  rw [← HWB.out]
  refine (HVR.out).mono ?_
  rintro e w2 ⟨rfl, hbe⟩
  have HE2 := Lib.hid (HBE.out w2 hbe)
  clear hbe HBE HVR
  go_wp2_with fail
  go_ret
  exact ⟨rfl, HE2.out⟩
end Go.Proofs.Ytgmhinmakomabaa
