/-
  Number, the reference's. No condition.
-/
import Derived.Test.YthaepakpeamajaaTrG
namespace Go.Proofs.Ythaepakpeamajaa
open Go.RowKit
set_option linter.unusedVariables false

theorem none_numW {t s : TX} {p : List Int} {j : Nat} (h : t.find p = s.find (p.drop j)) (hn : s.find (p.drop j) = none) : t.numW p = -1 := numW_none (h.trans hn)

set_option maxRecDepth 100000 in
set_option maxHeartbeats 1600000 in
theorem rnumber_any (t : TX) (A : Option Addr) (c : Nat) (p : List Int) (w : World) (h : Tr w w.heap.size t) (hp : Reads w w.heap.size 1 A p.length (p.map (Value.int .i64))) (hl : p.length ≤ 140737488351232) :
    Calls Try.prog 15 #[t.val, .slice A p.length c] w (Ret w (.int .i64 (t.numW p))) := by
  have HW0 : Hid (Below w.heap.size w (w.alloc (.cells t.arr 25))) := (Below.refl _ w).alloc (Nat.le_refl _) _
  have HX0 : Hid (Blk (w.alloc (.cells t.arr 25)) w.heap.size 25 t.arr) := Blk.new w 25 _
  have HP := Lib.hid hp
  have H := Lib.hid h
  unfold TX.val
  clear h hp
  go_enter Try.func15, Try.ntmps15
  go_wp2_with fail
  go_loopw [5, 6] (fun n i wr => ∃ (j : Nat) (s : TX) (acc : Int), j ≤ p.length ∧ i = .int .i64 (j : Int) ∧ n = .int .i64 (wrap64 acc) ∧ Hid (t.num p = acc + s.num (p.drop j)) ∧ Hid (t.find p = s.find (p.drop j)) ∧ Hid (Tr w w.heap.size s) ∧ Hid (Below w.heap.size w wr) ∧ Hid (Blk wr w.heap.size 25 s.arr)) (fun _ i _ => p.length - (intOf i).toNat)
  case atStart => exact ⟨0, t, 0, by omega, rfl, congrArg _ (IntWalk.wrap64_in 0 (by simp)).symm, by simp [Hid], rfl, H, HW0, HX0⟩
  case round =>
    obtain ⟨j, s, acc, hj, rfl, rfl, HN, HF, HS, HB, HX⟩ := hrel
    have c3 := HX.out.cell 3
    simp [TX.arr] at c3
    by_cases hlt : j < p.length
    · obtain ⟨x, hx⟩ : ∃ x, p[j]? = some x := ⟨_, List.getElem?_eq_getElem hlt⟩
      obtain ⟨b1, o1, u1, rfl, -, hu1, g1⟩ := (HP.out.below HB.out).at1 hlt
      obtain rfl : u1 = .int .i64 x := by rw [List.getElem?_map, hx] at hu1; simpa using hu1.symm
      have i0 : (0 : Int) ≤ (j : Int) := by omega
      have i1 : (j : Int) < (p.length : Int) := by omega
      by_cases hin : 0 ≤ x ∧ x < s.kids.length
      · obtain ⟨h0, h1⟩ := hin
        obtain ⟨m, rfl⟩ : ∃ m : Nat, x = m := ⟨x.toNat, by omega⟩
        have n1 : decide ((m : Int) < 0) = false := by simp
        have n2 : decide (s.kids.length ≤ m) = false := by simp; omega
        have n3 : decide ((s.kids.length : Int) ≤ (m : Int)) = false := by simp; omega
        have hkb := HS.out.kb
        obtain ⟨k, hk⟩ : ∃ k, s.kids[m]? = some k := ⟨_, List.getElem?_eq_getElem (by omega)⟩
        obtain ⟨ab, ao, hA, hab, -⟩ := (HS.out.low HB.out).at_ hk
        rw [hA] at c3
        have HA := Lib.hid hA
        have HNK : Hid (t.num p = acc + 1 + (szs s m : Int) + k.num (p.drop (j + 1))) := by have := HN.out; rw [num_step hx hk] at this; unfold Hid; omega
        have HFK := Lib.hid (HF.out.trans (find_step hx hk))
        have HSK := Lib.hid (HS.out.sub k (List.mem_of_getElem? hk))
        have HK := Lib.hid hk
        have HU1 := Lib.hid hx
        clear hu1 hx hA hk
        go_wp2_with fail
        go_quiet (fail)
        go_wp2_with fail
        have HBq : Hid (Below w.heap.size w (wr.drewN nq)) := below_drewN HB.out nq
        have HXq : Hid (Blk (wr.drewN nq) w.heap.size 25 s.arr) := HX.out.drewN nq
        go_loopw [5, 7] (fun n i wr => ∃ i' : Nat, i' ≤ m ∧ i = .int .i64 (i' : Int) ∧ n = .int .i64 (wrap64 (acc + 1 + (szs s i' : Int))) ∧ Hid (Below w.heap.size w wr) ∧ Hid (Blk wr w.heap.size 25 s.arr)) (fun _ i _ => m - (intOf i).toNat)
        case atStart => exact ⟨0, by omega, rfl, by rw [szs_zero]; exact congrArg _ (by rw [wrap_one]; simp), HBq, HXq⟩
        case round =>
          obtain ⟨i, hi, rfl, rfl, HB2, HX2⟩ := hrel
          clear c3 g1
          have c3 := HX2.out.cell 3
          simp [TX.arr] at c3
          rw [HA.out] at c3
          obtain ⟨b1', o1', u1, hbo, -, hu1, g1⟩ := (HP.out.below HB2.out).at1 hlt
          obtain rfl : u1 = .int .i64 (m : Int) := by rw [List.getElem?_map, HU1.out] at hu1; simpa using hu1.symm
          injection hbo with hbo
          injection hbo with hbo1 hbo2
          subst hbo1 hbo2
          clear hu1
          by_cases hlt2 : i < m
          · obtain ⟨l, hl'⟩ : ∃ l, s.kids[i]? = some l := ⟨_, List.getElem?_eq_getElem (by omega)⟩
            obtain ⟨e0, e1, e2, e3⟩ := (HS.out.low HB2.out).c4 hl' HA.out
            have HZ := Lib.hid (szs_succ hl')
            have HC2 := Lib.hid (rsize_any l wr ((HS.out.sub l (List.mem_of_getElem? hl')).up (Nat.le_refl _) HB2.out))
            unfold SizeAt TX.val at HC2
            clear hl'
            go_wp2_with fail
            refine (HC2.out).mono ?_
            rintro e w2 ⟨rfl, hb2⟩
            have HB3 := Lib.hid (HB2.out.trans (hb2.mono HB2.out.size))
            have HX3 := Lib.hid (HX2.out.below hb2 HX2.out.lt)
            clear hb2
            go_wp2_with fail
            go_roundw
            case rel => exact ⟨i + 1, by omega, by go_num, by rw [HZ.out]; exact congrArg _ ((wrap_add _ _).trans (congrArg _ (by omega))), HB3, HX3⟩
            case measure => simp [intOf]; omega
          · obtain rfl : i = m := by omega
            obtain ⟨e0, e1, e2, e3⟩ := (HS.out.low HB2.out).c4 HK.out HA.out
            have hf0 := HX2.out.frozen 0
            have hf1 := HX2.out.frozen 1
            have hf2 := HX2.out.frozen 2
            have hf3 := HX2.out.frozen 3
            have b0 := HX2.out.cell 0
            have b1' := HX2.out.cell 1
            have b2 := HX2.out.cell 2
            simp [TX.arr] at b0 b1' b2
            have HBK := Lib.hid (below_put4 (below_drewN HB2.out 1) (Nat.le_refl _) k)
            have HXK := Lib.hid (blk_put4 (HX2.out.drewN 1) k)
            go_wp2_with fail
            refine region_tail 8 (by kernel_rfl) (by kernel_rfl) _ rfl ?_
            simp only [List.take_succ_cons, List.take_zero, List.drop_succ_cons, List.drop_zero]
            repeat (go_big_quiet_step (fail))
            refine wpQuiet_nil ?_
            go_wp2_with fail
            go_roundw
            case rel => exact ⟨j + 1, k, acc + 1 + (szs s i : Int), by omega, by go_num, rfl, HNK, HFK, HSK, HBK, HXK⟩
            case measure => simp [intOf]; omega
      · have HE := Lib.hid (none_numW HF.out (find_out hx (s := s) (by omega)))
        have HD : Hid (decide (x < 0) = true ∨ (decide (x < 0) = false ∧ decide ((s.kids.length : Int) ≤ x) = true)) := by unfold Hid; simp; omega
        clear hu1 hx hin
        rcases HD.out with q1 | ⟨q1, q2⟩
        all_goals
          go_wp2_with fail
          go_quiet (fail)
          go_wp2_with fail
          go_ret
          exact ⟨by rw [HE.out]; rfl, below_drewN HB.out nq⟩
    · have HN2 : Hid (t.numW p = wrap64 acc) := by
        have h := HN.out
        have h2 := HF.out
        rw [List.drop_eq_nil_of_le (by omega), TX.num] at h
        rw [List.drop_eq_nil_of_le (by omega), TX.find] at h2
        unfold Hid; rw [numW_some h2, h]; simp
      go_wp2_with fail
      go_ret
      exact ⟨by rw [HN2.out]; rfl, HB.out⟩
end Go.Proofs.Ythaepakpeamajaa
