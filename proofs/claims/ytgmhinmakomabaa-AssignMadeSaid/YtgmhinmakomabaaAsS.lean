/-
  Verify: the reference's walk. No condition.
-/
import Derived.Test.YtgmhinmakomabaaAsR
namespace Go.Proofs.Ytgmhinmakomabaa
open Go.RowKit
set_option linter.unusedVariables false

theorem sum_two (u v : Nat → Int) (n : Nat) : sumTo (fun i => u i + v i) n = sumTo u n + sumTo v n := sumTo_add u v n
theorem quiet_post {P : Program} {f : FuncId} {args : Array Value} {w : World} {n : Nat} {v : Value} (h : Calls P f args (w.drewN n) (QuietP (w.drewN n) v)) : Calls P f args (w.drewN n) fun e w' => e = .returned v ∧ ∃ m, w' = w.drewN m :=
  h.mono fun _ _ ⟨he, m, hm⟩ => ⟨he, n + m, by rw [hm, World.drewN_drewN]⟩
/-- before row i -/
def RvSt (w1 : World) (n : Nat) (t u v : Nat → Int) (i : Nat) (x : Int) (wr : World) : Prop :=
  Below w1.heap.size w1 wr ∧ x = sumTo u i + sumTo v i ∧ allB (fun i => rngB (u i) && rngB (v i)) i = true ∧ allB (fun i => decide (0 ≤ t i) && decide (t i < n) && !tkB t (t i) i) i = true

theorem RvSt.drewN {w1 wr : World} {n : Nat} {t u v : Nat → Int} {i : Nat} {x : Int} (h : RvSt w1 n t u v i x wr) (e : Nat) : RvSt w1 n t u v i x (wr.drewN e) := ⟨below_drewN h.1 e, h.2⟩

set_option maxRecDepth 100000 in
set_option maxHeartbeats 4000000 in
theorem refVerify_any (w : World) (A : Option Addr) (n cc : Nat) (m : List (List Int)) (At : Option Addr) (nt ct : Nat) (t : Nat → Int) (cost : Int) (Au : Option Addr) (nu cu : Nat) (u : Nat → Int) (Av : Option Addr) (nv cv : Nat) (v : Nat → Int)
    (hm : Mat w w.heap.size A n m) (ha : Asg w w.heap.size At nt ct t Au nu cu u Av nv cv v) (hct : nt ≤ ct) :
    Calls Try.prog 13 #[.slice A n cc, .agg #[.slice At nt ct, .int .i64 cost, .slice Au nu cu, .slice Av nv cv]] w (VerPost w (verB m nt nu nv t u v cost)) := by
  obtain ⟨w1, hw1⟩ : ∃ w1, w1 = w.alloc (Obj.cells #[.slice At nt ct, .int .i64 cost, .slice Au nu cu, .slice Av nv cv] 27) := ⟨_, rfl⟩
  have hs1 : w.heap.size < w1.heap.size := by subst hw1; simp
  have hB1 : Below w.heap.size w w1 := by subst hw1; exact (Below.refl _ w).alloc (Nat.le_refl _) _
  have hK1 : Blk w1 w.heap.size 27 #[.slice At nt ct, .int .i64 cost, .slice Au nu cu, .slice Av nv cv] := by subst hw1; exact Blk.new _ _ _
  have hl := hm.len
  have HMX := Lib.hid (refMatrix_any A n cc _ m w1 (hm.below hB1))
  have hsq : matB m = true → Sq w1 w.heap.size A n (mget m) ∧ CB n (mget m) ∧ n ≤ 40 := fun h => ⟨(hm.below hB1).sq h, by rw [← hl]; exact matB_bounds h, by
    unfold matB at h
    simp only [Bool.and_eq_true, decide_eq_true_eq] at h
    omega⟩
  have HA1 := Lib.hid (ha.below hB1)
  have a0 := hK1.cell 0
  have a1 := hK1.cell 1
  have a2 := hK1.cell 2
  have a3 := hK1.cell 3
  simp at a0 a1 a2 a3
  obtain ⟨res, hres⟩ : ∃ b, verB m nt nu nv t u v cost = b := ⟨_, rfl⟩
  rw [hres]
  unfold verB at hres
  rw [hl] at hres
  obtain ⟨mb, hmb⟩ : ∃ b, matB m = b := ⟨_, rfl⟩
  rw [hmb] at hres HMX hsq
  have HE := Lib.hid hres
  have HW := Lib.hid hw1
  have HB1 := Lib.hid hB1
  have HSQ := Lib.hid hsq
  have m3 := ha.mt
  obtain ⟨c, hc⟩ : ∃ c, mget m = c := ⟨_, rfl⟩
  rw [hc] at HE HSQ
  clear hm ha hl hw1 hB1 hK1 hres hmb hsq hc
  cases mb with
  | false =>
    have hf : Hid (res = false) := by show res = false; rw [← HE.out]; simp
    go_enter Try.func13, Try.ntmps13
    go_wp2_with fail
    rw [← HW.out]
    refine (HMX.out).mono ?_
    rintro e w2 ⟨rfl, rfl⟩
    go_wp2_with fail
    go_ret
    exact ⟨by rw [hf.out]; rfl, HB1.out⟩
  | true =>
  obtain ⟨hsq, hcb, hn⟩ := HSQ.out rfl
  have HQ := Lib.hid hsq
  have HCB := Lib.hid hcb
  clear hsq hcb HSQ
  by_cases h1 : nt = n
  rotate_left
  · have h1' : ((nt : Int) != (n : Int)) = true := by simp; omega
    have hf : Hid (res = false) := by show res = false; rw [← HE.out]; simp [h1]
    go_enter Try.func13, Try.ntmps13
    go_wp2_with fail
    rw [← HW.out]
    refine (HMX.out).mono ?_
    rintro e w2 ⟨rfl, rfl⟩
    go_wp2_with fail
    go_ret
    exact ⟨by rw [hf.out]; rfl, HB1.out⟩
  subst h1
  by_cases h2 : nu = nt
  rotate_left
  · have h2' : ((nu : Int) != (nt : Int)) = true := by simp; omega
    have hf : Hid (res = false) := by show res = false; rw [← HE.out]; simp [h2]
    go_enter Try.func13, Try.ntmps13
    go_wp2_with fail
    rw [← HW.out]
    refine (HMX.out).mono ?_
    rintro e w2 ⟨rfl, rfl⟩
    go_wp2_with fail
    go_ret
    exact ⟨by rw [hf.out]; rfl, HB1.out⟩
  subst h2
  by_cases h3 : nv = nu
  rotate_left
  · have h3' : ((nv : Int) != (nu : Int)) = true := by simp; omega
    have hf : Hid (res = false) := by show res = false; rw [← HE.out]; simp [h3]
    go_enter Try.func13, Try.ntmps13
    go_wp2_with fail
    rw [← HW.out]
    refine (HMX.out).mono ?_
    rintro e w2 ⟨rfl, rfl⟩
    go_wp2_with fail
    go_ret
    exact ⟨by rw [hf.out]; rfl, HB1.out⟩
  subst h3
  have HEE : Hid (verF nv c t u v cost = res) := by show _ = res; rw [← HE.out]; simp
  clear HE
  have HKK : Hid (∀ wr, Below w1.heap.size w1 wr → Below w.heap.size w wr ∧ (∀ i, wr.cell? ⟨w.heap.size, i, none⟩ = w1.cell? ⟨w.heap.size, i, none⟩) ∧ Asg wr w.heap.size At nv ct t Au nv cu u Av nv cv v ∧ Sq wr w.heap.size A nv c) := fun wr h =>
    ⟨HB1.out.trans (h.mono (Nat.le_of_lt hs1)), fun i => h.cell (p := ⟨w.heap.size, i, none⟩) hs1, HA1.out.below (h.mono (Nat.le_of_lt hs1)), HQ.out.below (h.mono (Nat.le_of_lt hs1))⟩
  go_enter Try.func13, Try.ntmps13
  go_wp2_with fail
  rw [← HW.out]
  refine (HMX.out).mono ?_
  rintro e w2 ⟨rfl, rfl⟩
  have A0 := Lib.hid a0
  have A1 := Lib.hid a1
  have A2 := Lib.hid a2
  have A3 := Lib.hid a3
  clear HMX HW HA1 HQ HB1
  go_wp2_with fail
  clear a0 a1 a2 a3
  go_loopw [6, 7] (fun s i wr => ∃ (q : Nat) (x : Int), q ≤ nv ∧ i = .int .i64 (q : Int) ∧ s = .int .i64 x ∧ -2199023255552 * (q : Int) ≤ x ∧ x ≤ 2199023255552 * q ∧ Hid (RvSt w1 nv t u v q x wr)) (fun _ i _ => nv - (intOf i).toNat)
  case atStart => exact ⟨0, 0, by omega, rfl, rfl, by omega, by omega, Below.refl _ _, rfl, rfl, rfl⟩
  case round =>
    obtain ⟨wo, rfl⟩ : ∃ w1 : World, w1 = wr := ⟨_, rfl⟩
    obtain ⟨q, x, hq, rfl, rfl, hx1, hx2, HS⟩ := hrel
    obtain ⟨kB, kc, kA, kS⟩ := HKK.out wo HS.out.1
    have c0 := (kc 0).trans A0.out
    have c1 := (kc 1).trans A1.out
    have c2 := (kc 2).trans A2.out
    have c3 := (kc 3).trans A3.out
    have HB := Lib.hid kB
    have HKS := Lib.hid kS
    have HKA := Lib.hid kA
    clear kB kc kS
    by_cases hqt : q < nv
    · obtain ⟨b1, o1, hA1, _, g1⟩ := kA.t q hqt
      obtain ⟨b2, o2, hA2, _, g2⟩ := kA.u q hqt
      obtain ⟨b3, o3, hA3, _, g3⟩ := kA.v q hqt
      have HTK := Lib.hid (fun e => taken_any At q ct _ t (t q) (wo.drewN e) ((kA.t.cut (by omega)).drewN e) (by unfold maxLen; omega))
      subst hA1 hA2 hA3
      have HBAD : Hid ((rngB (u q) && rngB (v q)) = false ∨ (decide (0 ≤ t q) && decide (t q < nv) && !tkB t (t q) q) = false → res = false) := fun h => by
        rw [← HEE.out]
        unfold verF durB perB
        rcases h with h | h
        · rw [allB_no (p := fun i => rngB (u i) && rngB (v i)) hqt h]; simp
        · rw [allB_no (p := fun i => decide (0 ≤ t i) && decide (t i < nv) && !tkB t (t i) i) hqt h]; simp
      have HNX : Hid ((rngB (u q) && rngB (v q)) = true → (decide (0 ≤ t q) && decide (t q < nv) && !tkB t (t q) q) = true → ∀ e, RvSt w1 nv t u v (q + 1) (x + u q + v q) (wo.drewN e)) := fun h h' e => by
        obtain ⟨s1, s2, s3, s4⟩ := HS.out
        refine ⟨below_drewN s1 e, ?_, allB_step s3 h, allB_step s4 h'⟩
        rw [s2]
        show _ = (sumTo u q + u q) + (sumTo v q + v q)
        omega
      obtain ⟨z, hz⟩ : ∃ z, t q = z := ⟨_, rfl⟩
      obtain ⟨y2, hy2⟩ : ∃ z, u q = z := ⟨_, rfl⟩
      obtain ⟨y3, hy3⟩ : ∃ z, v q = z := ⟨_, rfl⟩
      rw [hz] at g1 HTK
      rw [hz, hy2, hy3] at HBAD HNX
      rw [hy2] at g2
      rw [hy3] at g3
      clear kA hz hy2 hy3 HS
      obtain ⟨tb, htb⟩ : ∃ b, tkB t z q = b := ⟨_, rfl⟩
      rw [htb] at HTK HBAD HNX
      clear htb
      have HRET : Hid (∀ e, res = false → VerPost w res (.returned (.bool false)) (wo.drewN e)) := fun e h => ⟨by rw [h], below_drewN HB.out e⟩
      have i1 : (q : Int) ≤ (ct : Int) := by omega
      by_cases t1 : z < 0
      · have d1 : decide (z < 0) = true := by simpa using t1
        have hf := Lib.hid (HRET.out · (HBAD.out (.inr (by simp <;> omega))))
        clear HBAD HNX HRET
        go_wp2_with fail
        go_quiet (exact quiet_left (HTK.out _))
        go_wp2_with fail
        go_ret
        exact hf.out nq
      have d1 : decide (z < 0) = false := by simpa using t1
      by_cases t2 : (nv : Int) ≤ z
      · have d2 : decide ((nv : Int) ≤ z) = true := by simpa using t2
        have hf := Lib.hid (HRET.out · (HBAD.out (.inr (by simp <;> omega))))
        clear HBAD HNX HRET
        go_wp2_with fail
        go_quiet (exact quiet_left (HTK.out _))
        go_wp2_with fail
        go_ret
        exact hf.out nq
      have d2 : decide ((nv : Int) ≤ z) = false := by simpa using t2
      cases tb with
      | true =>
        have hf := Lib.hid (HRET.out · (HBAD.out (.inr (by simp))))
        clear HBAD HNX HRET
        go_wp2_with fail
        go_quiet (exact quiet_left (HTK.out _))
        go_wp2_with fail
        go_ret
        exact hf.out nq
      | false =>
        by_cases t3 : y2 < -1099511627776
        · have d3 : decide (y2 < -1099511627776) = true := by simpa using t3
          have hf := Lib.hid (HRET.out · (HBAD.out (.inl (by rw [rng_lo t3]; rfl))))
          clear HBAD HNX HRET
          go_wp2_with fail
          go_quiet (exact quiet_left (HTK.out _))
          go_wp2_with fail
          go_ret
          exact hf.out nq
        have d3 : decide (y2 < -1099511627776) = false := by simpa using t3
        by_cases t4 : 1099511627776 < y2
        · have d3 : decide (1099511627776 < y2) = true := by simpa using t4
          have hf := Lib.hid (HRET.out · (HBAD.out (.inl (by rw [rng_hi t4]; rfl))))
          clear HBAD HNX HRET
          go_wp2_with fail
          go_quiet (exact quiet_left (HTK.out _))
          go_wp2_with fail
          go_ret
          exact hf.out nq
        have d4 : decide (1099511627776 < y2) = false := by simpa using t4
        by_cases t5 : y3 < -1099511627776
        · have d3 : decide (y3 < -1099511627776) = true := by simpa using t5
          have hf := Lib.hid (HRET.out · (HBAD.out (.inl (by rw [rng_lo t5]; simp))))
          clear HBAD HNX HRET
          go_wp2_with fail
          go_quiet (exact quiet_left (HTK.out _))
          go_wp2_with fail
          go_ret
          exact hf.out nq
        have d5 : decide (y3 < -1099511627776) = false := by simpa using t5
        by_cases t6 : 1099511627776 < y3
        · have d3 : decide (1099511627776 < y3) = true := by simpa using t6
          have hf := Lib.hid (HRET.out · (HBAD.out (.inl (by rw [rng_hi t6]; simp))))
          clear HBAD HNX HRET
          go_wp2_with fail
          go_quiet (exact quiet_left (HTK.out _))
          go_wp2_with fail
          go_ret
          exact hf.out nq
        have d6 : decide (1099511627776 < y3) = false := by simpa using t6
        have HN := Lib.hid (HNX.out (by rw [rng_in t3 t4, rng_in t5 t6]; rfl) (by simp <;> omega))
        clear HBAD HNX HRET
        go_wp2_with fail
        go_quiet (exact quiet_left (HTK.out _))
        go_wp2_with fail
        go_quiet (fail)
        go_wp2_with fail
        go_roundw
        case rel => exact ⟨q + 1, x + y2 + y3, by omega, by go_num, by go_num, by omega, by omega, by first | exact (HN.out 0).drewN _ | exact ((HN.out 0).drewN _).drewN _⟩
        case measure => simp [intOf] <;> omega
    · obtain rfl : q = nv := by omega
      obtain ⟨s1, s2, s3, s4⟩ := HS.out
      have hti : ∀ i, i < q → 0 ≤ t i ∧ t i < q := fun i hi => by
        have := (allB_iff _ q).1 s4 i hi
        simp at this
        exact ⟨this.1.1, this.1.2⟩
      have hfn : Fn wo w.heap.size At q (fun i => (((t i).toNat : Nat) : Int)) := fun i hi => by
        obtain ⟨b, off, e, hb, hc⟩ := kA.t i hi
        exact ⟨b, off, e, hb, by rw [hc]; show some (Value.int .i64 (t i)) = some (Value.int .i64 (((t i).toNat : Nat) : Int)); rw [show (((t i).toNat : Nat) : Int) = t i from Int.toNat_of_nonneg (hti i hi).1]⟩
      have HTT := Lib.hid (fun e => total_any A q cc _ c At q ct _ (fun i => (t i).toNat) (wo.drewN e) (HKS.out.drewN e) HCB.out (hfn.drewN e) (Nat.le_refl _) (by omega) (fun i hi => by have := hti i hi; omega))
      have HT2 : Hid (costOf c (fun i => (t i).toNat) q = totF c t q) := rfl
      have HEF : Hid ((feaB q c u v && decide (totF c t q = cost) && decide (x = cost)) = res) := by
        show _ = res
        rw [← HEE.out, s2]
        unfold verF durB perB
        rw [s3, s4]
        simp
      have HUB : Hid (∀ i, i < q → (-1099511627776 ≤ u i ∧ u i ≤ 1099511627776) ∧ (-1099511627776 ≤ v i ∧ v i ≤ 1099511627776)) := fun i hi => by
        have := (allB_iff _ q).1 s3 i hi
        unfold rngB at this
        simp at this
        omega
      obtain ⟨y, hy⟩ : ∃ y, totF c t q = y := ⟨_, rfl⟩
      rw [HT2.out, hy] at HTT
      rw [hy] at HEF
      have HRET : Hid (∀ e, res = false → VerPost w res (.returned (.bool false)) (wo.drewN e)) := fun e h => ⟨by rw [h], below_drewN HB.out e⟩
      have HS1 := Lib.hid s1
      clear kA hti hfn HT2 hy s1 s2 s3 s4 HS
      by_cases e1 : y = cost
      rotate_left
      · have e1' : (y != cost) = true := by simpa using e1
        have hf := Lib.hid (HRET.out · (by rw [← HEF.out]; simp [e1]))
        clear HRET
        go_wp2_with fail
        go_quiet (exact quiet_post (HTT.out _))
        go_wp2_with fail
        go_ret
        exact hf.out nq
      have e1' : (y != cost) = false := by simpa using e1
      by_cases e2 : x = cost
      rotate_left
      · have e2' : (x != cost) = true := by simpa using e2
        have hf := Lib.hid (HRET.out · (by rw [← HEF.out]; simp [e2]))
        clear HRET
        go_wp2_with fail
        go_quiet (exact quiet_post (HTT.out _))
        go_wp2_with fail
        go_ret
        exact hf.out nq
      have e2' : (x != cost) = false := by simpa using e2
      have HF2 : Hid (feaB q c u v = res) := by show _ = _; rw [← HEF.out]; simp [e1, e2]
      have HD : Hid (∀ e, Below w1.heap.size w1 (wo.drewN e)) := fun e => below_drewN HS1.out e
      clear e1 e2 HEF HRET
      go_wp2_with fail
      go_quiet (exact quiet_post (HTT.out _))
      go_wp2_with fail
      clear c0 c1 c2 c3
      go_loopw [8] (fun s wr => ∃ i : Nat, i ≤ q ∧ s = .int .i64 (i : Int) ∧ Hid (Below w1.heap.size w1 wr) ∧ Hid (allB (fun i => allB (fun j => decide (u i + v j ≤ c i j)) q) i = true)) (fun s _ => q - (intOf s).toNat)
      case atStart => exact ⟨0, by omega, rfl, HD.out nq, rfl⟩
      case round =>
        obtain ⟨wi, rfl⟩ : ∃ w1 : World, w1 = wr := ⟨_, rfl⟩
        obtain ⟨i, hi, rfl, HBI, HI⟩ := hrel
        by_cases hit : i < q
        · go_wp2_with fail
          go_loopw [9] (fun s wr => ∃ j : Nat, j ≤ q ∧ s = .int .i64 (j : Int) ∧ Hid (Below w1.heap.size w1 wr) ∧ Hid (allB (fun j => decide (u i + v j ≤ c i j)) j = true)) (fun s _ => q - (intOf s).toNat)
          case atStart => exact ⟨0, by omega, rfl, HBI, rfl⟩
          case round =>
            obtain ⟨wj, rfl⟩ : ∃ w1 : World, w1 = wr := ⟨_, rfl⟩
            obtain ⟨j, hj, rfl, HBJ, HJ⟩ := hrel
            by_cases hjt : j < q
            · obtain ⟨kB, kc, kA, kS⟩ := HKK.out wj HBJ.out
              have f2 := (kc 2).trans A2.out
              have f3 := (kc 3).trans A3.out
              obtain ⟨b1, o1, b2, o2, c', hAA, _, _, g3, g4⟩ := kS i hit
              subst hAA
              have g5 := g4 j hjt
              obtain ⟨b3, o3, hA3, _, g6⟩ := kA.u i hit
              subst hA3
              obtain ⟨b4, o4, hA4, _, g7⟩ := kA.v j hjt
              subst hA4
              have q1 := HCB.out i j hit hjt
              have q2 := (HUB.out i hit).1
              have q3 := (HUB.out j hjt).2
              have HJ2 : Hid (u i + v j ≤ c i j → allB (fun j => decide (u i + v j ≤ c i j)) (j + 1) = true) := fun h => allB_step HJ.out (by simpa using h)
              have HJB : Hid (c i j < u i + v j → res = false) := fun h => by
                rw [← HF2.out]
                exact allB_no (p := fun i => allB (fun j => decide (u i + v j ≤ c i j)) q) hit (allB_no (p := fun j => decide (u i + v j ≤ c i j)) hjt (by simp; omega))
              obtain ⟨y1, hy1⟩ : ∃ y, c i j = y := ⟨_, rfl⟩
              obtain ⟨y2, hy2⟩ : ∃ y, u i = y := ⟨_, rfl⟩
              obtain ⟨y3, hy3⟩ : ∃ y, v j = y := ⟨_, rfl⟩
              rw [hy1, hy2, hy3] at HJB
              have HJ3 : Hid (y2 + y3 ≤ y1 → allB (fun j => decide (u i + v j ≤ c i j)) (j + 1) = true) := by rw [← hy1, ← hy2, ← hy3]; exact HJ2.out
              rw [hy1] at g5 q1
              rw [hy2] at g6 q2
              rw [hy3] at g7 q3
              obtain ⟨q11, q12⟩ := q1
              obtain ⟨q21, q22⟩ := q2
              obtain ⟨q31, q32⟩ := q3
              have HRET : Hid (∀ e, res = false → VerPost w res (.returned (.bool false)) (wj.drewN e)) := fun e h => ⟨by rw [h], below_drewN kB e⟩
              have HBN : Hid (∀ e, Below w1.heap.size w1 (wj.drewN e)) := fun e => below_drewN HBJ.out e
              clear g4 kB kc kA kS hy1 hy2 hy3 HJ2 HBJ
              by_cases hlt : y1 < y2 + y3
              · have hf := Lib.hid (HRET.out · (HJB.out hlt))
                clear HJB HJ3 HRET
                go_wp2_with fail
                go_quiet (fail)
                go_wp2_with fail
                go_ret
                exact hf.out nq
              · have HJ4 := Lib.hid (HJ3.out (by omega))
                clear HJB HJ3 HRET
                go_wp2_with fail
                go_quiet (fail)
                go_wp2_with fail
                go_roundw
                case rel => exact ⟨j + 1, by omega, by go_num, HBN.out nq, HJ4⟩
                case measure => simp [intOf] <;> omega
            · obtain rfl : j = q := by omega
              have HI2 : Hid (allB (fun i => allB (fun j' => decide (u i + v j' ≤ c i j')) j) (i + 1) = true) := allB_step HI.out HJ.out
              clear HI HJ
              go_wp2_with fail
              go_roundw
              case rel => exact ⟨i + 1, by omega, by go_num, HBJ, HI2⟩
              case measure => simp [intOf] <;> omega
        · obtain rfl : i = q := by omega
          have hf : Hid (VerPost w res (.returned (.bool true)) wi) := ⟨by rw [← HF2.out]; unfold feaB; rw [HI.out], (HKK.out wi HBI.out).1⟩
          clear HI
          go_wp2_with fail
          go_ret
          exact hf.out
end Go.Proofs.Ytgmhinmakomabaa
