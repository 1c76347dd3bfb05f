/-
  Verify: the program's walk. No condition.
-/
import Derived.Test.YtgmhinmakomabaaAsQ
import Derived.Test.YtgmhinmakomabaaAsA
namespace Go.Proofs.Ytgmhinmakomabaa
open Go.RowKit
set_option linter.unusedVariables false

def allB (p : Nat → Bool) : Nat → Bool
  | 0 => true
  | k + 1 => allB p k && p k
theorem allB_step {p : Nat → Bool} {k : Nat} (h : allB p k = true) (hp : p k = true) : allB p (k + 1) = true := by simp [allB, h, hp]
theorem allB_iff (p : Nat → Bool) : ∀ n, allB p n = true ↔ ∀ i, i < n → p i = true
  | 0 => by simp [allB]
  | n + 1 => by
    rw [allB, Bool.and_eq_true, allB_iff p n]
    constructor
    · rintro ⟨h1, h2⟩ i hi
      rcases Nat.lt_or_ge i n with h | h
      · exact h1 i h
      · obtain rfl : i = n := by omega
        exact h2
    · intro h
      exact ⟨fun i hi => h i (by omega), h n (by omega)⟩
theorem allB_no {p : Nat → Bool} {n j : Nat} (hj : j < n) (hp : p j = false) : allB p n = false := by
  cases h : allB p n with
  | false => rfl
  | true => rw [(allB_iff p n).1 h j hj] at hp; cases hp
def rngB (x : Int) : Bool := decide (-1099511627776 ≤ x) && decide (x ≤ 1099511627776)
def durB (n : Nat) (u v : Nat → Int) : Bool := allB (fun i => rngB (u i) && rngB (v i)) n
def perB (n : Nat) (t : Nat → Int) : Bool := allB (fun i => decide (0 ≤ t i) && decide (t i < n) && !tkB t (t i) i) n
def feaB (n : Nat) (c : Nat → Nat → Int) (u v : Nat → Int) : Bool := allB (fun i => allB (fun j => decide (u i + v j ≤ c i j)) n) n
def totF (c : Nat → Nat → Int) (t : Nat → Int) (n : Nat) : Int := sumTo (fun i => c i (t i).toNat) n
def verF (n : Nat) (c : Nat → Nat → Int) (t u v : Nat → Int) (cost : Int) : Bool := durB n u v && perB n t && feaB n c u v && decide (totF c t n = cost) && decide (sumTo u n + sumTo v n = cost)
def verB (m : List (List Int)) (nt nu nv : Nat) (t u v : Nat → Int) (cost : Int) : Bool :=
  matB m && decide (nt = m.length) && decide (nu = m.length) && decide (nv = m.length) && verF m.length (mget m) t u v cost
theorem cat_dur (n : Nat) (u v : Nat → Int) : allB (fun i => rngB (catF n u v i)) (n + n) = durB n u v := by
  rw [Bool.eq_iff_iff]
  unfold durB
  rw [allB_iff, allB_iff]
  constructor
  · intro h i hi
    have h1 := h i (by omega)
    have h2 := h (n + i) (by omega)
    simp only [catF] at h1 h2
    rw [if_pos hi] at h1
    rw [if_neg (by omega), Nat.add_sub_cancel_left] at h2
    rw [h1, h2]; rfl
  · intro h i hi
    simp only [catF]
    by_cases h1 : i < n
    · have := h i h1
      rw [Bool.and_eq_true] at this
      rw [if_pos h1]; exact this.1
    · have := h (i - n) (by omega)
      rw [Bool.and_eq_true] at this
      rw [if_neg h1]; exact this.2
theorem cat_sum (n : Nat) (u v : Nat → Int) : sumTo (catF n u v) (n + n) = sumTo u n + sumTo v n := by
  have key : ∀ k, sumTo (catF n u v) (n + k) = sumTo u n + sumTo v k := fun k => by
    induction k with
    | zero =>
      rw [Nat.add_zero]
      show _ = sumTo u n + 0
      rw [Int.add_zero]
      exact sumTo_congr fun i hi => by simp [catF, hi]
    | succ k ih =>
      show sumTo (catF n u v) (n + k) + catF n u v (n + k) = sumTo u n + (sumTo v k + v k)
      rw [ih]
      simp [catF]
      omega
  exact key n
def VerPost (w : World) (b : Bool) (e : Ending) (w' : World) : Prop := e = .returned (.bool b) ∧ Below w.heap.size w w'
/-- an assignment that came in, or was made -/
structure Asg (w : World) (B : Nat) (At : Option Addr) (nt ct : Nat) (t : Nat → Int) (Au : Option Addr) (nu cu : Nat) (u : Nat → Int) (Av : Option Addr) (nv cv : Nat) (v : Nat → Int) : Prop where
  t : Fn w B At nt t
  u : Fn w B Au nu u
  v : Fn w B Av nv v
  lu : nu ≤ cu
  lv : nv ≤ cv
  mt : nt ≤ 1000000000
  mu : cu ≤ 9223372036854775807
  mv : cv ≤ 9223372036854775807
theorem Asg.below {w w' : World} {B nt ct nu cu nv cv : Nat} {At Au Av : Option Addr} {t u v : Nat → Int} (h : Asg w B At nt ct t Au nu cu u Av nv cv v) (hb : Below B w w') : Asg w' B At nt ct t Au nu cu u Av nv cv v :=
  ⟨h.t.below hb, h.u.below hb, h.v.below hb, h.lu, h.lv, h.mt, h.mu, h.mv⟩
theorem tk_next {t : Nat → Int} {q z n : Nat} (h : t q = (z : Int)) : ∀ j, j < n → tkB t (j : Int) (q + 1) = upd (fun j => tkB t ((j : Nat) : Int) q) z true j := fun j _ => by
  by_cases e : j = z
  · subst e
    rw [upd_same, tkB, h]
    simp
  · rw [upd_ne _ _ e, tkB, h]
    have : ¬ ((z : Int) = (j : Int)) := by omega
    simp [this]
theorem rng_lo {x : Int} (h : x < -1099511627776) : rngB x = false := by unfold rngB; simp; omega
theorem rng_hi {x : Int} (h : 1099511627776 < x) : rngB x = false := by unfold rngB; simp; omega
theorem rng_in {x : Int} (h1 : ¬ x < -1099511627776) (h2 : ¬ 1099511627776 < x) : rngB x = true := by unfold rngB; simp; omega

set_option maxRecDepth 100000 in
set_option maxHeartbeats 4000000 in
theorem verify_any (w : World) (A : Option Addr) (n cc : Nat) (m : List (List Int)) (At : Option Addr) (nt ct : Nat) (t : Nat → Int) (cost : Int) (Au : Option Addr) (nu cu : Nat) (u : Nat → Int) (Av : Option Addr) (nv cv : Nat) (v : Nat → Int)
    (hm : Mat w w.heap.size A n m) (ha : Asg w w.heap.size At nt ct t Au nu cu u Av nv cv v) :
    Calls Try.prog 17 #[.slice A n cc, .agg #[.slice At nt ct, .int .i64 cost, .slice Au nu cu, .slice Av nv cv]] w (VerPost w (verB m nt nu nv t u v cost)) := by
  obtain ⟨w1, hw1⟩ : ∃ w1, w1 = w.alloc (Obj.cells #[.slice At nt ct, .int .i64 cost, .slice Au nu cu, .slice Av nv cv] 27) := ⟨_, rfl⟩
  have hs1 : w.heap.size < w1.heap.size := by subst hw1; simp
  have hB1 : Below w.heap.size w w1 := by subst hw1; exact (Below.refl _ w).alloc (Nat.le_refl _) _
  have hK1 : Blk w1 w.heap.size 27 #[.slice At nt ct, .int .i64 cost, .slice Au nu cu, .slice Av nv cv] := by subst hw1; exact Blk.new _ _ _
  have hl := hm.len
  have HMX := Lib.hid (matrix_any A n cc _ m w1 (hm.below hB1))
  have hsq : matB m = true → Sq w1 w.heap.size A n (mget m) ∧ CB n (mget m) ∧ n ≤ 40 := fun h => ⟨(hm.below hB1).sq h, by rw [← hl]; exact matB_bounds h, by
    unfold matB at h
    simp only [Bool.and_eq_true, decide_eq_true_eq] at h
    omega⟩
  have HA1 := Lib.hid (ha.below hB1)
  have a0 := hK1.cell 0
  have a1 := hK1.cell 1
  have a2 := hK1.cell 2
  have a3 := hK1.cell 3
  simp at a0 a1 a2 a3
  obtain ⟨res, hres⟩ : ∃ b, verB m nt nu nv t u v cost = b := ⟨_, rfl⟩
  rw [hres]
  unfold verB at hres
  rw [hl] at hres
  obtain ⟨mb, hmb⟩ : ∃ b, matB m = b := ⟨_, rfl⟩
  rw [hmb] at hres HMX hsq
  have HE := Lib.hid hres
  have HW := Lib.hid hw1
  have HB1 := Lib.hid hB1
  have HSQ := Lib.hid hsq
  have m1 := ha.lu
  have m2 := ha.lv
  have m3 := ha.mt
  have m4 := ha.mu
  have m5 := ha.mv
  obtain ⟨c, hc⟩ : ∃ c, mget m = c := ⟨_, rfl⟩
  rw [hc] at HE HSQ
  clear hm ha hl hw1 hB1 hK1 hres hmb hsq hc
  cases mb with
  | false =>
    have hf : Hid (res = false) := by show res = false; rw [← HE.out]; simp
    go_enter Try.func17, Try.ntmps17
    go_wp2_with fail
    rw [← HW.out]
    refine (HMX.out).mono ?_
    rintro e w2 ⟨rfl, rfl⟩
    go_wp2_with fail
    go_ret
    exact ⟨by rw [hf.out]; rfl, HB1.out⟩
  | true =>
  obtain ⟨hsq, hcb, hn⟩ := HSQ.out rfl
  have HQ := Lib.hid hsq
  have HCB := Lib.hid hcb
  clear hsq hcb HSQ
  by_cases h1 : nt = n
  rotate_left
  · have h1' : ((nt : Int) != (n : Int)) = true := by simp; omega
    have hf : Hid (res = false) := by show res = false; rw [← HE.out]; simp [h1]
    go_enter Try.func17, Try.ntmps17
    go_wp2_with fail
    rw [← HW.out]
    refine (HMX.out).mono ?_
    rintro e w2 ⟨rfl, rfl⟩
    go_wp2_with fail
    go_ret
    exact ⟨by rw [hf.out]; rfl, HB1.out⟩
  subst h1
  by_cases h2 : nu = nt
  rotate_left
  · have h2' : ((nu : Int) != (nt : Int)) = true := by simp; omega
    have hf : Hid (res = false) := by show res = false; rw [← HE.out]; simp [h2]
    go_enter Try.func17, Try.ntmps17
    go_wp2_with fail
    rw [← HW.out]
    refine (HMX.out).mono ?_
    rintro e w2 ⟨rfl, rfl⟩
    go_wp2_with fail
    go_ret
    exact ⟨by rw [hf.out]; rfl, HB1.out⟩
  subst h2
  by_cases h3 : nv = nu
  rotate_left
  · have h3' : ((nv : Int) != (nu : Int)) = true := by simp; omega
    have hf : Hid (res = false) := by show res = false; rw [← HE.out]; simp [h3]
    go_enter Try.func17, Try.ntmps17
    go_wp2_with fail
    rw [← HW.out]
    refine (HMX.out).mono ?_
    rintro e w2 ⟨rfl, rfl⟩
    go_wp2_with fail
    go_ret
    exact ⟨by rw [hf.out]; rfl, HB1.out⟩
  subst h3
  have HEE : Hid (verF nv c t u v cost = res) := by show _ = res; rw [← HE.out]; simp
  clear HE
  have mk2 := make_bools nv (by omega)
  go_enter Try.func17, Try.ntmps17
  go_wp2_with fail
  rw [← HW.out]
  refine (HMX.out).mono ?_
  rintro e w2 ⟨rfl, rfl⟩
  clear HMX HW
  have HCT := Lib.hid (concat_any ((w1.alloc (Obj.cells #[.slice Au nv nv, .slice Av nv nv] 25)).drew) w1.heap.size nv nv nv Au Av u v (by omega) (by simp) (by simp)
    (((HA1.out.u.more (Nat.le_of_lt hs1)).below ((Below.refl _ w1).alloc (Nat.le_refl _) _)).more (by simp)) (((HA1.out.v.more (Nat.le_of_lt hs1)).below ((Below.refl _ w1).alloc (Nat.le_refl _) _)).more (by simp)))
  have HBC : Hid (∀ w', Below ((w1.alloc (Obj.cells #[.slice Au nv nv, .slice Av nv nv] 25)).drew).heap.size ((w1.alloc (Obj.cells #[.slice Au nv nv, .slice Av nv nv] 25)).drew) w' → Below w1.heap.size w1 w') := fun w' h =>
    (below_drewN ((Below.refl _ w1).alloc (Nat.le_refl _) _) 1).trans (h.mono (by simp))
  go_wp2_with fail
  refine region_tail 10 (by kernel_rfl) (by kernel_rfl) _ rfl ?_
  simp only [List.take_succ_cons, List.take_zero, List.drop_succ_cons, List.drop_zero]
  repeat (go_big_quiet_step (fail))
  refine wpQuiet_nil ?_
  go_wp2_with fail
  refine (HCT.out).mono ?_
  rintro e w2 ⟨Ac, kc, rfl, hcf, hcb⟩
  have hb12 := HBC.out w2 hcb
  have hz12 : w1.heap.size ≤ w2.heap.size := hb12.size
  have HB2 : Hid (Below w.heap.size w w2) := HB1.out.trans (hb12.mono (by omega))
  have HA2 := Lib.hid (HA1.out.below (hb12.mono (by omega)))
  have HQ2 := Lib.hid (HQ.out.below (hb12.mono (by omega)))
  have HCF := Lib.hid hcf
  have hk : ∀ i, i < 4 → w2.cell? ⟨w.heap.size, i, none⟩ = w1.cell? ⟨w.heap.size, i, none⟩ := fun i _ => hb12.cell (p := ⟨w.heap.size, i, none⟩) hs1
  have c0 := (hk 0 (by omega)).trans a0
  have c1 := (hk 1 (by omega)).trans a1
  have c2 := (hk 2 (by omega)).trans a2
  have c3 := (hk 3 (by omega)).trans a3
  clear hk hcf hcb hb12 a0 a1 a2 a3 HCT HBC HA1 HQ HB1
  go_wp2_with fail
  go_loop [7, 56] (fun s i => ∃ (q : Nat) (x : Int), q ≤ nv + nv ∧ i = .int .i64 (q : Int) ∧ s = .int .i64 x ∧ Hid (x = sumTo (catF nv u v) q) ∧ -1099511627776 * (q : Int) ≤ x ∧ x ≤ 1099511627776 * q ∧ Hid (allB (fun i => rngB (catF nv u v i)) q = true)) (fun _ i => nv + nv - (intOf i).toNat)
  case atStart => exact ⟨0, 0, by omega, rfl, rfl, rfl, by omega, by omega, rfl⟩
  case round =>
    obtain ⟨q, x, hq, rfl, rfl, HX, hx1, hx2, HAL⟩ := hrel
    by_cases hqt : q < nv + nv
    · obtain ⟨bb, oo, rfl, _, hcell⟩ := HCF.out q hqt
      obtain ⟨y, hy⟩ : ∃ y, catF nv u v q = y := ⟨_, rfl⟩
      rw [hy] at hcell
      have HBAD : Hid (rngB y = false → res = false) := fun h => by
        rw [← HEE.out]
        unfold verF
        rw [← cat_dur, allB_no hqt (by rw [hy]; exact h)]
        simp
      have HX2 : Hid (x + y = sumTo (catF nv u v) (q + 1)) := by show _ = _; rw [HX.out, ← hy]; rfl
      have HA3 : Hid (rngB y = true → allB (fun i => rngB (catF nv u v i)) (q + 1) = true) := fun h => allB_step HAL.out (by rw [hy]; exact h)
      clear hy
      by_cases g1 : y < -1099511627776
      · have hf := Lib.hid (HBAD.out (rng_lo g1))
        go_wp2_with fail
        go_ret
        exact ⟨by rw [hf.out]; rfl, HB2.out⟩
      by_cases g2 : 1099511627776 < y
      · have hf := Lib.hid (HBAD.out (rng_hi g2))
        go_wp2_with fail
        go_ret
        exact ⟨by rw [hf.out]; rfl, HB2.out⟩
      have HA4 := Lib.hid (HA3.out (rng_in g1 g2))
      clear HA3 HBAD HAL HX
      go_wp2_with fail
      go_round
      case rel => exact ⟨q + 1, x + y, by omega, by go_num, by go_num, HX2, by omega, by omega, HA4⟩
      case measure => simp [intOf] <;> omega
    · obtain rfl : q = nv + nv := by omega
      have HX2 : Hid (x = sumTo u nv + sumTo v nv) := by show _ = _; rw [HX.out, cat_sum]
      have HD : Hid (durB nv u v = true) := by show _ = _; rw [← cat_dur]; exact HAL.out
      have HP0 : Hid (BVec (w2.alloc (.cells (Array.replicate nv (Value.bool false)) 4)) w2.heap.size nv (fun j => tkB t (j : Int) 0) ∧ Below w2.heap.size w2 (w2.alloc (.cells (Array.replicate nv (Value.bool false)) 4))) := ⟨Vec.new _ _ _ _, (Below.refl _ _).alloc (Nat.le_refl _) _⟩
      obtain ⟨bs, hbs⟩ : ∃ z, w2.heap.size = z := ⟨_, rfl⟩
      rw [hbs] at HP0
      have hlt : w.heap.size < w2.heap.size := by have := hz12; omega
      have z0 := (World.cell?_alloc_lt w2 (.cells (Array.replicate nv (Value.bool false)) 4) ⟨w.heap.size, 0, none⟩ hlt).trans c0
      have HZ : Hid (∀ wr, Below w2.heap.size w2 wr → ∀ i, wr.cell? ⟨w.heap.size, i, none⟩ = w2.cell? ⟨w.heap.size, i, none⟩) := fun wr h i => h.cell (p := ⟨w.heap.size, i, none⟩) hlt
      have HBB : Hid (∀ wr, Below w2.heap.size w2 wr → Below w.heap.size w wr) := fun wr h => HB2.out.trans (h.mono (Nat.le_of_lt hlt))
      have HAA : Hid (∀ wr, Below w2.heap.size w2 wr → Asg wr w.heap.size At nv ct t Au nv cu u Av nv cv v ∧ Sq wr w.heap.size A nv c) := fun wr h => ⟨HA2.out.below (h.mono (Nat.le_of_lt hlt)), HQ2.out.below (h.mono (Nat.le_of_lt hlt))⟩
      rw [hbs] at HZ HBB HAA
      have hltb : w.heap.size < bs := by rw [← hbs]; exact hlt
      clear HX HAL HCF
      go_wp2_with fail
      clear hbs hlt z0
      obtain ⟨w3, hw3⟩ : ∃ w3, w3 = w2.alloc (.cells (Array.replicate nv (Value.bool false)) 4) := ⟨_, rfl⟩
      rw [← hw3] at HP0 ⊢
      clear hw3
      go_loopw [11, 75] (fun s i wr => ∃ (q : Nat) (y : Int), q ≤ nv ∧ i = .int .i64 (q : Int) ∧ s = .int .i64 y ∧ Hid (y = totF c t q) ∧ 0 ≤ y ∧ y ≤ 1048576 * q ∧ Hid (BVec wr bs nv (fun j => tkB t (j : Int) q) ∧ Below bs w2 wr) ∧ Hid (allB (fun i => decide (0 ≤ t i) && decide (t i < nv) && !tkB t (t i) i) q = true)) (fun _ i _ => nv - (intOf i).toNat)
      case atStart => exact ⟨0, 0, by omega, rfl, rfl, rfl, by omega, by omega, HP0, rfl⟩
      case round =>
        clear HP0
        obtain ⟨w4, rfl⟩ : ∃ w1 : World, w1 = wr := ⟨_, rfl⟩
        obtain ⟨q, y, hq, rfl, rfl, HY, hy1, hy2, HBV, HPE⟩ := hrel
        by_cases hqt : q < nv
        · obtain ⟨bb, oo, hAt, _, hcell⟩ := (HAA.out w4 HBV.out.2).1.t q hqt
          subst hAt
          obtain ⟨z, hz⟩ : ∃ z, t q = z := ⟨_, rfl⟩
          rw [hz] at hcell
          have HBAD : Hid ((decide (0 ≤ z) && decide (z < nv) && !tkB t z q) = false → res = false) := fun h => by
            rw [← HEE.out]
            unfold verF perB
            rw [allB_no hqt (by rw [hz]; exact h)]
            simp
          have HGD : Hid ((decide (0 ≤ z) && decide (z < nv) && !tkB t z q) = true → allB (fun i => decide (0 ≤ t i) && decide (t i < nv) && !tkB t (t i) i) (q + 1) = true) := fun h => allB_step HPE.out (by rw [hz]; exact h)
          by_cases g1 : z < 0
          · have hf := Lib.hid (HBAD.out (by simp <;> omega))
            have hE := Lib.hid (HBB.out w4 HBV.out.2)
            clear HBAD HGD HBV HPE
            go_wp2_with fail
            go_ret
            exact ⟨by rw [hf.out]; rfl, hE.out⟩
          by_cases g2 : (nv : Int) ≤ z
          · have hf := Lib.hid (HBAD.out (by simp <;> omega))
            have hE := Lib.hid (HBB.out w4 HBV.out.2)
            clear HBAD HGD HBV HPE
            go_wp2_with fail
            go_ret
            exact ⟨by rw [hf.out]; rfl, hE.out⟩
          obtain ⟨k, rfl⟩ : ∃ k : Nat, z = k := ⟨z.toNat, by omega⟩
          have hk : k < nv := by omega
          have s1 := HBV.out.1.at_ hk
          have s2 := Vec.frozen HBV.out.1 k
          cases htk : tkB t (k : Int) q with
          | true =>
            rw [htk] at s1
            have hf := Lib.hid (HBAD.out (by rw [htk]; simp))
            have hE := Lib.hid (HBB.out w4 HBV.out.2)
            clear HBAD HGD HBV HPE htk
            go_wp2_with fail
            go_ret
            exact ⟨by rw [hf.out]; rfl, hE.out⟩
          | false =>
            rw [htk] at s1
            have HP2 := Lib.hid (HGD.out (by rw [htk]; simp <;> omega))
            have HBV2 : Hid (BVec (w4.setCell ⟨bs, k, none⟩ (.bool true)) bs nv (fun j => tkB t (j : Int) (q + 1)) ∧ Below bs w2 (w4.setCell ⟨bs, k, none⟩ (.bool true))) := ⟨(HBV.out.1.set_ k true).congr (tk_next hz), HBV.out.2.setCell (Nat.le_refl _) _⟩
            obtain ⟨b1, o1, b2, o2, c', hAA, l1, l2, g3, g4⟩ := (HAA.out w4 HBV.out.2).2 q hqt
            subst hAA
            have g5 := g4 k hk
            have q1 := HCB.out q k hqt hk
            have HY2 : Hid (y + c q k = totF c t (q + 1)) := by show _ = _; rw [HY.out]; show _ = totF c t q + c q (t q).toNat; rw [hz]; simp
            have hbsz := HBV.out.2.size
            have n1 : ¬ b1 = bs := by omega
            have n2 : ¬ b2 = bs := by omega
            obtain ⟨y1, hy1'⟩ : ∃ y, c q k = y := ⟨_, rfl⟩
            rw [hy1'] at g5 q1 HY2
            obtain ⟨q11, q12⟩ := q1
            clear HBAD HGD HBV HPE htk g4 hy1' hz HY
            go_wp2_with fail
            go_roundw
            case rel => exact ⟨q + 1, y + y1, by omega, by go_num, by go_num, HY2, by omega, by omega, HBV2, HP2⟩
            case measure => simp [intOf] <;> omega
        · obtain rfl : q = nv := by omega
          have HPP : Hid (perB q t = true) := HPE.out
          have HB4 := Lib.hid HBV.out.2
          clear HBV HPE
          go_wp2_with fail
          have HEF : Hid ((feaB q c u v && decide (totF c t q = cost) && decide (sumTo u q + sumTo v q = cost)) = res) := by
            show _ = res
            rw [← HEE.out]
            unfold verF
            rw [HD.out, HPP.out]
            simp
          have HUB : Hid (∀ i, i < q → (-1099511627776 ≤ u i ∧ u i ≤ 1099511627776) ∧ (-1099511627776 ≤ v i ∧ v i ≤ 1099511627776)) := fun i hi => by
            have := (allB_iff _ q).1 HD.out i hi
            unfold rngB at this
            simp at this
            omega
          go_loopw [107] (fun s wr => ∃ (i a : Nat), i ≤ q ∧ s = .int .i64 (i : Int) ∧ wr = w4.drewN a ∧ Hid (allB (fun i => allB (fun j => decide (u i + v j ≤ c i j)) q) i = true)) (fun s _ => q - (intOf s).toNat)
          case atStart => exact ⟨0, 0, by omega, rfl, rfl, rfl⟩
          case round =>
            obtain ⟨i, a, hi, rfl, rfl, HI⟩ := hrel
            by_cases hit : i < q
            · go_wp2_with fail
              go_loopw [111] (fun s wr => ∃ (j a : Nat), j ≤ q ∧ s = .int .i64 (j : Int) ∧ wr = w4.drewN a ∧ Hid (allB (fun j => decide (u i + v j ≤ c i j)) j = true)) (fun s _ => q - (intOf s).toNat)
              case atStart => exact ⟨0, a, by omega, rfl, rfl, rfl⟩
              case round =>
                obtain ⟨j, a, hj, rfl, rfl, HJ⟩ := hrel
                by_cases hjt : j < q
                · obtain ⟨hAs, hSq⟩ := HAA.out w4 HB4.out
                  obtain ⟨b1, o1, b2, o2, c', hAA, _, _, g3, g4⟩ := hSq i hit
                  subst hAA
                  have g5 := g4 j hjt
                  obtain ⟨b3, o3, hA3, _, g6⟩ := hAs.u i hit
                  subst hA3
                  obtain ⟨b4, o4, hA4, _, g7⟩ := hAs.v j hjt
                  subst hA4
                  have f2 := (HZ.out w4 HB4.out 2).trans c2
                  have f3 := (HZ.out w4 HB4.out 3).trans c3
                  have q1 := HCB.out i j hit hjt
                  have q2 := (HUB.out i hit).1
                  have q3 := (HUB.out j hjt).2
                  have HJ2 : Hid (u i + v j ≤ c i j → allB (fun j => decide (u i + v j ≤ c i j)) (j + 1) = true) := fun h => allB_step HJ.out (by simpa using h)
                  have HJB : Hid (c i j < u i + v j → res = false) := fun h => by
                    rw [← HEF.out]
                    have hx : feaB q c u v = false := allB_no (p := fun i => allB (fun j => decide (u i + v j ≤ c i j)) q) hit (allB_no (p := fun j => decide (u i + v j ≤ c i j)) hjt (by simp; omega))
                    rw [hx]
                    simp
                  obtain ⟨y1, hy1⟩ : ∃ y, c i j = y := ⟨_, rfl⟩
                  obtain ⟨y2, hy2⟩ : ∃ y, u i = y := ⟨_, rfl⟩
                  obtain ⟨y3, hy3⟩ : ∃ y, v j = y := ⟨_, rfl⟩
                  rw [hy1, hy2, hy3] at HJB
                  have HJ3 : Hid (y2 + y3 ≤ y1 → allB (fun j => decide (u i + v j ≤ c i j)) (j + 1) = true) := by rw [← hy1, ← hy2, ← hy3]; exact HJ2.out
                  rw [hy1] at g5 q1
                  rw [hy2] at g6 q2
                  rw [hy3] at g7 q3
                  obtain ⟨q11, q12⟩ := q1
                  obtain ⟨q21, q22⟩ := q2
                  obtain ⟨q31, q32⟩ := q3
                  have hE := Lib.hid (HBB.out w4 HB4.out)
                  clear g4 hAs hSq hy1 hy2 hy3 HJ2
                  by_cases hlt : y1 < y2 + y3
                  · have hf := Lib.hid (HJB.out hlt)
                    clear HJB HJ3
                    go_wp2_with fail
                    go_quiet (fail)
                    go_wp2_with fail
                    go_ret
                    exact ⟨by rw [hf.out]; rfl, (by first | exact below_drewN hE.out _ | exact below_drewN (below_drewN hE.out _) _)⟩
                  · have HJ4 := Lib.hid (HJ3.out (by omega))
                    clear HJB HJ3
                    go_wp2_with fail
                    go_quiet (fail)
                    go_wp2_with fail
                    go_roundw
                    case rel => exact ⟨j + 1, _, by omega, by go_num, (by first | rfl | exact World.drewN_drewN _ _ _), HJ4⟩
                    case measure => simp [intOf] <;> omega
                · obtain rfl : j = q := by omega
                  have HI2 : Hid (allB (fun i => allB (fun j' => decide (u i + v j' ≤ c i j')) j) (i + 1) = true) := allB_step HI.out HJ.out
                  clear HI HJ
                  go_wp2_with fail
                  go_roundw
                  case rel => exact ⟨i + 1, _, by omega, by go_num, rfl, HI2⟩
                  case measure => simp [intOf] <;> omega
            · obtain rfl : i = q := by omega
              have HF : Hid ((decide (y = cost) && decide (x = cost)) = res) := by
                show _ = res
                rw [← HEF.out, HY.out, HX2.out]
                unfold feaB
                rw [HI.out]
                simp
              have f1 := (HZ.out w4 HB4.out 1).trans c1
              have hE := Lib.hid (HBB.out w4 HB4.out)
              clear HI HEF HUB
              by_cases e1 : y = cost
              rotate_left
              · have e1' : (y == cost) = false := by simpa using e1
                have hf : Hid (res = false) := by show _ = _; rw [← HF.out]; simp [e1]
                go_wp2_with fail
                go_ret
                exact ⟨by rw [hf.out]; rfl, (by first | exact below_drewN hE.out _ | exact below_drewN (below_drewN hE.out _) _)⟩
              have e1' : (y == cost) = true := by simpa using e1
              by_cases e2 : x = cost
              · have e2' : (x == cost) = true := by simpa using e2
                have hf : Hid (res = true) := by show _ = _; rw [← HF.out]; simp [e1, e2]
                clear e1 e2
                go_wp2_with fail
                go_ret
                exact ⟨by rw [hf.out]; rfl, (by first | exact below_drewN hE.out _ | exact below_drewN (below_drewN hE.out _) _)⟩
              · have e2' : (x == cost) = false := by simpa using e2
                have hf : Hid (res = false) := by show _ = _; rw [← HF.out]; simp [e2]
                clear e1 e2
                go_wp2_with fail
                go_ret
                exact ⟨by rw [hf.out]; rfl, (by first | exact below_drewN hE.out _ | exact below_drewN (below_drewN hE.out _) _)⟩
end Go.Proofs.Ytgmhinmakomabaa
