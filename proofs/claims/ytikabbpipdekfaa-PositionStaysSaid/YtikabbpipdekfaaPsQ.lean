/-
  sort.Search with Keep's test. No condition.
-/
import Derived.Test.YtikabbpipdekfaaPsP
namespace Go.Proofs.Ytikabbpipdekfaa
open Go.RowKit
set_option linter.unusedVariables false

theorem V_same : ∀ (k : Nat) (a b : List UInt8), Lets a → Lets b → a.length ≤ k → b.length ≤ k → Fin a → Fin b → V k a = V k b → a = b
  | k, [], [], _, _, _, _, _, _, _ => rfl
  | k, [], c :: r, _, hb, _, hl, _, hf, e => by
    have := V_pos k _ hb hf (by simp) hl
    rw [V_nil] at e; omega
  | k, c :: r, [], ha, _, hl, _, hf, _, e => by
    have := V_pos k _ ha hf (by simp) hl
    rw [V_nil] at e; omega
  | 0, c :: r, _ :: _, _, _, h, _, _, _, _ => by simp at h
  | k + 1, c :: r, c' :: r', ha, hb, h, h', hf, hf', e => by
    rw [V_cons, V_cons] at e
    have l1 := V_lt k r ha.cons.2
    have l2 := V_lt k r' hb.cons.2
    have hd : dg c = dg c' := by
      rcases Nat.lt_trichotomy (dg c) (dg c') with h2 | h2 | h2
      · exfalso
        have : (dg c + 1) * 26 ^ k ≤ dg c' * 26 ^ k := Nat.mul_le_mul_right _ h2
        rw [Nat.add_mul] at this
        omega
      · exact h2
      · exfalso
        have : (dg c' + 1) * 26 ^ k ≤ dg c * 26 ^ k := Nat.mul_le_mul_right _ h2
        rw [Nat.add_mul] at this
        omega
    have e1 : c = c' := by
      apply UInt8.toNat_inj.1
      unfold dg at hd
      have := ha.cons.1.1; have := hb.cons.1.1
      omega
    subst e1
    have e2 : V k r = V k r' := by omega
    have fr : r ≠ [] → Fin r := fun h => hf.cons h
    have fr' : r' ≠ [] → Fin r' := fun h => hf'.cons h
    by_cases hr : r = []
    · by_cases hr' : r' = []
      · rw [hr, hr']
      · have := V_pos k r' hb.cons.2 (fr' hr') hr' (by simpa using h')
        rw [hr, V_nil] at e2; omega
    · by_cases hr' : r' = []
      · have := V_pos k r ha.cons.2 (fr hr) hr (by simpa using h)
        rw [hr', V_nil] at e2; omega
      · rw [V_same k r r' ha.cons.2 hb.cons.2 (by simpa using h) (by simpa using h') (fr hr) (fr' hr') e2]
/-- keys that are not above -/
theorem leq_num {x y : ByteArray} (hx : keyB x.data.toList = true) (hy : keyB y.data.toList = true) : (Op.bytesLess x.toList y.toList || x.toList == y.toList) = decide (num x ≤ num y) := by
  rw [less_num (.inr hx) hy]
  have kx := keyB_iff.1 hx
  have ky := keyB_iff.1 hy
  have e : (x.toList == y.toList) = decide (num x = num y) := by
    rw [Bool.eq_iff_iff]
    simp only [beq_iff_eq, decide_eq_true_eq]
    constructor
    · intro h
      unfold num
      rw [Lib.toList_data, Lib.toList_data] at h
      rw [h]
    · intro h
      rw [(num_key hx).1, (num_key hy).1] at h
      rw [Lib.toList_data, Lib.toList_data]
      exact V_same 60 _ _ kx.lets ky.lets kx.len ky.len kx.fin ky.fin h
  rw [e, Bool.eq_iff_iff]
  simp
  omega

set_option maxRecDepth 100000 in
set_option maxHeartbeats 800000 in
theorem test_any (bh bx bi g pb po m n c n' c' j : Nat) (x h : ByteArray) (w : World) (h1 : w.cell? ⟨bh, 0, none⟩ = some (.slice (some ⟨g, 0, none⟩) n' c')) (h2 : w.cell? ⟨bx, 0, none⟩ = some (.slice (some ⟨pb, po, none⟩) n c)) (h3 : w.cell? ⟨bi, 0, none⟩ = some (.int .i64 (m : Int)))
    (h4 : w.cell? ⟨g, j, none⟩ = some (.string h)) (h5 : w.cell? ⟨pb, po + m, none⟩ = some (.string x)) (hj : j < n') (hm : m < n) (hn : n ≤ 100000) (hn' : n' ≤ 100000) (hx : keyB x.data.toList = true) (hh : keyB h.data.toList = true) :
    Calls Try.prog 28 #[.int .i64 (j : Int), .pointer (some ⟨bh, 0, none⟩), .pointer (some ⟨bx, 0, none⟩), .pointer (some ⟨bi, 0, none⟩)] w fun e w' => e = .returned (.bool (decide (num h ≤ num x))) ∧ ∃ q, w' = w.drewN q := by
  have HL := Lib.hid (leq_num hh hx)
  have i0 : (0 : Int) ≤ (j : Int) := by omega
  have i1 : (j : Int) < (n' : Int) := by omega
  have i2 : (0 : Int) ≤ (m : Int) := by omega
  have i3 : (m : Int) < (n : Int) := by omega
  clear hx hh
  go_enter Try.func28, Try.ntmps28
  go_wp2_with fail
  go_quiet (fail)
  go_wp2_with fail
  go_ret
  exact ⟨by rw [← HL.out]; rfl, nq, rfl⟩

def SeaPost (w : World) (n : Nat) (pred : Nat → Bool) (e : Ending) (w' : World) : Prop := ∃ r : Nat, r ≤ n ∧ e = .returned (.int .i64 (r : Int)) ∧ (∀ i, i < r → pred i = false) ∧ (r < n → pred r = true) ∧ ∃ q, w' = w.drewN q

set_option maxRecDepth 100000 in
set_option maxHeartbeats 800000 in
theorem search_any (n bh bx bi : Nat) (pred : Nat → Bool) (w : World) (hn : n ≤ 100000) (hc : ∀ (j q : Nat), j < n → Calls Try.prog 28 #[.int .i64 (j : Int), .pointer (some ⟨bh, 0, none⟩), .pointer (some ⟨bx, 0, none⟩), .pointer (some ⟨bi, 0, none⟩)] (w.drewN q) fun e w' => e = .returned (.bool (pred j)) ∧ ∃ q', w' = (w.drewN q).drewN q')
    (hm : ∀ i j, i ≤ j → j < n → pred i = true → pred j = true) :
    Calls Try.prog 27 #[.int .i64 (n : Int), .func (.func 28) #[] #[.pointer (some ⟨bh, 0, none⟩), .pointer (some ⟨bx, 0, none⟩), .pointer (some ⟨bi, 0, none⟩)]] w (SeaPost w n pred) := by
  have HC := Lib.hid hc
  have HM := Lib.hid hm
  clear hc hm
  go_enter Try.func27, Try.ntmps27
  go_wp2_with fail
  go_loopw [5, 6] (fun i j wr => ∃ a b q : Nat, a ≤ b ∧ b ≤ n ∧ i = .int .i64 (a : Int) ∧ j = .int .i64 (b : Int) ∧ Hid (∀ k, k < a → pred k = false) ∧ Hid (b < n → pred b = true) ∧ wr = w.drewN q) (fun i j _ => (intOf j).toNat - (intOf i).toNat)
  case atStart => exact ⟨0, n, 0, by omega, by omega, rfl, rfl, fun k h => absurd h (by omega), fun h => absurd h (by omega), rfl⟩
  case round =>
    obtain ⟨a, b, q, hab, hbn, rfl, rfl, HA, HB, rfl⟩ := hrel
    by_cases hlt : a < b
    · obtain ⟨m, hm⟩ : ∃ m, (a + b) / 2 = m := ⟨_, rfl⟩
      have HCM := Lib.hid (HC.out m q (by omega))
      have hmi : ((a : Int) + (b : Int)) / 2 = (m : Int) := by omega
      have hma : a ≤ m := by omega
      have hmb : m < b := by omega
      cases hp : pred m with
      | true =>
        have HB' : Hid (m < n → pred m = true) := fun _ => hp
        rw [hp] at HCM
        clear hp hm
        go_wp2_with fail
        refine (HCM.out).mono ?_
        rintro e w2 ⟨rfl, q', rfl⟩
        go_wp2_with fail
        go_roundw
        case rel => exact ⟨a, m, q + q', by omega, by omega, rfl, rfl, HA, HB', by simp⟩
        case measure => simp [intOf]; omega
      | false =>
        have HA' : Hid (∀ k, k < m + 1 → pred k = false) := fun k hk => by
          cases hpk : pred k with
          | false => rfl
          | true => rw [HM.out k m (by omega) (by omega) hpk] at hp; cases hp
        rw [hp] at HCM
        clear hp hm
        go_wp2_with fail
        refine (HCM.out).mono ?_
        rintro e w2 ⟨rfl, q', rfl⟩
        go_wp2_with fail
        go_roundw
        case rel => exact ⟨m + 1, b, q + q', by omega, by omega, by go_num, rfl, HA', HB, by simp⟩
        case measure => simp [intOf]; omega
    · obtain rfl : a = b := by omega
      go_wp2_with fail
      go_ret
      exact ⟨a, hbn, rfl, HA.out, HB.out, q, rfl⟩
end Go.Proofs.Ytikabbpipdekfaa
