/-
  PositionSpread: for every input the law returns true, and its arguments are as they were. No condition beside the given statement's own.
-/
import Derived.Test.YtikabbpipdekfaaPsX
namespace Go.Proofs.Ytikabbpipdekfaa.positionSpread
open Go.ChangeShapes Go.WideShapes Go.ChangeAt Go.RowKit
open Go.ChangeMaps (open_string shut_string)
set_option linter.unusedVariables false

theorem texts_yes (A A' : Option Addr) (c c' B B' : Nat) (a b : List ByteArray) (w : World) (hr : Reads w B 1 A a.length (a.map Value.string)) (hr' : Reads w B' 1 A' b.length (b.map Value.string)) (ha : a.length ≤ 140737488351232) (hb : b.length ≤ 140737488351232) (h : a = b) :
    Calls Try.prog 17 #[.slice A a.length c, .slice A' b.length c'] w (SamePost w true) := by
  have := texts_any A A' c c' B B' a b w hr hr' ha hb
  rw [decide_eq_true h] at this
  exact this
theorem two_list (x : Nat) : (two x).data.toList = [UInt8.ofNat (97 + x / 25), UInt8.ofNat (98 + x % 25)] := rfl
theorem two_key {x : Nat} (h : x ≤ 649) : keyB (two x).data.toList = true ∧ num (two x) = (x / 25 * 26 + 1 + x % 25) * 26 ^ 58 := by
  have e1 : (UInt8.ofNat (97 + x / 25)).toNat = 97 + x / 25 := UInt8.toNat_ofNat_of_lt' (by show _ < 256; omega)
  have e2 : (UInt8.ofNat (98 + x % 25)).toNat = 98 + x % 25 := UInt8.toNat_ofNat_of_lt' (by show _ < 256; omega)
  have hl : Lets (two x).data.toList := fun c hc => by
    rw [two_list] at hc
    simp only [List.mem_cons, List.not_mem_nil, or_false] at hc
    rcases hc with rfl | rfl
    · exact ⟨by rw [e1]; omega, by rw [e1]; omega⟩
    · exact ⟨by rw [e2]; omega, by rw [e2]; omega⟩
  have hk : Key (two x).data.toList := by
    refine ⟨by rw [two_list]; simp, by rw [two_list]; simp, hl, ?_⟩
    unfold Fin
    rw [two_list]
    intro e
    simp only [List.getLast?_cons_cons, List.getLast?_singleton, Option.some.injEq] at e
    have := congrArg UInt8.toNat e
    rw [e2] at this
    have : 98 + x % 25 = 97 := this
    omega
  refine ⟨keyB_iff.2 hk, ?_⟩
  rw [(num_key (keyB_iff.2 hk)).1, W_eq (by rw [two_list]; simp), two_list]
  show V 2 _ * Bn 2 = _
  rw [V_cons, V_cons]
  unfold dg
  rw [e1, e2]
  show ((97 + x / 25 - 97) * 26 ^ 1 + ((98 + x % 25 - 97) * 26 ^ 0 + 0)) * 26 ^ 58 = _
  congr 1
  omega
theorem two_lt {x y : Nat} (h : x < y) (hy : y ≤ 649) : num (two x) < num (two y) := by
  rw [(two_key (by omega)).2, (two_key hy).2]
  exact Nat.mul_lt_mul_of_pos_right (by omega) (Nat.pow_pos (by omega))
theorem spread_at {m i : Nat} {x : ByteArray} (h : (spread m)[i]? = some x) : i < m ∧ x = two ((i + 1) * (650 / (m + 1))) := by
  unfold spread at h
  rw [List.getElem?_map] at h
  obtain ⟨j, hj, rfl⟩ := Option.map_eq_some_iff.1 h
  have := (List.getElem?_eq_some_iff.1 hj).1
  simp at this
  rw [List.getElem?_range this] at hj
  injection hj with hj
  subst hj
  exact ⟨this, rfl⟩
theorem spread_key {m i : Nat} {x : ByteArray} (h : (spread m)[i]? = some x) : keyB x.data.toList = true := by
  obtain ⟨hi, rfl⟩ := spread_at h
  exact (two_key (spread_bd hi rfl)).1
theorem spread_lt {m i : Nat} {x y : ByteArray} (hm : m ≤ 400) (h : (spread m)[i]? = some x) (h' : (spread m)[i + 1]? = some y) : num x < num y := by
  obtain ⟨hi, rfl⟩ := spread_at h
  obtain ⟨hi', rfl⟩ := spread_at h'
  refine two_lt ?_ (spread_bd hi' rfl)
  have : 1 ≤ 650 / (m + 1) := (Nat.le_div_iff_mul_le (by omega)).2 (by omega)
  rw [Nat.add_mul (i + 1)]
  omega
theorem spread_len (m : Nat) : (spread m).length = m := by simp [spread]
theorem spread_size {m i : Nat} {x : ByteArray} (h : (spread m)[i]? = some x) : x.size = 2 := by
  obtain ⟨hi, rfl⟩ := spread_at h
  rfl
def resL (n : Int) : List ByteArray := if n < 0 ∨ 400 < n then [] else spread n.toNat
theorem res_key {n : Int} {i : Nat} {x : ByteArray} (h : (resL n)[i]? = some x) : keyB x.data.toList = true ∧ x.size = 2 := by
  unfold resL at h
  split at h
  · simp at h
  · exact ⟨spread_key h, spread_size h⟩
theorem res_lt {n : Int} {i : Nat} {x y : ByteArray} (h : (resL n)[i]? = some x) (h' : (resL n)[i + 1]? = some y) : num x < num y := by
  unfold resL at h h'
  split at h
  · simp at h
  · rename_i hn
    rw [if_neg hn] at h'
    exact spread_lt (by omega) h h'
theorem res_len (n : Int) : (resL n).length ≤ 400 ∧ (¬ (n < 0 ∨ 400 < n) → ((resL n).length : Int) = n) := by
  unfold resL
  split
  · exact ⟨by simp, fun h => absurd ‹_› h⟩
  · rw [spread_len]; exact ⟨by omega, fun _ => by omega⟩
set_option maxRecDepth 100000 in
set_option maxHeartbeats 3200000 in
theorem walk (n : Int) (w : World) (hn : -9223372036854775808 ≤ n ∧ n ≤ 9223372036854775807) : Calls Try.prog 4 #[.int .i64 n] w (Ret w (.bool true)) := by
  have HS : Hid (∀ w' : World, Calls Try.prog 16 #[.int .i64 n] w' (StrsPost w' (resL n))) := fun w' => spread_any n w' hn
  have HRS : Hid (∀ w' : World, Calls Try.prog 18 #[.int .i64 n] w' (StrsPost w' (resL n))) := fun w' => rspread_any n w' hn
  obtain ⟨l, hl⟩ : ∃ l, resL n = l := ⟨_, rfl⟩
  have HK : Hid (∀ (i : Nat) x, l[i]? = some x → keyB x.data.toList = true ∧ x.size = 2) := fun i x h => by rw [← hl] at h; exact res_key h
  have HLT : Hid (∀ (i : Nat) x y, l[i]? = some x → l[i + 1]? = some y → num x < num y) := fun i x y h h' => by rw [← hl] at h h'; exact res_lt h h'
  have hll := res_len n
  rw [hl] at HS HRS hll
  obtain ⟨hl4, hln⟩ := hll
  have HLN := Lib.hid hln
  obtain ⟨ln, hlen⟩ : ∃ k, l.length = k := ⟨_, rfl⟩
  have HLE := Lib.hid hlen
  unfold StrsPost at HS HRS
  rw [hlen] at HS HRS HLN hl4
  clear hl hln hlen
  go_enter Try.func4, Try.ntmps4
  go_wp2_with fail
  refine (HS.out _).mono ?_
  rintro e w1 ⟨hb1, A, c, rfl, hc, hr⟩
  have HB1 := Lib.hid hb1
  have HR := Lib.hid hr
  clear hb1 hr
  go_wp2_with fail
  go_loopw [4] (fun i wr => ∃ (j q : Nat), j ≤ ln ∧ i = .int .i64 (j : Int) ∧ wr = w1.drewN q) (fun i _ => ln - (intOf i).toNat)
  case atStart => exact ⟨0, 0, by omega, rfl, rfl⟩
  case round =>
    obtain ⟨j, q, hj, rfl, rfl⟩ := hrel
    by_cases hlt : j < ln
    · obtain ⟨x, hx⟩ : ∃ x, l[j]? = some x := ⟨_, List.getElem?_eq_getElem (by rw [HLE.out]; exact hlt)⟩
      obtain ⟨b1, o1, u1, rfl, -, hu1, g1⟩ := HR.out.at1 hlt
      obtain rfl : u1 = Value.string x := by rw [List.getElem?_map, hx] at hu1; simpa using hu1.symm
      have hkx := HK.out j x hx
      have HV : Hid (∀ w' : World, Calls Try.prog 14 #[.string x] w' fun e w'' => e = .returned (.bool true) ∧ w' = w'') := fun w' => by
        have := valid_any x w' (by rw [hkx.2]; omega)
        unfold VldPost at this
        rw [hkx.1] at this
        exact this
      have i0 : (0 : Int) ≤ (j : Int) := by omega
      have i1 : (j : Int) < (ln : Int) := by omega
      cases j with
      | zero =>
        simp only [Int.natCast_zero, Nat.add_zero] at i0 i1 g1 ⊢
        clear hx hu1 hkx
        go_wp2_with fail
        go_quiet (exact quiet_add_left (HV.out _))
        go_wp2_with fail
        go_roundw
        case rel => exact ⟨1, q + nq, by omega, by go_num, by simp⟩
        case measure => simp [intOf]; omega
      | succ k =>
        obtain ⟨y, hy⟩ : ∃ y, l[k]? = some y := ⟨_, List.getElem?_eq_getElem (by rw [HLE.out]; omega)⟩
        have hky := HK.out k y hy
        obtain ⟨b2, o2, u2, e2, -, hu2, g2⟩ := HR.out.at1 (show k < ln by omega)
        injection e2 with e2
        injection e2 with e3 e4
        subst e3 e4
        obtain rfl : u2 = Value.string y := by rw [List.getElem?_map, hy] at hu2; simpa using hu2.symm
        have hls := less_num (.inr hky.1) hkx.1
        rw [decide_eq_true (HLT.out k y x hy hx)] at hls
        rw [show ((k + 1 : Nat) : Int) = (k : Int) + 1 by omega] at i0 i1 ⊢
        have i3 : (k : Int) < (ln : Int) := by omega
        have i4 : decide (0 < (k : Int) + 1) = true := decide_eq_true (by omega)
        have i5 : (0 : Int) ≤ (k : Int) := by omega
        clear hx hy hu1 hu2 hkx hky
        go_wp2_with fail
        go_quiet (exact quiet_add_left (HV.out _))
        go_wp2_with fail
        go_roundw
        case rel => exact ⟨k + 1 + 1, q + nq, by omega, by go_num, by simp⟩
        case measure => simp [intOf]; omega
    · obtain rfl : j = ln := by omega
      have HBQ : Hid (Below w.heap.size w (w1.drewN q)) := below_drewN HB1.out q
      obtain ⟨w2, hw2⟩ : ∃ w2, w1.drewN q = w2 := ⟨_, rfl⟩
      have HR2 : Hid (Reads w2 w1.heap.size 1 A j (l.map Value.string)) := by rw [← hw2]; exact HR.out
      have HSZ : Hid (w1.heap.size ≤ w2.heap.size) := by rw [← hw2]; exact Nat.le_refl _
      rw [hw2] at HBQ ⊢
      have HW2 := Lib.hid hw2
      clear hw2
      go_wp2_with fail
      refine (awake_any _).mono ?_
      rintro e w3 ⟨rfl, hb3⟩
      have HB3 := Lib.hid (HBQ.out.trans (hb3.mono HBQ.out.size))
      have HR3 : Hid (Reads w3 w1.heap.size 1 A j (l.map Value.string)) := HR2.out.below (hb3.mono HSZ.out)
      have HSZ3 : Hid (w1.heap.size ≤ w3.heap.size) := Nat.le_trans HSZ.out hb3.size
      clear hb3
      go_wp2_with fail
      refine (HRS.out _).mono ?_
      rintro e w4 ⟨hb4, A4, c4, rfl, hc4, hr4⟩
      have HB4 := Lib.hid (HB3.out.trans (hb4.mono HB3.out.size))
      have HC := Lib.hid (texts_yes A A4 c c4 _ _ l l w4 (by rw [HLE.out]; exact HR3.out.below (hb4.mono HSZ3.out)) (by rw [HLE.out]; exact hr4) (by rw [HLE.out]; omega) (by rw [HLE.out]; omega) rfl)
      rw [HLE.out] at HC
      clear hb4 hr4 hc4
      by_cases n0 : n < 0
      · have d1 : decide (n < 0) = true := decide_eq_true n0
        go_wp2_with fail
        refine (HC.out).mono ?_
        rintro e w5 ⟨rfl, q5, rfl⟩
        go_wp2_with fail
        go_ret
        exact ⟨rfl, below_drewN HB4.out q5⟩
      have d1 : decide (n < 0) = false := decide_eq_false n0
      by_cases n4 : 400 < n
      · have d2 : decide (400 < n) = true := decide_eq_true n4
        go_wp2_with fail
        refine (HC.out).mono ?_
        rintro e w5 ⟨rfl, q5, rfl⟩
        go_wp2_with fail
        go_ret
        exact ⟨rfl, below_drewN HB4.out q5⟩
      have d2 : decide (400 < n) = false := decide_eq_false n4
      have d3 : ((j : Int) == n) = true := by rw [HLN.out (by omega)]; simp
      clear n0 n4
      go_wp2_with fail
      refine (HC.out).mono ?_
      rintro e w5 ⟨rfl, q5, rfl⟩
      go_wp2_with fail
      go_ret
      exact ⟨rfl, below_drewN HB4.out q5⟩

theorem own : ownKnob Try.prog.godebug = none := by kernel_rfl
theorem laidOut : laidOutB Try.prog = true := by kernel_rfl
theorem specN (H : Type) (ds : List (DataW H)) (h : ds.length = 1) : Rows.positionSpreadSpec.fn H (ds ++ []) = { results := [.lit (.bool true)], args := ds } := by
  match ds, h with
  | [_], _ => rfl

set_option maxRecDepth 100000 in
theorem lifted (os : Os) (started : os.Started) (H : Type) (enc : TypeId × Value → H) :
    ReturnsInHanded {} Try.checked os 4 .any (Rows.positionSpreadSpec.pre6 enc Try.prog Try.f4 Rows.positionSpreadRow.domain false) (Rows.positionSpreadSpec.post enc Try.prog Try.f4 false true false false) := by
  refine law_of_walk (C := Try.checked) own started (by kernel_rfl) Try.func4 rfl rfl Try.underlying4 laidOut (by kernel_rfl) (fun ds h => specN H ds (h.trans (by kernel_rfl)))
    (ChangeSpec.witness6 (enc := enc) (C := Try.checked) false ⟨#[], #[.int .i64 0], []⟩ 8 (by kernel_rfl) (by kernel_rfl) (by kernel_rfl) (by kernel_rfl)) ?_
  intro W base args ds p hval hA hsz
  have hval' : ∀ (j : Nat) t v, Try.f4.params[j]? = some t → args[j]? = some v → Value.okWide Try.prog W .any base t v := hval
  rw [Try.params4] at hval' hA hsz
  obtain ⟨v0, vs0, d0, ds0, p0, q0, hargs, rfl, rfl, h0, r0⟩ := trodAll_cons hA
  obtain ⟨rfl, rfl, rfl⟩ := trodAll_nil r0
  obtain rfl : args = #[v0] := by cases args; simp_all
  obtain ⟨a0, rfl, rfl, rfl, w0⟩ := open_int Try.underlying3 (hval' 0 3 v0 rfl rfl) h0
  exact walk a0 W (wf_i64 w0)

theorem proved : Rows.PositionSpreadSaid :=
  OpenClaim.holds_of_wide 4 Try.f4 rfl rfl rfl rfl rfl rfl rfl ⟨rfl, rfl, rfl, rfl, rfl⟩ rfl rfl rfl rfl rfl (by kernel_rfl) Try.func4 (by kernel_rfl)
    (of_decide_eq_true (by kernel_rfl)) (by unfold Func.isWrapper; first | (rw [if_pos (by decide +kernel)]; kernel_rfl) | (rw [if_neg (by decide +kernel)]; exact ⟨rfl, rfl⟩))
    (fun os started H enc _ => lifted os started H enc)
end Go.Proofs.Ytikabbpipdekfaa.positionSpread
