/-
  PositionStays: for every input the law returns true, and its arguments are as they were. No condition beside the given statement's own.
-/
import Derived.Test.YtikabbpipdekfaaPsX
import Derived.Test.YtikabbpipdekfaaPsZ
import Derived.Test.YtikabbpipdekfaaPsSa
namespace Go.Proofs.Ytikabbpipdekfaa.positionStays
open Go.ChangeShapes Go.WideShapes Go.ChangeAt Go.RowKit
open Go.ChangeMaps (open_string shut_string)
set_option linter.unusedVariables false

theorem texts_yes (A A' : Option Addr) (c c' B B' : Nat) (a b : List ByteArray) (w : World) (hr : Reads w B 1 A a.length (a.map Value.string)) (hr' : Reads w B' 1 A' b.length (b.map Value.string)) (ha : a.length ≤ 140737488351232) (hb : b.length ≤ 140737488351232) (h : a = b) :
    Calls Try.prog 17 #[.slice A a.length c, .slice A' b.length c'] w (SamePost w true) := by
  have := texts_any A A' c c' B B' a b w hr hr' ha hb
  rw [decide_eq_true h] at this
  exact this
set_option maxRecDepth 100000 in
set_option maxHeartbeats 8000000 in
theorem walk (A : Option Addr) (c : Nat) (xs : List ByteArray) (w : World) (hr : Reads w w.heap.size 1 A xs.length (xs.map Value.string)) (hl : xs.length ≤ 140737488351232) (hs : ∀ x ∈ xs, x.size ≤ 140737488351232) :
    Calls Try.prog 10 #[.slice A xs.length c] w (Ret w (.bool true)) := by
  have HL := Lib.hid (light_any A c xs w hr hl hs)
  have HX : Hid (lightB xs = true → Txt w A xs ∧ xs.length ≤ 60) := fun h => ⟨⟨hr, by have := (light_yes h).1; omega, hs⟩, (light_yes h).1⟩
  obtain ⟨b, hb⟩ : ∃ b, lightB xs = b := ⟨_, rfl⟩
  rw [hb] at HL HX
  clear hr hb
  cases b
  · clear HX
    go_enter Try.func10, Try.ntmps10
    go_wp2_with fail
    refine (HL.out).mono ?_
    rintro e w1 ⟨rfl, hb1⟩
    have HB1 := Lib.hid hb1
    clear hb1
    go_wp2_with fail
    refine (awake_any _).mono ?_
    rintro e w8 ⟨rfl, hb8⟩
    have HB8 := Lib.hid (HB1.out.trans (hb8.mono HB1.out.size))
    clear hb8
    go_wp2_with fail
    go_ret
    exact ⟨rfl, HB8.out⟩
  · have HT := Lib.hid (HX.out rfl).1
    have h60 := (HX.out rfl).2
    have HK := Lib.hid (fun (w' : World) (hw : Below w.heap.size w w') => rekey_any A c xs w' (HT.out.up hw) (by omega))
    have HKK := Lib.hid (fun (w' : World) (hw : Below w.heap.size w w') => keep_any A c xs w' (HT.out.up hw))
    unfold KeepPost at HKK
    obtain ⟨pb, po, hA, hcells⟩ := HT.out.cells
    have HKP : Hid (∀ outs, RRes xs outs → ∀ (i : Nat) x, xs[i]? = some x → (keepN (nums xs))[i]? = some true → outs[i]? = some x ∨ outs = spread xs.length) := fun outs h i x hx hb => h.kept hx hb
    have HGD : Hid (∀ outs, RRes xs outs → (∀ (i : Nat) x, outs[i]? = some x → keyB x.data.toList = true) ∧ (∀ (i : Nat) x y, outs[i]? = some x → outs[i + 1]? = some y → num x < num y)) := fun outs h => h.keys (by omega)
    obtain ⟨K, hK⟩ : ∃ K, keepN (nums xs) = K := ⟨_, rfl⟩
    have hKL : K.length = xs.length := by rw [← hK, keep_len]; exact nums_len xs
    rw [hK, nums_len] at HKK
    rw [hK] at HKP
    obtain ⟨n, hn⟩ : ∃ n, xs.length = n := ⟨_, rfl⟩
    have HSPR : Hid (∀ w' : World, Calls Try.prog 16 #[.int .i64 (n : Int)] w' (StrsPost w' (spread n))) := fun w' => by
      have := spread_any (n : Int) w' (by omega)
      rw [if_neg (by omega), Int.toNat_natCast] at this
      exact this
    unfold StrsPost at HSPR
    have HN := Lib.hid hn
    rw [hn] at hA hKL h60 HL HK HKK HKP ⊢
    have HSL : Hid ((spread n).length = n) := spread_len n
    have HKL := Lib.hid hKL
    have HAA := Lib.hid hA
    have HCE := Lib.hid hcells
    clear hK hKL hA hcells hn HX
    go_enter Try.func10, Try.ntmps10
    go_wp2_with fail
    refine (HL.out).mono ?_
    rintro e w1 ⟨rfl, hb1⟩
    have HB1 := Lib.hid hb1
    have HC1 := Lib.hid (HK.out w1 HB1.out)
    clear hb1
    go_wp2_with fail
    refine (HC1.out).mono ?_
    rintro e w3 ⟨hb3, A3, c3, outs, he, hr3, hu⟩
    have hol : outs.length = n := hu.len.trans HN.out
    rw [hol] at he hr3
    subst he
    have HOL := Lib.hid hol
    have HB3 := Lib.hid (HB1.out.trans (hb3.mono HB1.out.size))
    have HR3 := Lib.hid hr3
    have HC4 := Lib.hid (HKK.out w3 HB3.out)
    have HKP2 := Lib.hid (HKP.out outs hu)
    have HGD2 := Lib.hid (HGD.out outs hu)
    clear hb3 hr3 hu hol
    go_wp2_with fail
    refine (HC4.out).mono ?_
    rintro e w4 ⟨hb4, A4, c4, rfl, hr4⟩
    have HB4 := Lib.hid (HB3.out.trans (hb4.mono HB3.out.size))
    have HR34 := Lib.hid (HR3.out.below hb4)
    have HS34 := Lib.hid hb4.size
    have HR4 := Lib.hid hr4
    clear hb4 hr4
    go_wp2_with fail
    refine (HSPR.out _).mono ?_
    rintro e w5 ⟨hb5, A5, c5, he, hc5, hr5⟩
    rw [HSL.out] at he hr5
    subst he
    have HB5 := Lib.hid (HB4.out.trans (hb5.mono HB4.out.size))
    have HR35 := Lib.hid (HR34.out.below (hb5.mono HS34.out))
    have HR45 := Lib.hid (HR4.out.below hb5)
    have hsm := texts_any A3 A5 c3 c5 _ _ outs (spread n) w5 (by rw [HOL.out]; exact HR35.out) (by rw [HSL.out]; exact hr5) (by rw [HOL.out]; omega) (by rw [HSL.out]; omega)
    rw [HOL.out, HSL.out] at hsm
    obtain ⟨sp, hsp⟩ : ∃ sp, decide (outs = spread n) = sp := ⟨_, rfl⟩
    have HKX : Hid (∀ (i : Nat) x, xs[i]? = some x → K[i]? = some true → outs[i]? = some x ∨ sp = true) := fun i x hx hb => (HKP2.out i x hx hb).imp id (fun e => by rw [← hsp]; exact decide_eq_true e)
    rw [hsp] at hsm
    have HSM := Lib.hid hsm
    have HSZ5 : Hid (w3.heap.size ≤ w5.heap.size) := Nat.le_trans HS34.out hb5.size
    clear hb5 hr5 hc5 hsm hsp
    go_wp2_with fail
    refine (HSM.out).mono ?_
    rintro e w6 ⟨rfl, q0, rfl⟩
    go_wp2_with fail
    go_loopw [6] (fun i wr => ∃ (j q : Nat), j ≤ n ∧ i = .int .i64 (j : Int) ∧ wr = w5.drewN q) (fun i _ => n - (intOf i).toNat)
    case atStart => exact ⟨0, q0, by omega, rfl, rfl⟩
    case round =>
      obtain ⟨j, q, hj, rfl, rfl⟩ := hrel
      by_cases hlt : j < n
      · obtain ⟨x, hx⟩ : ∃ x, xs[j]? = some x := ⟨_, List.getElem?_eq_getElem (by rw [HN.out]; exact hlt)⟩
        obtain ⟨y, hy⟩ : ∃ y, outs[j]? = some y := ⟨_, List.getElem?_eq_getElem (by rw [HOL.out]; exact hlt)⟩
        obtain ⟨kb, hkb⟩ : ∃ kb, K[j]? = some kb := ⟨_, List.getElem?_eq_getElem (by rw [HKL.out]; exact hlt)⟩
        obtain rfl := HAA.out (by omega)
        have k0 := HCE.out w5 HB5.out j x hx
        obtain ⟨b1, o1, u1, rfl, -, hu1, g1⟩ := HR35.out.at1 hlt
        obtain rfl : u1 = Value.string y := by rw [List.getElem?_map, hy] at hu1; simpa using hu1.symm
        obtain ⟨b2, o2, u2, rfl, -, hu2, g2⟩ := HR45.out.at1 hlt
        obtain rfl : u2 = Value.bool kb := by rw [List.getElem?_map, hkb] at hu2; simpa using hu2.symm
        have hky := HGD2.out.1 j y hy
        have HV : Hid (∀ w' : World, Calls Try.prog 14 #[.string y] w' fun e w'' => e = .returned (.bool true) ∧ w' = w'') := fun w' => by
          have hsz : y.size ≤ 60 := by rw [← size_data]; exact (keyB_iff.1 hky).len
          have := valid_any y w' (by omega)
          unfold VldPost at this
          rw [hky] at this
          exact this
        have HSP : Hid (kb = true → y = x ∨ sp = true) := fun e => by
          subst e
          rcases HKX.out j x hx hkb with g | g
          · rw [hy] at g; injection g with g; exact .inl g
          · exact .inr g
        have i0 : (0 : Int) ≤ (j : Int) := by omega
        have i1 : (j : Int) < (n : Int) := by omega
        cases j with
        | zero =>
          simp only [Int.natCast_zero, Nat.add_zero] at i0 i1 g1 g2 k0 ⊢
          clear hx hy hkb hu1 hu2 hky
          cases kb with
          | false =>
            go_wp2_with fail
            go_quiet (exact quiet_add_left (HV.out _))
            go_wp2_with fail
            go_roundw
            case rel => exact ⟨1, q + nq, by omega, by go_num, by simp⟩
            case measure => simp [intOf]; omega
          | true =>
            by_cases hxy : y.toList = x.toList
            · obtain rfl := ba_eq hxy
              clear hxy
              go_wp2_with fail
              go_quiet (exact quiet_add_left (HV.out _))
              go_wp2_with fail
              go_roundw
              case rel => exact ⟨1, q + nq, by omega, by go_num, by simp⟩
              case measure => simp [intOf]; omega
            · have hsp := (HSP.out rfl).resolve_left (fun e => hxy (by rw [e]))
              have q1 : (y.toList == x.toList) = false := by simpa using hxy
              have q0 : (y.toList != x.toList) = true := by simpa using hxy
              have q2 : decide (y.toList = x.toList) = false := decide_eq_false hxy
              subst hsp
              clear hxy
              go_wp2_with fail
              go_quiet (exact quiet_add_left (HV.out _))
              go_wp2_with fail
              go_roundw
              case rel => exact ⟨1, q + nq, by omega, by go_num, by simp⟩
              case measure => simp [intOf]; omega
        | succ k =>
          obtain ⟨z, hz⟩ : ∃ z, outs[k]? = some z := ⟨_, List.getElem?_eq_getElem (by rw [HOL.out]; omega)⟩
          have hkz := HGD2.out.1 k z hz
          obtain ⟨b3, o3, u3, e3, -, hu3, g3⟩ := HR35.out.at1 (show k < n by omega)
          injection e3 with e3
          injection e3 with e4 e5
          subst e4 e5
          obtain rfl : u3 = Value.string z := by rw [List.getElem?_map, hz] at hu3; simpa using hu3.symm
          have hls := less_num (.inr hkz) hky
          rw [decide_eq_true (HGD2.out.2 k z y hz hy)] at hls
          rw [show ((k + 1 : Nat) : Int) = (k : Int) + 1 by omega] at i0 i1 ⊢
          have i3 : (k : Int) < (n : Int) := by omega
          have i4 : decide (0 < (k : Int) + 1) = true := decide_eq_true (by omega)
          have i5 : (0 : Int) ≤ (k : Int) := by omega
          clear hx hy hkb hz hu1 hu2 hu3 hky hkz
          cases kb with
          | false =>
            go_wp2_with fail
            go_quiet (exact quiet_add_left (HV.out _))
            go_wp2_with fail
            go_roundw
            case rel => exact ⟨k + 1 + 1, q + nq, by omega, by go_num, by simp⟩
            case measure => simp [intOf]; omega
          | true =>
            by_cases hxy : y.toList = x.toList
            · obtain rfl := ba_eq hxy
              clear hxy
              go_wp2_with fail
              go_quiet (exact quiet_add_left (HV.out _))
              go_wp2_with fail
              go_roundw
              case rel => exact ⟨k + 1 + 1, q + nq, by omega, by go_num, by simp⟩
              case measure => simp [intOf]; omega
            · have hsp := (HSP.out rfl).resolve_left (fun e => hxy (by rw [e]))
              have q1 : (y.toList == x.toList) = false := by simpa using hxy
              have q0 : (y.toList != x.toList) = true := by simpa using hxy
              have q2 : decide (y.toList = x.toList) = false := decide_eq_false hxy
              subst hsp
              clear hxy
              go_wp2_with fail
              go_quiet (exact quiet_add_left (HV.out _))
              go_wp2_with fail
              go_roundw
              case rel => exact ⟨k + 1 + 1, q + nq, by omega, by go_num, by simp⟩
              case measure => simp [intOf]; omega
      · obtain rfl : j = n := by omega
        have HBQ : Hid (Below w.heap.size w (w5.drewN q)) := below_drewN HB5.out q
        obtain ⟨w6, hw6⟩ : ∃ w6, w5.drewN q = w6 := ⟨_, rfl⟩
        have HR36 : Hid (Reads w6 w3.heap.size 1 A3 j (outs.map Value.string)) := by rw [← hw6]; exact HR35.out
        have HSZ6 : Hid (w3.heap.size ≤ w6.heap.size) := by rw [← hw6]; exact HSZ5.out
        rw [hw6] at HBQ ⊢
        have HW6 := Lib.hid hw6
        clear hw6
        go_wp2_with fail
        refine (awake_any _).mono ?_
        rintro e w7 ⟨rfl, hb7⟩
        have HB7 := Lib.hid (HBQ.out.trans (hb7.mono HBQ.out.size))
        have HR37 := Lib.hid (HR36.out.below (hb7.mono HSZ6.out))
        have HSZ7 : Hid (w3.heap.size ≤ w7.heap.size) := Nat.le_trans HSZ6.out hb7.size
        have HTO : Hid (Txt w7 A3 outs) := ⟨by rw [HOL.out]; exact HR37.out.more HSZ7.out, by rw [HOL.out]; omega, fun x hx => by
          obtain ⟨i, hi⟩ := List.getElem?_of_mem hx
          have := (keyB_iff.1 (HGD2.out.1 i x hi)).len
          rw [size_data] at this
          omega⟩
        have hc8 := rekey_any A3 c3 outs w7 HTO.out (by rw [HOL.out]; omega)
        rw [HOL.out] at hc8
        have HC8 := Lib.hid hc8
        clear hb7 hc8
        go_wp2_with fail
        refine (HC8.out).mono ?_
        rintro e w8 ⟨hb8, A8, c8, outs8, he, hr8, hu8⟩
        have hou := rekey_same HGD2.out.1 HGD2.out.2 hu8
        rw [hou, HOL.out] at he hr8
        subst he
        have HB8 := Lib.hid (HB7.out.trans (hb8.mono HB7.out.size))
        have hc9 := texts_yes A8 A3 c8 c3 _ _ outs outs w8 (by rw [HOL.out]; exact hr8) (by rw [HOL.out]; exact HR37.out.below (hb8.mono HSZ7.out)) (by rw [HOL.out]; omega) (by rw [HOL.out]; omega) rfl
        rw [HOL.out] at hc9
        have HC9 := Lib.hid hc9
        clear hb8 hr8 hu8 hou hc9
        go_wp2_with fail
        refine (HC9.out).mono ?_
        rintro e w9 ⟨rfl, q9, rfl⟩
        go_wp2_with fail
        go_ret
        exact ⟨rfl, below_drewN HB8.out q9⟩

theorem own : ownKnob Try.prog.godebug = none := by kernel_rfl
theorem laidOut : laidOutB Try.prog = true := by kernel_rfl
theorem specN (H : Type) (ds : List (DataW H)) (h : ds.length = 1) : Rows.positionStaysSpec.fn H (ds ++ []) = { results := [.lit (.bool true)], args := ds } := by
  match ds, h with
  | [_], _ => rfl

set_option maxRecDepth 100000 in
theorem lifted (os : Os) (started : os.Started) (H : Type) (enc : TypeId × Value → H) :
    ReturnsInHanded {} Try.checked os 10 .any (Rows.positionStaysSpec.pre6 enc Try.prog Try.f10 Rows.positionStaysRow.domain false) (Rows.positionStaysSpec.post enc Try.prog Try.f10 false true false false) := by
  refine law_of_walk (C := Try.checked) own started (by kernel_rfl) Try.func10 rfl rfl Try.underlying4 laidOut (by kernel_rfl) (fun ds h => specN H ds (h.trans (by kernel_rfl)))
    (ChangeSpec.witness6 (enc := enc) (C := Try.checked) false ⟨#[], #[.slice none 0 0], []⟩ 8 (by kernel_rfl) (by kernel_rfl) (by kernel_rfl) (by kernel_rfl)) ?_
  intro W base args ds p hval hA hsz
  have hval' : ∀ (j : Nat) t v, Try.f10.params[j]? = some t → args[j]? = some v → Value.okWide Try.prog W .any base t v := hval
  rw [Try.params10] at hval' hA hsz
  obtain ⟨v0, vs0, d0, ds0, p0, q0, hargs, rfl, rfl, h0, r0⟩ := trodAll_cons hA
  obtain ⟨rfl, rfl, rfl⟩ := trodAll_nil r0
  obtain rfl : args = #[v0] := by cases args; simp_all
  obtain ⟨a0, len0, cap0, rfl⟩ := okWide_slice Try.underlying28 (hval' 0 28 v0 rfl rfl)
  obtain ⟨fu0, hf0⟩ := h0
  obtain ⟨hc0, hl0, xs0, rfl, hr0, hb0⟩ := open_txts Try.underlying28 Try.underlying9 (by kernel_rfl) hf0 (sm_arg hsz (j := 0) rfl rfl)
  have hb9 : Try.prog.bytesOf 9 = 16 := by kernel_rfl
  rw [hb9] at hl0
  exact walk a0 cap0 xs0 W hr0 (by omega) hb0

theorem proved : Rows.PositionStaysSaid :=
  OpenClaim.holds_of_wide 10 Try.f10 rfl rfl rfl rfl rfl rfl rfl ⟨rfl, rfl, rfl, rfl, rfl⟩ rfl rfl rfl rfl rfl (by kernel_rfl) Try.func10 (by kernel_rfl)
    (of_decide_eq_true (by kernel_rfl)) (by unfold Func.isWrapper; first | (rw [if_pos (by decide +kernel)]; kernel_rfl) | (rw [if_neg (by decide +kernel)]; exact ⟨rfl, rfl⟩))
    (fun os started H enc _ => lifted os started H enc)
end Go.Proofs.Ytikabbpipdekfaa.positionStays
