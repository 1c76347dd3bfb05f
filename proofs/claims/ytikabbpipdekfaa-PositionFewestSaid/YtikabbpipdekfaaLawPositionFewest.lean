/-
  PositionFewest: for every input the law returns true, and its arguments are as they were. No condition beside the given statement's own.
-/
import Derived.Test.YtikabbpipdekfaaPsX
namespace Go.Proofs.Ytikabbpipdekfaa.positionFewest
open Go.ChangeShapes Go.WideShapes Go.ChangeAt Go.RowKit
open Go.ChangeMaps (open_string shut_string)
set_option linter.unusedVariables false

theorem trues_at {K : List Bool} {i : Nat} {b : Bool} (h : K[i]? = some b) : trues (K.drop i) = (if b then 1 else 0) + trues (K.drop (i + 1)) := by
  obtain ⟨hi, e⟩ := List.getElem?_eq_some_iff.1 h
  rw [List.drop_eq_getElem_cons hi, trues, e]
theorem asc_at {ns : List Nat} {K : List Bool} {i a last : Nat} {b : Bool} (h : ns[i]? = some a) (hb : K[i]? = some b) : asc (ns.drop i) (K.drop i) last ↔ if b = true then last < a ∧ asc (ns.drop (i + 1)) (K.drop (i + 1)) a else asc (ns.drop (i + 1)) (K.drop (i + 1)) last := by
  obtain ⟨hi, e⟩ := List.getElem?_eq_some_iff.1 h
  obtain ⟨hj, e'⟩ := List.getElem?_eq_some_iff.1 hb
  rw [List.drop_eq_getElem_cons hi, List.drop_eq_getElem_cons hj, asc, e, e']
theorem pick_at {ns : List Nat} {ch : List Bool} {i a last : Nat} (h : ns[i]? = some a) : pick (ns.drop i) (ch.drop i) last = if ch[i]? = some true ∧ 0 < a ∧ last < a then pick (ns.drop (i + 1)) (ch.drop (i + 1)) a + 1 else pick (ns.drop (i + 1)) (ch.drop (i + 1)) last := by
  obtain ⟨hi, e⟩ := List.getElem?_eq_some_iff.1 h
  rw [List.drop_eq_getElem_cons hi, pick, e, List.head?_drop, List.tail_drop]
set_option maxRecDepth 100000 in
set_option maxHeartbeats 3200000 in
theorem walk (A C : Option Addr) (c cc : Nat) (xs : List ByteArray) (ch : List Bool) (w : World) (hr : Reads w w.heap.size 1 A xs.length (xs.map Value.string)) (hl : xs.length ≤ 140737488351232) (hs : ∀ x ∈ xs, x.size ≤ 140737488351232) (hrc : Reads w w.heap.size 1 C ch.length (ch.map Value.bool)) (hlc : ch.length ≤ 140737488351232) :
    Calls Try.prog 8 #[.slice A xs.length c, .slice C ch.length cc] w (Ret w (.bool true)) := by
  have HL := Lib.hid (light_any A c xs w hr hl hs)
  have HX : Hid (lightB xs = true → Txt w A xs) := fun h => ⟨hr, by have := (light_yes h).1; omega, hs⟩
  obtain ⟨bl, hbl⟩ : ∃ b, lightB xs = b := ⟨_, rfl⟩
  rw [hbl] at HL HX
  have HRC0 := Lib.hid hrc
  obtain ⟨nc, hnc⟩ : ∃ n, ch.length = n := ⟨_, rfl⟩
  have HCL := Lib.hid hnc
  rw [hnc] at HRC0 hlc ⊢
  clear hr hbl hrc hnc
  go_enter Try.func8, Try.ntmps8
  go_wp2_with fail
  refine (HL.out).mono ?_
  rintro e w1 ⟨rfl, hb1⟩
  have HB1 := Lib.hid hb1
  clear hb1
  cases bl
  · go_wp2_with fail
    refine (awake_any _).mono ?_
    rintro e w8 ⟨rfl, hb8⟩
    have HB8 := Lib.hid (HB1.out.trans (hb8.mono HB1.out.size))
    clear hb8
    go_wp2_with fail
    go_ret
    exact ⟨rfl, HB8.out⟩
  have HT := Lib.hid (HX.out rfl)
  have HC := Lib.hid (keep_any A c xs w1 (HT.out.up HB1.out))
  unfold KeepPost at HC
  obtain ⟨K, hK⟩ : ∃ K, keepN (nums xs) = K := ⟨_, rfl⟩
  rw [hK, nums_len] at HC
  obtain ⟨ns, hns⟩ : ∃ ns, nums xs = ns := ⟨_, rfl⟩
  obtain ⟨T, hTT⟩ : ∃ T, trues K = T := ⟨_, rfl⟩
  have hT6 : T ≤ 1000 := by
    rw [← hTT, ← hK, keep_trues]
    refine mx_bd _ _ (fun b hb => ?_)
    have := best_bd _ b hb
    rw [nums_len] at this
    have := HT.out.few
    omega
  have HT0 : Hid (0 + trues (K.drop 0) = T) := by unfold Hid; rw [List.drop_zero, hTT]; omega
  have HP0 : Hid (0 + pick (ns.drop 0) (ch.drop 0) (num ⟨#[]⟩) ≤ T) := by
    unfold Hid
    rw [List.drop_zero, List.drop_zero, ← hTT, ← hK, keep_trues, ← hns, num_empty (x := ⟨#[]⟩) rfl, Nat.zero_add]
    exact pick_le _ _ _
  have HA0 : Hid (asc (ns.drop 0) (K.drop 0) (num ⟨#[]⟩)) := by
    unfold Hid
    rw [List.drop_zero, List.drop_zero, ← hK, ← hns, num_empty (x := ⟨#[]⟩) rfl]
    exact gr_asc _ _ _ _
  have HKL : Hid (K.length = xs.length) := by rw [← hK, keep_len]; exact nums_len xs
  obtain ⟨n, hn⟩ : ∃ n, xs.length = n := ⟨_, rfl⟩
  have HAT : Hid (∀ (i : Nat) x, xs[i]? = some x → ns[i]? = some (num x)) := fun i x hx => by rw [← hns]; exact nums_at hx
  have HN := Lib.hid hn
  have hn6 : n ≤ 1000 := by rw [← hn]; exact HT.out.few
  obtain ⟨pb, po, hA, hcells⟩ := HT.out.cells
  rw [hn] at hA HC HKL hl ⊢
  have HAA := Lib.hid hA
  have HCE := Lib.hid hcells
  clear hK hns hTT hn hA hcells
  go_wp2_with fail
  refine (HC.out).mono ?_
  rintro e w2 ⟨hb2, A2, c2, rfl, hr2⟩
  have HB2 := Lib.hid (HB1.out.trans (hb2.mono HB1.out.size))
  have HRK := Lib.hid hr2
  have HRC : Hid (Reads w2 w.heap.size 1 C nc (ch.map Value.bool)) := HRC0.out.below HB2.out
  have e0 : ((n : Int) != (n : Int)) = false := by simp
  have e0' : (n != n) = false := by simp
  clear hb2 hr2
  go_wp2_with fail
  go_loopw [6, 7, 8, 9, 10] (fun va vb vla vlb vi wr => ∃ (i a b : Nat) (la lb : ByteArray) (q : Nat), i ≤ n ∧ a ≤ T ∧ b ≤ T ∧ vi = .int .i64 (i : Int) ∧ va = .int .i64 (a : Int) ∧ vb = .int .i64 (b : Int) ∧ vla = .string la ∧ vlb = .string lb ∧ Hid (a + trues (K.drop i) = T) ∧ Hid (b + pick (ns.drop i) (ch.drop i) (num lb) ≤ T) ∧ Hid (asc (ns.drop i) (K.drop i) (num la)) ∧ Hid (la.data.toList = [] ∨ keyB la.data.toList = true) ∧ Hid (lb.data.toList = [] ∨ keyB lb.data.toList = true) ∧ wr = w2.drewN q) (fun _ _ _ _ i _ => n - (intOf i).toNat)
  case atStart => exact ⟨0, 0, 0, _, _, 0, by omega, by omega, by omega, rfl, rfl, rfl, rfl, rfl, HT0, HP0, HA0, .inl rfl, .inl rfl, rfl⟩
  case round =>
    obtain ⟨i, a, b, la, lb, q, hi, haT, hbT, rfl, rfl, rfl, rfl, rfl, HTI, HP, HAI, HLAO, HLBO, rfl⟩ := hrel
    by_cases hlt : i < n
    · obtain ⟨x, hx⟩ : ∃ x, xs[i]? = some x := ⟨_, List.getElem?_eq_getElem (by rw [HN.out]; exact hlt)⟩
      obtain ⟨kb, hkb⟩ : ∃ kb, K[i]? = some kb := ⟨_, List.getElem?_eq_getElem (by rw [HKL.out]; exact hlt)⟩
      obtain rfl := HAA.out (by omega)
      have k0 := HCE.out (w2.drewN q) (below_drewN HB2.out q) i x hx
      obtain ⟨b1, o1, u1, rfl, -, hu1, k1⟩ := HRK.out.at1 hlt
      obtain rfl : u1 = Value.bool kb := by rw [List.getElem?_map, hkb] at hu1; simpa using hu1.symm
      have HNX := Lib.hid (HAT.out i x hx)
      have HVX : Hid (∀ w' : World, Calls Try.prog 14 #[.string x] w' fun e w'' => e = .returned (.bool (keyB x.data.toList)) ∧ w' = w'') := fun w' => valid_any x w' (HT.out.short x (List.mem_of_getElem? hx))
      have i0 : (0 : Int) ≤ (i : Int) := by omega
      have i1 : (i : Int) < (n : Int) := by omega
      have j1 : (a : Int) ≤ 1000 := by omega
      have j2 : (b : Int) ≤ 1000 := by omega
      have hta := trues_at hkb
      have hac := (asc_at HNX.out hkb).1 HAI.out
      have HTX := HTI.out
      rw [hta] at HTX
      simp at k0 k1
      cases kb with
      | false =>
        have hta' : a + trues (K.drop (i + 1)) = T := by simpa using HTX
        have HTA := Lib.hid hta'
        have has' : asc (ns.drop (i + 1)) (K.drop (i + 1)) (num la) := by simpa using hac
        have HAS := Lib.hid has'
        clear hta' has'
        have HOKA := HLAO
        clear hta hac HTX hx hkb hu1
        by_cases hic : i < nc
        rotate_left
        · have d5 : decide ((i : Int) < (nc : Int)) = false := decide_eq_false (by omega)
          have d5' : decide (i < nc) = false := decide_eq_false hic
          have HPB : Hid (b + pick (ns.drop (i + 1)) (ch.drop (i + 1)) (num lb) ≤ T) := by
            have := HP.out
            rw [pick_at HNX.out, if_neg (by rintro ⟨g1, g2, g3⟩; rw [List.getElem?_eq_none (by rw [HCL.out]; omega)] at g1; cases g1)] at this
            exact this
          have HOKB := HLBO
          go_wp2_with fail
          go_roundw
          case rel => exact ⟨i + 1, a, b, la, lb, q, by omega, by omega, by omega, by go_num, rfl, rfl, rfl, rfl, HTA, HPB, HAS, HOKA, HOKB, by simp⟩
          case measure => simp [intOf]; omega
        have d5 : decide ((i : Int) < (nc : Int)) = true := decide_eq_true (by omega)
        have d5' : decide (i < nc) = true := decide_eq_true hic
        obtain ⟨cb, hcb⟩ : ∃ cb, ch[i]? = some cb := ⟨_, List.getElem?_eq_getElem (by rw [HCL.out]; exact hic)⟩
        have HCB := Lib.hid hcb
        obtain ⟨b3, o3, u3, rfl, -, hu3, g3⟩ := HRC.out.at1 hic
        obtain rfl : u3 = Value.bool cb := by rw [List.getElem?_map, hcb] at hu3; simpa using hu3.symm
        have i3 : (i : Int) < (nc : Int) := by omega
        clear hcb hu3 hic
        cases cb with
        | false =>
          have HPB : Hid (b + pick (ns.drop (i + 1)) (ch.drop (i + 1)) (num lb) ≤ T) := by
            have := HP.out
            rw [pick_at HNX.out, if_neg (by rintro ⟨g1, g2, g3⟩; rw [HCB.out] at g1; cases g1)] at this
            exact this
          have HOKB := HLBO
          go_wp2_with fail
          go_roundw
          case rel => exact ⟨i + 1, a, b, la, lb, q, by omega, by omega, by omega, by go_num, rfl, rfl, rfl, rfl, HTA, HPB, HAS, HOKA, HOKB, by simp⟩
          case measure => simp [intOf]; omega
        | true =>
          by_cases hxp : keyB x.data.toList = true
          rotate_left
          · have hxf : keyB x.data.toList = false := by simpa using hxp
            have HPB : Hid (b + pick (ns.drop (i + 1)) (ch.drop (i + 1)) (num lb) ≤ T) := by
              have := HP.out
              rw [pick_at HNX.out, if_neg (by rintro ⟨g1, g2, g3⟩; rw [num_no hxf] at g2; omega)] at this
              exact this
            have HOKB := HLBO
            have hv := HVX.out
            rw [hxf] at hv
            have HV := Lib.hid hv
            clear hv hxp hxf
            go_wp2_with fail
            refine (HV.out _).mono ?_
            rintro e w' ⟨rfl, rfl⟩
            go_wp2_with fail
            go_roundw
            case rel => exact ⟨i + 1, a, b, la, lb, q, by omega, by omega, by omega, by go_num, rfl, rfl, rfl, rfl, HTA, HPB, HAS, HOKA, HOKB, by simp⟩
            case measure => simp [intOf]; omega
          have hv := HVX.out
          rw [hxp] at hv
          have HV := Lib.hid hv
          by_cases hlx : num lb < num x
          · have HPB : Hid (b + 1 + pick (ns.drop (i + 1)) (ch.drop (i + 1)) (num x) ≤ T) := by
              have := HP.out
              rw [pick_at HNX.out, if_pos ⟨HCB.out, (num_key hxp).2, hlx⟩] at this
              unfold Hid; omega
            have HOKB : Hid (x.data.toList = [] ∨ keyB x.data.toList = true) := .inr hxp
            obtain ⟨q1, q2⟩ := above_last hxp HLBO.out hlx
            have q3 : ¬ x.toList = lb.toList := by simpa using q2
            have hbT : b + 1 ≤ T := by have := HPB.out; omega
            clear hv hxp hlx
            go_wp2_with fail
            refine (HV.out _).mono ?_
            rintro e w' ⟨rfl, rfl⟩
            go_wp2_with fail
            go_quiet (fail)
            go_wp2_with fail
            go_roundw
            case rel => exact ⟨i + 1, a, b + 1, la, x, q + nq, by omega, by omega, by omega, by go_num, rfl, by go_num, rfl, rfl, HTA, HPB, HAS, HOKA, HOKB, by simp⟩
            case measure => simp [intOf]; omega
          · have hna := not_above_last hxp HLBO.out hlx
            have HPB : Hid (b + pick (ns.drop (i + 1)) (ch.drop (i + 1)) (num lb) ≤ T) := by
              have := HP.out
              rw [pick_at HNX.out, if_neg (by rintro ⟨g1, g2, g3⟩; exact hlx g3)] at this
              exact this
            have HOKB := HLBO
            clear hv hxp hlx
            rcases hna with q1 | ⟨q1, q2⟩
            · go_wp2_with fail
              refine (HV.out _).mono ?_
              rintro e w' ⟨rfl, rfl⟩
              go_wp2_with fail
              go_roundw
              case rel => exact ⟨i + 1, a, b, la, lb, q, by omega, by omega, by omega, by go_num, rfl, rfl, rfl, rfl, HTA, HPB, HAS, HOKA, HOKB, by simp⟩
              case measure => simp [intOf]; omega
            · have q3 : x.toList = lb.toList := by simpa using q2
              go_wp2_with fail
              refine (HV.out _).mono ?_
              rintro e w' ⟨rfl, rfl⟩
              go_wp2_with fail
              go_roundw
              case rel => exact ⟨i + 1, a, b, la, lb, q, by omega, by omega, by omega, by go_num, rfl, rfl, rfl, rfl, HTA, HPB, HAS, HOKA, HOKB, by simp⟩
              case measure => simp [intOf]; omega
      | true =>
        have HTA : Hid (a + 1 + trues (K.drop (i + 1)) = T) := by rw [if_pos rfl] at HTX; unfold Hid; omega
        rw [if_pos rfl] at hac
        have hxk : keyB x.data.toList = true := num_pos.1 (by omega)
        have HAS : Hid (asc (ns.drop (i + 1)) (K.drop (i + 1)) (num x)) := hac.2
        have HOKA : Hid (x.data.toList = [] ∨ keyB x.data.toList = true) := .inr hxk
        obtain ⟨p1, p2⟩ := above_last hxk HLAO.out hac.1
        have p3 : ¬ x.toList = la.toList := by simpa using p2
        have haT2 : a + 1 ≤ T := by have := HTA.out; omega
        have hv0 := HVX.out
        rw [hxk] at hv0
        have HV0 := Lib.hid hv0
        clear hta hac HTX hx hkb hu1 hxk hv0
        go_wp2_with fail
        refine (HV0.out _).mono ?_
        rintro e w' ⟨rfl, rfl⟩
        go_wp2_with fail
        go_quiet (fail)
        obtain ⟨nq1, rfl⟩ : ∃ k : Nat, k = nq := ⟨_, rfl⟩
        clear HV0 p1 p2 p3
        by_cases hic : i < nc
        rotate_left
        · have d5 : decide ((i : Int) < (nc : Int)) = false := decide_eq_false (by omega)
          have d5' : decide (i < nc) = false := decide_eq_false hic
          have HPB : Hid (b + pick (ns.drop (i + 1)) (ch.drop (i + 1)) (num lb) ≤ T) := by
            have := HP.out
            rw [pick_at HNX.out, if_neg (by rintro ⟨g1, g2, g3⟩; rw [List.getElem?_eq_none (by rw [HCL.out]; omega)] at g1; cases g1)] at this
            exact this
          have HOKB := HLBO
          go_wp2_with fail
          go_roundw
          case rel => exact ⟨i + 1, a + 1, b, x, lb, q + nq1, by omega, by omega, by omega, by go_num, by go_num, rfl, rfl, rfl, HTA, HPB, HAS, HOKA, HOKB, by simp⟩
          case measure => simp [intOf]; omega
        have d5 : decide ((i : Int) < (nc : Int)) = true := decide_eq_true (by omega)
        have d5' : decide (i < nc) = true := decide_eq_true hic
        obtain ⟨cb, hcb⟩ : ∃ cb, ch[i]? = some cb := ⟨_, List.getElem?_eq_getElem (by rw [HCL.out]; exact hic)⟩
        have HCB := Lib.hid hcb
        obtain ⟨b3, o3, u3, rfl, -, hu3, g3⟩ := HRC.out.at1 hic
        obtain rfl : u3 = Value.bool cb := by rw [List.getElem?_map, hcb] at hu3; simpa using hu3.symm
        have i3 : (i : Int) < (nc : Int) := by omega
        clear hcb hu3 hic
        cases cb with
        | false =>
          have HPB : Hid (b + pick (ns.drop (i + 1)) (ch.drop (i + 1)) (num lb) ≤ T) := by
            have := HP.out
            rw [pick_at HNX.out, if_neg (by rintro ⟨g1, g2, g3⟩; rw [HCB.out] at g1; cases g1)] at this
            exact this
          have HOKB := HLBO
          go_wp2_with fail
          go_roundw
          case rel => exact ⟨i + 1, a + 1, b, x, lb, q + nq1, by omega, by omega, by omega, by go_num, by go_num, rfl, rfl, rfl, HTA, HPB, HAS, HOKA, HOKB, by simp⟩
          case measure => simp [intOf]; omega
        | true =>
          by_cases hxp : keyB x.data.toList = true
          rotate_left
          · have hxf : keyB x.data.toList = false := by simpa using hxp
            have HPB : Hid (b + pick (ns.drop (i + 1)) (ch.drop (i + 1)) (num lb) ≤ T) := by
              have := HP.out
              rw [pick_at HNX.out, if_neg (by rintro ⟨g1, g2, g3⟩; rw [num_no hxf] at g2; omega)] at this
              exact this
            have HOKB := HLBO
            have hv := HVX.out
            rw [hxf] at hv
            have HV := Lib.hid hv
            clear hv hxp hxf
            go_wp2_with fail
            refine (HV.out _).mono ?_
            rintro e w' ⟨rfl, rfl⟩
            go_wp2_with fail
            go_roundw
            case rel => exact ⟨i + 1, a + 1, b, x, lb, q + nq1, by omega, by omega, by omega, by go_num, by go_num, rfl, rfl, rfl, HTA, HPB, HAS, HOKA, HOKB, by simp⟩
            case measure => simp [intOf]; omega
          have hv := HVX.out
          rw [hxp] at hv
          have HV := Lib.hid hv
          by_cases hlx : num lb < num x
          · have HPB : Hid (b + 1 + pick (ns.drop (i + 1)) (ch.drop (i + 1)) (num x) ≤ T) := by
              have := HP.out
              rw [pick_at HNX.out, if_pos ⟨HCB.out, (num_key hxp).2, hlx⟩] at this
              unfold Hid; omega
            have HOKB : Hid (x.data.toList = [] ∨ keyB x.data.toList = true) := .inr hxp
            obtain ⟨q1, q2⟩ := above_last hxp HLBO.out hlx
            have q3 : ¬ x.toList = lb.toList := by simpa using q2
            have hbT : b + 1 ≤ T := by have := HPB.out; omega
            clear hv hxp hlx
            go_wp2_with fail
            refine (HV.out _).mono ?_
            rintro e w' ⟨rfl, rfl⟩
            go_wp2_with fail
            go_quiet (fail)
            go_wp2_with fail
            go_roundw
            case rel => exact ⟨i + 1, a + 1, b + 1, x, x, q + nq1 + nq, by omega, by omega, by omega, by go_num, by go_num, by go_num, rfl, rfl, HTA, HPB, HAS, HOKA, HOKB, by simp⟩
            case measure => simp [intOf]; omega
          · have hna := not_above_last hxp HLBO.out hlx
            have HPB : Hid (b + pick (ns.drop (i + 1)) (ch.drop (i + 1)) (num lb) ≤ T) := by
              have := HP.out
              rw [pick_at HNX.out, if_neg (by rintro ⟨g1, g2, g3⟩; exact hlx g3)] at this
              exact this
            have HOKB := HLBO
            clear hv hxp hlx
            rcases hna with q1 | ⟨q1, q2⟩
            · go_wp2_with fail
              refine (HV.out _).mono ?_
              rintro e w' ⟨rfl, rfl⟩
              go_wp2_with fail
              go_roundw
              case rel => exact ⟨i + 1, a + 1, b, x, lb, q + nq1, by omega, by omega, by omega, by go_num, by go_num, rfl, rfl, rfl, HTA, HPB, HAS, HOKA, HOKB, by simp⟩
              case measure => simp [intOf]; omega
            · have q3 : x.toList = lb.toList := by simpa using q2
              go_wp2_with fail
              refine (HV.out _).mono ?_
              rintro e w' ⟨rfl, rfl⟩
              go_wp2_with fail
              go_roundw
              case rel => exact ⟨i + 1, a + 1, b, x, lb, q + nq1, by omega, by omega, by omega, by go_num, by go_num, rfl, rfl, rfl, HTA, HPB, HAS, HOKA, HOKB, by simp⟩
              case measure => simp [intOf]; omega
    · obtain rfl : i = n := by omega
      have hle : b ≤ a := by
        have h1 := HTI.out
        have h2 := HP.out
        rw [List.drop_eq_nil_of_le (by rw [HKL.out]; omega), trues] at h1
        omega
      have d6 : decide ((b : Int) ≤ (a : Int)) = true := decide_eq_true (by omega)
      have d6' : decide (b ≤ a) = true := decide_eq_true hle
      have HB9 : Hid (Below w.heap.size w (w2.drewN q)) := below_drewN HB2.out q
      go_wp2_with fail
      refine (awake_any _).mono ?_
      rintro e w8 ⟨rfl, hb8⟩
      have HB8 := Lib.hid (HB9.out.trans (hb8.mono HB9.out.size))
      clear hb8
      go_wp2_with fail
      go_ret
      exact ⟨rfl, HB8.out⟩

theorem own : ownKnob Try.prog.godebug = none := by kernel_rfl
theorem laidOut : laidOutB Try.prog = true := by kernel_rfl
theorem specN (H : Type) (ds : List (DataW H)) (h : ds.length = 2) : Rows.positionFewestSpec.fn H (ds ++ []) = { results := [.lit (.bool true)], args := ds } := by
  match ds, h with
  | [_, _], _ => rfl

set_option maxRecDepth 100000 in
theorem lifted (os : Os) (started : os.Started) (H : Type) (enc : TypeId × Value → H) :
    ReturnsInHanded {} Try.checked os 8 .any (Rows.positionFewestSpec.pre6 enc Try.prog Try.f8 Rows.positionFewestRow.domain false) (Rows.positionFewestSpec.post enc Try.prog Try.f8 false true false false) := by
  refine law_of_walk (C := Try.checked) own started (by kernel_rfl) Try.func8 rfl rfl Try.underlying4 laidOut (by kernel_rfl) (fun ds h => specN H ds (h.trans (by kernel_rfl)))
    (ChangeSpec.witness6 (enc := enc) (C := Try.checked) false ⟨#[], #[.slice none 0 0, .slice none 0 0], []⟩ 8 (by kernel_rfl) (by kernel_rfl) (by kernel_rfl) (by kernel_rfl)) ?_
  intro W base args ds p hval hA hsz
  have hval' : ∀ (j : Nat) t v, Try.f8.params[j]? = some t → args[j]? = some v → Value.okWide Try.prog W .any base t v := hval
  rw [Try.params8] at hval' hA hsz
  obtain ⟨v0, vs0, d0, ds0, p0, q0, hargs, rfl, rfl, h0, r0⟩ := trodAll_cons hA
  obtain ⟨v1, vs1, d1, ds1, p1, q1, rfl, rfl, rfl, h1, r1⟩ := trodAll_cons r0
  obtain ⟨rfl, rfl, rfl⟩ := trodAll_nil r1
  obtain rfl : args = #[v0, v1] := by cases args; simp_all
  obtain ⟨a0, len0, cap0, rfl⟩ := okWide_slice Try.underlying28 (hval' 0 28 v0 rfl rfl)
  obtain ⟨fu0, hf0⟩ := h0
  obtain ⟨hc0, hl0, xs0, rfl, hr0, hb0⟩ := open_txts Try.underlying28 Try.underlying9 (by kernel_rfl) hf0 (sm_arg hsz (j := 0) rfl rfl)
  have hb9 : Try.prog.bytesOf 9 = 16 := by kernel_rfl
  rw [hb9] at hl0
  obtain ⟨a1, len1, cap1, rfl⟩ := okWide_slice Try.underlying34 (hval' 1 34 v1 rfl rfl)
  obtain ⟨fu1, hf1⟩ := h1
  obtain ⟨hc1, hl1, bs1, rfl, hr1⟩ := open_boolsS Try.underlying34 Try.underlying4 (by kernel_rfl) (of_decide_eq_true (by kernel_rfl)) hf1 (sm_arg hsz (j := 1) rfl rfl)
  exact walk a0 a1 cap0 cap1 xs0 bs1 W hr0 (by omega) hb0 hr1 hl1

theorem proved : Rows.PositionFewestSaid :=
  OpenClaim.holds_of_wide 8 Try.f8 rfl rfl rfl rfl rfl rfl rfl ⟨rfl, rfl, rfl, rfl, rfl⟩ rfl rfl rfl rfl rfl (by kernel_rfl) Try.func8 (by kernel_rfl)
    (of_decide_eq_true (by kernel_rfl)) (by unfold Func.isWrapper; first | (rw [if_pos (by decide +kernel)]; kernel_rfl) | (rw [if_neg (by decide +kernel)]; exact ⟨rfl, rfl⟩))
    (fun os started H enc _ => lifted os started H enc)
end Go.Proofs.Ytikabbpipdekfaa.positionFewest
