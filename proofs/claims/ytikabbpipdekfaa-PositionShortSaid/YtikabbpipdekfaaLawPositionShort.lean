/-
  PositionShort: for every input the law returns true, and its arguments are as they were. No condition beside the given statement's own.
-/
import Derived.Test.YtikabbpipdekfaaPsX
namespace Go.Proofs.Ytikabbpipdekfaa.positionShort
open Go.ChangeShapes Go.WideShapes Go.ChangeAt Go.RowKit
open Go.ChangeMaps (open_string shut_string)
set_option linter.unusedVariables false

/-- the key lies between the two -/
theorem between_short {lo hi key : ByteArray} {t : List UInt8} {x : Int} (h : BIs lo.data.toList hi.data.toList t x) (hk : keyB key.data.toList = true) (h1 : lo.toList = [] ∨ lo.data.toList < key.data.toList) (h2 : hi.toList = [] ∨ key.data.toList < hi.data.toList) : x = 5 ∨ (x = 0 ∧ t.length ≤ key.size) := by
  have kk := keyB_iff.1 hk
  unfold BIs at h
  split at h
  · exact .inl h.2
  · rename_i hc
    have hlo : lo.data.toList = [] ∨ keyB lo.data.toList = true := by
      cases hb : keyB lo.data.toList with
      | true => exact .inr rfl
      | false =>
        by_cases e : lo.data.toList = []
        · exact .inl e
        · exact absurd (.inl ⟨e, hb⟩) hc
    have hhi : hi.data.toList = [] ∨ keyB hi.data.toList = true := by
      cases hb : keyB hi.data.toList with
      | true => exact .inr rfl
      | false =>
        by_cases e : hi.data.toList = []
        · exact .inl e
        · exact absurd (.inr ⟨e, hb⟩) hc
    have hwl : W lo.data.toList < W key.data.toList := by
      have := (num_lt hlo hk).1 (by
        rcases h1 with h1 | h1
        · rw [toList_nil.1 h1]
          cases hh : key.data.toList with
          | nil => exact absurd hh kk.pos
          | cons c r => exact List.nil_lt_cons c r
        · exact h1)
      rw [(num_key hk).1] at this
      rcases hlo with hlo | hlo
      · rw [hlo]; show V 60 [] < _; rw [V_nil]; exact W_pos kk
      · rw [(num_key hlo).1] at this; exact this
    have hwh : W key.data.toList < (if hi.data.toList = [] then Bn 0 else W hi.data.toList) := by
      split
      · exact W_lt kk.lets
      · rename_i hne
        have hkh := hhi.resolve_left hne
        have h2' := h2.resolve_left (fun e => hne (toList_nil.1 e))
        have := (num_lt (.inr hk) hkh).1 h2'
        rw [(num_key hk).1, (num_key hkh).1] at this
        exact this
    split at h
    · rename_i hd
      exfalso
      have hklo := hlo.resolve_left hd.1
      have hkhi := hhi.resolve_left hd.2.1
      rw [if_neg hd.2.1] at hwh
      apply hd.2.2
      rw [num_lt (.inr hklo) hkhi, (num_key hklo).1, (num_key hkhi).1]
      omega
    · have := h.short kk hwl hwh
      rw [size_data] at this
      exact .inr this
set_option maxRecDepth 100000 in
set_option maxHeartbeats 3200000 in
theorem walk (lo hi key : ByteArray) (w : World) (hs : lo.size ≤ 140737488351232) (hs2 : hi.size ≤ 140737488351232) (hs3 : key.size ≤ 140737488351232) : Calls Try.prog 7 #[.string lo, .string hi, .string key] w (Ret w (.bool true)) := by
  have HA := Lib.hid (fun w' : World => between_any lo hi w' hs hs2)
  have HV := Lib.hid (fun w' : World => valid_any key w' hs3)
  unfold VldPost at HV
  go_enter Try.func7, Try.ntmps7
  go_wp2_with fail
  refine (HA.out _).mono ?_
  rintro e w1 ⟨hb1, t, x, rfl, hbi⟩
  have HB1 := Lib.hid hb1
  have HI := Lib.hid hbi
  clear hb1 hbi
  cases hk : keyB key.data.toList with
  | false =>
    rw [hk] at HV
    clear hk
    go_wp2_with fail
    refine (HV.out _).mono ?_
    rintro e w' ⟨rfl, rfl⟩
    go_wp2_with fail
    refine (awake_any _).mono ?_
    rintro e w8 ⟨rfl, hb8⟩
    have HB8 := Lib.hid (HB1.out.trans (hb8.mono HB1.out.size))
    clear hb8
    go_wp2_with fail
    go_ret
    exact ⟨rfl, HB8.out⟩
  | true =>
    rw [hk] at HV
    have HK := Lib.hid hk
    clear hk
    by_cases c1 : ¬ lo.toList = [] ∧ ¬ lo.data.toList < key.data.toList
    · obtain ⟨e1, l1⟩ := c1
      have e1' : lo.toList.isEmpty = false := by simpa using e1
      have hbl : Op.bytesLess lo.toList key.toList = false := by rw [less_iff]; exact decide_eq_false l1
      clear l1
      go_wp2_with fail
      refine (HV.out _).mono ?_
      rintro e w' ⟨rfl, rfl⟩
      go_wp2_with fail
      refine (awake_any _).mono ?_
      rintro e w8 ⟨rfl, hb8⟩
      have HB8 := Lib.hid (HB1.out.trans (hb8.mono HB1.out.size))
      clear hb8
      go_wp2_with fail
      go_ret
      exact ⟨rfl, HB8.out⟩
    have g1 : lo.toList = [] ∨ lo.data.toList < key.data.toList := by
      by_cases e : lo.toList = []
      · exact .inl e
      · by_cases l : lo.data.toList < key.data.toList
        · exact .inr l
        · exact absurd ⟨e, l⟩ c1
    by_cases c2 : ¬ hi.toList = [] ∧ ¬ key.data.toList < hi.data.toList
    · obtain ⟨e2, l2⟩ := c2
      have e2' : hi.toList.isEmpty = false := by simpa using e2
      have hbl2 : Op.bytesLess key.toList hi.toList = false := by rw [less_iff]; exact decide_eq_false l2
      clear l2 c1
      by_cases e1 : lo.toList = []
      · clear g1
        go_wp2_with fail
        refine (HV.out _).mono ?_
        rintro e w' ⟨rfl, rfl⟩
        go_wp2_with fail
        refine (awake_any _).mono ?_
        rintro e w8 ⟨rfl, hb8⟩
        have HB8 := Lib.hid (HB1.out.trans (hb8.mono HB1.out.size))
        clear hb8
        go_wp2_with fail
        go_ret
        exact ⟨rfl, HB8.out⟩
      · have e1' : lo.toList.isEmpty = false := by simpa using e1
        have hbl : Op.bytesLess lo.toList key.toList = true := by rw [less_iff]; exact decide_eq_true (g1.resolve_left e1)
        clear g1
        go_wp2_with fail
        refine (HV.out _).mono ?_
        rintro e w' ⟨rfl, rfl⟩
        go_wp2_with fail
        refine (awake_any _).mono ?_
        rintro e w8 ⟨rfl, hb8⟩
        have HB8 := Lib.hid (HB1.out.trans (hb8.mono HB1.out.size))
        clear hb8
        go_wp2_with fail
        go_ret
        exact ⟨rfl, HB8.out⟩
    have g2 : hi.toList = [] ∨ key.data.toList < hi.data.toList := by
      by_cases e : hi.toList = []
      · exact .inl e
      · by_cases l : key.data.toList < hi.data.toList
        · exact .inr l
        · exact absurd ⟨e, l⟩ c2
    have hsh := between_short HI.out HK.out g1 g2
    rw [size_data] at hsh
    have g1' : lo.toList = [] ∨ (¬ lo.toList = [] ∧ Op.bytesLess lo.toList key.toList = true) := by
      by_cases e : lo.toList = []
      · exact .inl e
      · exact .inr ⟨e, by rw [less_iff]; exact decide_eq_true (g1.resolve_left e)⟩
    have g2' : hi.toList = [] ∨ (¬ hi.toList = [] ∧ Op.bytesLess key.toList hi.toList = true) := by
      by_cases e : hi.toList = []
      · exact .inl e
      · exact .inr ⟨e, by rw [less_iff]; exact decide_eq_true (g2.resolve_left e)⟩
    clear c1 c2 g1 g2
    rcases g1' with e1 | ⟨e1, hbl⟩
    · rcases g2' with e2 | ⟨e2, hbl2⟩
      · rcases hsh with rfl | ⟨rfl, hle⟩
        · go_wp2_with fail
          refine (HV.out _).mono ?_
          rintro e w' ⟨rfl, rfl⟩
          go_wp2_with fail
          refine (awake_any _).mono ?_
          rintro e w8 ⟨rfl, hb8⟩
          have HB8 := Lib.hid (HB1.out.trans (hb8.mono HB1.out.size))
          clear hb8
          go_wp2_with fail
          go_ret
          exact ⟨rfl, HB8.out⟩
        · have d9 : decide (t.size ≤ key.size) = true := decide_eq_true hle
          have d9' : decide ((t.size : Int) ≤ (key.size : Int)) = true := decide_eq_true (by omega)
          go_wp2_with fail
          refine (HV.out _).mono ?_
          rintro e w' ⟨rfl, rfl⟩
          go_wp2_with fail
          refine (awake_any _).mono ?_
          rintro e w8 ⟨rfl, hb8⟩
          have HB8 := Lib.hid (HB1.out.trans (hb8.mono HB1.out.size))
          clear hb8
          go_wp2_with fail
          go_ret
          exact ⟨rfl, HB8.out⟩
      · have e2' : hi.toList.isEmpty = false := by simpa using e2
        rcases hsh with rfl | ⟨rfl, hle⟩
        · go_wp2_with fail
          refine (HV.out _).mono ?_
          rintro e w' ⟨rfl, rfl⟩
          go_wp2_with fail
          refine (awake_any _).mono ?_
          rintro e w8 ⟨rfl, hb8⟩
          have HB8 := Lib.hid (HB1.out.trans (hb8.mono HB1.out.size))
          clear hb8
          go_wp2_with fail
          go_ret
          exact ⟨rfl, HB8.out⟩
        · have d9 : decide (t.size ≤ key.size) = true := decide_eq_true hle
          have d9' : decide ((t.size : Int) ≤ (key.size : Int)) = true := decide_eq_true (by omega)
          go_wp2_with fail
          refine (HV.out _).mono ?_
          rintro e w' ⟨rfl, rfl⟩
          go_wp2_with fail
          refine (awake_any _).mono ?_
          rintro e w8 ⟨rfl, hb8⟩
          have HB8 := Lib.hid (HB1.out.trans (hb8.mono HB1.out.size))
          clear hb8
          go_wp2_with fail
          go_ret
          exact ⟨rfl, HB8.out⟩
    · have e1' : lo.toList.isEmpty = false := by simpa using e1
      rcases g2' with e2 | ⟨e2, hbl2⟩
      · rcases hsh with rfl | ⟨rfl, hle⟩
        · go_wp2_with fail
          refine (HV.out _).mono ?_
          rintro e w' ⟨rfl, rfl⟩
          go_wp2_with fail
          refine (awake_any _).mono ?_
          rintro e w8 ⟨rfl, hb8⟩
          have HB8 := Lib.hid (HB1.out.trans (hb8.mono HB1.out.size))
          clear hb8
          go_wp2_with fail
          go_ret
          exact ⟨rfl, HB8.out⟩
        · have d9 : decide (t.size ≤ key.size) = true := decide_eq_true hle
          have d9' : decide ((t.size : Int) ≤ (key.size : Int)) = true := decide_eq_true (by omega)
          go_wp2_with fail
          refine (HV.out _).mono ?_
          rintro e w' ⟨rfl, rfl⟩
          go_wp2_with fail
          refine (awake_any _).mono ?_
          rintro e w8 ⟨rfl, hb8⟩
          have HB8 := Lib.hid (HB1.out.trans (hb8.mono HB1.out.size))
          clear hb8
          go_wp2_with fail
          go_ret
          exact ⟨rfl, HB8.out⟩
      · have e2' : hi.toList.isEmpty = false := by simpa using e2
        rcases hsh with rfl | ⟨rfl, hle⟩
        · go_wp2_with fail
          refine (HV.out _).mono ?_
          rintro e w' ⟨rfl, rfl⟩
          go_wp2_with fail
          refine (awake_any _).mono ?_
          rintro e w8 ⟨rfl, hb8⟩
          have HB8 := Lib.hid (HB1.out.trans (hb8.mono HB1.out.size))
          clear hb8
          go_wp2_with fail
          go_ret
          exact ⟨rfl, HB8.out⟩
        · have d9 : decide (t.size ≤ key.size) = true := decide_eq_true hle
          have d9' : decide ((t.size : Int) ≤ (key.size : Int)) = true := decide_eq_true (by omega)
          go_wp2_with fail
          refine (HV.out _).mono ?_
          rintro e w' ⟨rfl, rfl⟩
          go_wp2_with fail
          refine (awake_any _).mono ?_
          rintro e w8 ⟨rfl, hb8⟩
          have HB8 := Lib.hid (HB1.out.trans (hb8.mono HB1.out.size))
          clear hb8
          go_wp2_with fail
          go_ret
          exact ⟨rfl, HB8.out⟩

theorem own : ownKnob Try.prog.godebug = none := by kernel_rfl
theorem laidOut : laidOutB Try.prog = true := by kernel_rfl
theorem specN (H : Type) (ds : List (DataW H)) (h : ds.length = 3) : Rows.positionShortSpec.fn H (ds ++ []) = { results := [.lit (.bool true)], args := ds } := by
  match ds, h with
  | [_, _, _], _ => rfl

set_option maxRecDepth 100000 in
theorem lifted (os : Os) (started : os.Started) (H : Type) (enc : TypeId × Value → H) :
    ReturnsInHanded {} Try.checked os 7 .any (Rows.positionShortSpec.pre6 enc Try.prog Try.f7 Rows.positionShortRow.domain false) (Rows.positionShortSpec.post enc Try.prog Try.f7 false true false false) := by
  refine law_of_walk (C := Try.checked) own started (by kernel_rfl) Try.func7 rfl rfl Try.underlying4 laidOut (by kernel_rfl) (fun ds h => specN H ds (h.trans (by kernel_rfl)))
    (ChangeSpec.witness6 (enc := enc) (C := Try.checked) false ⟨#[], #[.string ByteArray.empty, .string ByteArray.empty, .string ByteArray.empty], []⟩ 8 (by kernel_rfl) (by kernel_rfl) (by kernel_rfl) (by kernel_rfl)) ?_
  intro W base args ds p hval hA hsz
  have hval' : ∀ (j : Nat) t v, Try.f7.params[j]? = some t → args[j]? = some v → Value.okWide Try.prog W .any base t v := hval
  rw [Try.params7] at hval' hA hsz
  obtain ⟨v0, vs0, d0, ds0, p0, q0, hargs, rfl, rfl, h0, r0⟩ := trodAll_cons hA
  obtain ⟨v1, vs1, d1, ds1, p1, q1, rfl, rfl, rfl, h1, r1⟩ := trodAll_cons r0
  obtain ⟨v2, vs2, d2, ds2, p2, q2, rfl, rfl, rfl, h2, r2⟩ := trodAll_cons r1
  obtain ⟨rfl, rfl, rfl⟩ := trodAll_nil r2
  obtain rfl : args = #[v0, v1, v2] := by cases args; simp_all
  obtain ⟨s0, rfl, rfl, rfl, w0⟩ := open_string Try.underlying9 (hval' 0 9 v0 rfl rfl) h0
  have z0 := sm_str (sm_arg hsz (j := 0) (t := 9) rfl rfl)
  rw [size_data] at z0
  obtain ⟨s1, rfl, rfl, rfl, w1⟩ := open_string Try.underlying9 (hval' 1 9 v1 rfl rfl) h1
  have z1 := sm_str (sm_arg hsz (j := 1) (t := 9) rfl rfl)
  rw [size_data] at z1
  obtain ⟨s2, rfl, rfl, rfl, w2⟩ := open_string Try.underlying9 (hval' 2 9 v2 rfl rfl) h2
  have z2 := sm_str (sm_arg hsz (j := 2) (t := 9) rfl rfl)
  rw [size_data] at z2
  exact walk s0 s1 s2 W z0 z1 z2

theorem proved : Rows.PositionShortSaid :=
  OpenClaim.holds_of_wide 7 Try.f7 rfl rfl rfl rfl rfl rfl rfl ⟨rfl, rfl, rfl, rfl, rfl⟩ rfl rfl rfl rfl rfl (by kernel_rfl) Try.func7 (by kernel_rfl)
    (of_decide_eq_true (by kernel_rfl)) (by unfold Func.isWrapper; first | (rw [if_pos (by decide +kernel)]; kernel_rfl) | (rw [if_neg (by decide +kernel)]; exact ⟨rfl, rfl⟩))
    (fun os started H enc _ => lifted os started H enc)
end Go.Proofs.Ytikabbpipdekfaa.positionShort
