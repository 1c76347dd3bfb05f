/-
  PositionInside: for every input the law returns true, and its arguments are as they were. No condition beside the given statement's own.
-/
import Derived.Test.YtikabbpipdekfaaPsX
namespace Go.Proofs.Ytikabbpipdekfaa.positionInside
open Go.ChangeShapes Go.WideShapes Go.ChangeAt Go.RowKit
open Go.ChangeMaps (open_string shut_string)
set_option linter.unusedVariables false

/-- what is found is a key, and lies between -/
theorem found {lo hi a : List UInt8} (h : BIs lo hi a 0) : Key a ∧ (lo = [] ∨ (Key lo ∧ lo < a)) ∧ (hi = [] ∨ (Key hi ∧ a < hi)) ∧ BRes (W lo) (top hi) a 0 ∧ W lo < W a ∧ W a < top hi ∧ (lo = [] ∨ keyB lo = true) ∧ (hi = [] ∨ keyB hi = true) ∧ (lo = [] ∨ hi = [] ∨ lo < hi) := by
  unfold BIs at h
  split at h
  · cases h.2
  · rename_i hc
    have hlo : lo = [] ∨ keyB lo = true := by
      cases hb : keyB lo with
      | true => exact .inr rfl
      | false =>
        by_cases e : lo = []
        · exact .inl e
        · exact absurd (.inl ⟨e, hb⟩) hc
    have hhi : hi = [] ∨ keyB hi = true := by
      cases hb : keyB hi with
      | true => exact .inr rfl
      | false =>
        by_cases e : hi = []
        · exact .inl e
        · exact absurd (.inr ⟨e, hb⟩) hc
    split at h
    · cases h.2
    · rename_i hd
      have hord : lo = [] ∨ hi = [] ∨ lo < hi := by
        by_cases e1 : lo = []
        · exact .inl e1
        · by_cases e2 : hi = []
          · exact .inr (.inl e2)
          · by_cases l : lo < hi
            · exact .inr (.inr l)
            · exact absurd ⟨e1, e2, l⟩ hd
      have htop : top hi ≤ Bn 0 := by
        unfold top
        split
        · exact Nat.le_refl _
        · rename_i hn
          exact Nat.le_of_lt (W_lt (keyB_iff.1 (hhi.resolve_left hn)).lets)
      obtain ⟨k, w1, w2⟩ := BRes.key (H := top hi) h htop
      refine ⟨k, ?_, ?_, h, w1, w2, hlo, hhi, hord⟩
      · rcases hlo with e | e
        · exact .inl e
        · have kl := keyB_iff.1 e
          exact .inr ⟨kl, (W_lt_iff kl.lets kl.len k.lets k.len k.fin).2 w1⟩
      · rcases hhi with e | e
        · exact .inl e
        · have kh := keyB_iff.1 e
          refine .inr ⟨kh, (W_lt_iff k.lets k.len kh.lets kh.len kh.fin).2 ?_⟩
          unfold top at w2
          rw [if_neg kh.pos] at w2
          exact w2
theorem W_empty : W [] = 0 := V_nil 60
theorem top_mod {hi : List UInt8} (h : hi.length < 60) : top hi % 26 = 0 := by
  unfold top
  split
  · decide +kernel
  · exact W_mod h
/-- between a key that was found and the two there are keys again -/
theorem again {lo hi a b c : List UInt8} {f g : Int} (h : BIs lo hi a 0) (hb : BIs lo a b f) (hc : BIs a hi c g) (h1 : a.length < 60) (h2 : lo.length < 60) (h3 : hi.length < 60) : f = 0 ∧ g = 0 ∧ b < a ∧ a < c := by
  obtain ⟨ka, dl, dh, -, w1, w2, hlo, hhi, -⟩ := found h
  have kab : keyB a = true := keyB_iff.2 ka
  have hf : BRes (W lo) (top a) b f := by
    unfold BIs at hb
    rw [if_neg, if_neg] at hb
    · exact hb
    · rintro ⟨e1, -, e3⟩
      exact e3 (dl.resolve_left e1).2
    · rintro (⟨e1, e2⟩ | ⟨-, e2⟩)
      · rw [hlo.resolve_left e1] at e2; cases e2
      · rw [kab] at e2; cases e2
  have hg : BRes (W a) (top hi) c g := by
    unfold BIs at hc
    rw [if_neg, if_neg] at hc
    · exact hc
    · rintro ⟨-, e2, e3⟩
      exact e3 (dh.resolve_left e2).2
    · rintro (⟨-, e2⟩ | ⟨e1, e2⟩)
      · rw [kab] at e2; cases e2
      · rw [hhi.resolve_left e1] at e2; cases e2
  have hta : top a = W a := if_neg ka.pos
  have htl : top a ≤ Bn 0 := by rw [hta]; exact Nat.le_of_lt (W_lt ka.lets)
  have hth : top hi ≤ Bn 0 := by
    unfold top
    split
    · exact Nat.le_refl _
    · rename_i hn
      exact Nat.le_of_lt (W_lt (keyB_iff.1 (hhi.resolve_left hn)).lets)
  obtain rfl := hf.room htl (W_mod h2) (by rw [hta]; exact W_mod h1) (by rw [hta]; exact w1)
  obtain rfl := hg.room hth (W_mod h1) (top_mod h3) w2
  obtain ⟨kb, -, b2⟩ := hf.key htl
  obtain ⟨kc, c1, -⟩ := hg.key hth
  rw [hta] at b2
  exact ⟨rfl, rfl, (W_lt_iff kb.lets kb.len ka.lets ka.len ka.fin).2 b2, (W_lt_iff ka.lets ka.len kc.lets kc.len kc.fin).2 c1⟩
theorem none_ {lo hi a : List UInt8} {x : Int} (h : BIs lo hi a x) (hx : x ≠ 0) : a = [] := by
  unfold BIs at h
  split at h
  · exact h.1
  · split at h
    · exact h.1
    · rcases h with ⟨h, -⟩ | ⟨-, h, -⟩
      · exact absurd h hx
      · exact h
set_option maxRecDepth 100000 in
set_option maxHeartbeats 3200000 in
theorem walk (lo hi : ByteArray) (w : World) (hs : lo.size ≤ 140737488351232) (hs2 : hi.size ≤ 140737488351232) : Calls Try.prog 6 #[.string lo, .string hi] w (Ret w (.bool true)) := by
  have HA := Lib.hid (fun w' : World => between_any lo hi w' hs hs2)
  go_enter Try.func6, Try.ntmps6
  go_wp2_with fail
  refine (HA.out _).mono ?_
  rintro e w1 ⟨hb1, a, x, rfl, hbi⟩
  have HB1 := Lib.hid hb1
  have HI := Lib.hid hbi
  clear hb1 hbi
  by_cases hx : x = 0
  rotate_left
  · have ha : a.toList = [] := toList_nil.2 (none_ HI.out hx)
    have e1 : (x != 0) = true := by simpa using hx
    have e1' : (x == 0) = false := by simpa using hx
    clear hx
    go_wp2_with fail
    refine (awake_any _).mono ?_
    rintro e w8 ⟨rfl, hb8⟩
    have HB8 := Lib.hid (HB1.out.trans (hb8.mono HB1.out.size))
    clear hb8
    go_wp2_with fail
    go_ret
    exact ⟨rfl, HB8.out⟩
  subst hx
  have hfd := found HI.out
  obtain ⟨ka, dl, dh, -⟩ := hfd
  have HKA := Lib.hid ka
  have hza : a.size ≤ 60 := by rw [← size_data]; exact ka.len
  have hv := valid_any a w1 (by omega)
  unfold VldPost at hv
  rw [keyB_iff.2 ka] at hv
  have HV := Lib.hid hv
  have D1 : Hid (lo.toList = [] ∨ (¬ lo.toList = [] ∧ Op.bytesLess lo.toList a.toList = true)) := by
    by_cases e : lo.toList = []
    · exact .inl e
    · exact .inr ⟨e, by rw [less_iff]; exact decide_eq_true (dl.resolve_left (fun h => e (toList_nil.2 h))).2⟩
  have D2 : Hid (hi.toList = [] ∨ (¬ hi.toList = [] ∧ Op.bytesLess a.toList hi.toList = true)) := by
    by_cases e : hi.toList = []
    · exact .inl e
    · exact .inr ⟨e, by rw [less_iff]; exact decide_eq_true (dh.resolve_left (fun h => e (toList_nil.2 h))).2⟩
  have HAA := Lib.hid (fun w' : World => between_any lo a w' hs (by omega))
  have HAB := Lib.hid (fun w' : World => between_any a hi w' (by omega) hs2)
  clear ka dl dh hv
  go_upto_region 4 with fail
  go_cut [45] (fun v wx => v = .bool false ∧ w1 = wx)
  case first =>
    rcases D1.out with e1 | ⟨e1, l1⟩
    · rcases D2.out with e2 | ⟨e2, l2⟩
      · go_wp2_with fail
        refine (HV.out).mono ?_
        rintro e w' ⟨rfl, rfl⟩
        go_wp2_with fail
        go_meet
        exact ⟨rfl, rfl⟩
      · have e2' : hi.toList.isEmpty = false := by simpa using e2
        go_wp2_with fail
        refine (HV.out).mono ?_
        rintro e w' ⟨rfl, rfl⟩
        go_wp2_with fail
        go_meet
        exact ⟨rfl, rfl⟩
    · have e1' : lo.toList.isEmpty = false := by simpa using e1
      rcases D2.out with e2 | ⟨e2, l2⟩
      · go_wp2_with fail
        refine (HV.out).mono ?_
        rintro e w' ⟨rfl, rfl⟩
        go_wp2_with fail
        go_meet
        exact ⟨rfl, rfl⟩
      · have e2' : hi.toList.isEmpty = false := by simpa using e2
        go_wp2_with fail
        refine (HV.out).mono ?_
        rintro e w' ⟨rfl, rfl⟩
        go_wp2_with fail
        go_meet
        exact ⟨rfl, rfl⟩
  case rest =>
    obtain ⟨rfl, rfl⟩ := hcut
    go_wp2_with fail
    refine (HAA.out _).mono ?_
    rintro e w2 ⟨hb2, b, y, rfl, hbb⟩
    have HB2 := Lib.hid (HB1.out.trans (hb2.mono HB1.out.size))
    have HBB := Lib.hid hbb
    clear hb2 hbb
    go_wp2_with fail
    refine (HAB.out _).mono ?_
    rintro e w3 ⟨hb3, c, z, rfl, hbc⟩
    have HB3 := Lib.hid (HB2.out.trans (hb3.mono HB2.out.size))
    have HBC := Lib.hid hbc
    clear hb3 hbc
    by_cases g1 : a.size < 60
    rotate_left
    · have d1 : decide ((a.size : Int) < 60) = false := decide_eq_false (by omega)
      go_wp2_with fail
      refine (awake_any _).mono ?_
      rintro e w8 ⟨rfl, hb8⟩
      have HB8 := Lib.hid (HB3.out.trans (hb8.mono HB3.out.size))
      clear hb8
      go_wp2_with fail
      go_ret
      exact ⟨rfl, HB8.out⟩
    have d1 : decide ((a.size : Int) < 60) = true := decide_eq_true (by omega)
    by_cases g2 : lo.size < 60
    rotate_left
    · have d2 : decide ((lo.size : Int) < 60) = false := decide_eq_false (by omega)
      go_wp2_with fail
      refine (awake_any _).mono ?_
      rintro e w8 ⟨rfl, hb8⟩
      have HB8 := Lib.hid (HB3.out.trans (hb8.mono HB3.out.size))
      clear hb8
      go_wp2_with fail
      go_ret
      exact ⟨rfl, HB8.out⟩
    have d2 : decide ((lo.size : Int) < 60) = true := decide_eq_true (by omega)
    by_cases g3 : hi.size < 60
    rotate_left
    · have d3 : decide ((hi.size : Int) < 60) = false := decide_eq_false (by omega)
      go_wp2_with fail
      refine (awake_any _).mono ?_
      rintro e w8 ⟨rfl, hb8⟩
      have HB8 := Lib.hid (HB3.out.trans (hb8.mono HB3.out.size))
      clear hb8
      go_wp2_with fail
      go_ret
      exact ⟨rfl, HB8.out⟩
    have d3 : decide ((hi.size : Int) < 60) = true := decide_eq_true (by omega)
    obtain ⟨rfl, rfl, l1, l2⟩ := again HI.out HBB.out HBC.out (by rw [size_data]; exact g1) (by rw [size_data]; exact g2) (by rw [size_data]; exact g3)
    have b1 : Op.bytesLess b.toList a.toList = true := by rw [less_iff]; exact decide_eq_true l1
    have b2 : Op.bytesLess a.toList c.toList = true := by rw [less_iff]; exact decide_eq_true l2
    clear l1 l2
    go_wp2_with fail
    refine (awake_any _).mono ?_
    rintro e w8 ⟨rfl, hb8⟩
    have HB8 := Lib.hid (HB3.out.trans (hb8.mono HB3.out.size))
    clear hb8
    go_wp2_with fail
    go_ret
    exact ⟨rfl, HB8.out⟩

theorem own : ownKnob Try.prog.godebug = none := by kernel_rfl
theorem laidOut : laidOutB Try.prog = true := by kernel_rfl
theorem specN (H : Type) (ds : List (DataW H)) (h : ds.length = 2) : Rows.positionInsideSpec.fn H (ds ++ []) = { results := [.lit (.bool true)], args := ds } := by
  match ds, h with
  | [_, _], _ => rfl

set_option maxRecDepth 100000 in
theorem lifted (os : Os) (started : os.Started) (H : Type) (enc : TypeId × Value → H) :
    ReturnsInHanded {} Try.checked os 6 .any (Rows.positionInsideSpec.pre6 enc Try.prog Try.f6 Rows.positionInsideRow.domain false) (Rows.positionInsideSpec.post enc Try.prog Try.f6 false true false false) := by
  refine law_of_walk (C := Try.checked) own started (by kernel_rfl) Try.func6 rfl rfl Try.underlying4 laidOut (by kernel_rfl) (fun ds h => specN H ds (h.trans (by kernel_rfl)))
    (ChangeSpec.witness6 (enc := enc) (C := Try.checked) false ⟨#[], #[.string ByteArray.empty, .string ByteArray.empty], []⟩ 8 (by kernel_rfl) (by kernel_rfl) (by kernel_rfl) (by kernel_rfl)) ?_
  intro W base args ds p hval hA hsz
  have hval' : ∀ (j : Nat) t v, Try.f6.params[j]? = some t → args[j]? = some v → Value.okWide Try.prog W .any base t v := hval
  rw [Try.params6] at hval' hA hsz
  obtain ⟨v0, vs0, d0, ds0, p0, q0, hargs, rfl, rfl, h0, r0⟩ := trodAll_cons hA
  obtain ⟨v1, vs1, d1, ds1, p1, q1, rfl, rfl, rfl, h1, r1⟩ := trodAll_cons r0
  obtain ⟨rfl, rfl, rfl⟩ := trodAll_nil r1
  obtain rfl : args = #[v0, v1] := by cases args; simp_all
  obtain ⟨s0, rfl, rfl, rfl, w0⟩ := open_string Try.underlying9 (hval' 0 9 v0 rfl rfl) h0
  have z0 := sm_str (sm_arg hsz (j := 0) (t := 9) rfl rfl)
  rw [size_data] at z0
  obtain ⟨s1, rfl, rfl, rfl, w1⟩ := open_string Try.underlying9 (hval' 1 9 v1 rfl rfl) h1
  have z1 := sm_str (sm_arg hsz (j := 1) (t := 9) rfl rfl)
  rw [size_data] at z1
  exact walk s0 s1 W z0 z1

theorem proved : Rows.PositionInsideSaid :=
  OpenClaim.holds_of_wide 6 Try.f6 rfl rfl rfl rfl rfl rfl rfl ⟨rfl, rfl, rfl, rfl, rfl⟩ rfl rfl rfl rfl rfl (by kernel_rfl) Try.func6 (by kernel_rfl)
    (of_decide_eq_true (by kernel_rfl)) (by unfold Func.isWrapper; first | (rw [if_pos (by decide +kernel)]; kernel_rfl) | (rw [if_neg (by decide +kernel)]; exact ⟨rfl, rfl⟩))
    (fun os started H enc _ => lifted os started H enc)
end Go.Proofs.Ytikabbpipdekfaa.positionInside
