/-
  DiskCopies: for every input the law returns true, and its arguments are as they were. No condition beside the given statement's own.
-/
import Derived.Test.YtgblcjoalgckkaaDkY
import Derived.Test.YtgblcjoalgckkaaDkZc
namespace Go.Proofs.Ytgblcjoalgckkaa.diskCopies
open Go.ChangeShapes Go.WideShapes Go.ChangeAt Go.RowKit
open Go.ChangeMaps (open_string shut_string)
set_option linter.unusedVariables false

theorem two_new {w w1 w2 : World} {d r : Nat} {M Mr : Nat → Prop} (h1 : DiskAt w1 d (newS 64) M (fun _ => False)) (hM : ∀ b, M b → w.heap.size ≤ b) (hb : Below w.heap.size w w1) (h2 : RefAt w2 r (newS 64) Mr (fun _ => False)) (hMr : ∀ b, Mr b → w1.heap.size ≤ b) (hb2 : Below w1.heap.size w1 w2) : Two w w2 d (newS 64) r (newS 64) := by
  have hd := h1.lt
  have hc : Chg w1 w2 (fun b => w1.heap.size ≤ b) := Chg.of_below hb2 (fun _ h => h)
  have hs := hb.size
  refine ⟨M, _, Mr, _, ⟨h1.chg hc (fun b hg hm => by have := hd b (.inl hm); omega) (fun b hg hm => hm), h2, fun b hm => ⟨fun hr => by have := hd b (.inl hm); have := hMr b hr; omega, fun hr => hr⟩, fun b _ hi => hi, fun b hm => ?_, hb.trans (hb2.mono hs)⟩⟩
  rcases hm with hm | hm
  · exact hM b hm
  · have := hMr b hm; omega
theorem sz_mem {xs : List ActX} {x : ActX} (h : x ∈ xs) : szA x ≤ sumA xs := by
  induction xs with
  | nil => cases h
  | cons y ys ih =>
    have e : sumA (y :: ys) = szA y + sumA ys := by unfold sumA; simp
    rcases List.mem_cons.1 h with rfl | h
    · omega
    · have := ih h; omega

theorem good_on {w w' : World} {x : ActX} (h : GoodAct w x) (hb : Below w.heap.size w w') : GoodAct w' x :=
  ⟨h.kind, h.at_, h.n, h.rb.up (Nat.le_refl _) hb, h.byt, h.rk.up (Nat.le_refl _) hb, h.lb, h.lk, h.cb⟩
theorem acts_on {w w' : World} {A : Option Addr} {n : Nat} {xs : List ActX} (h : Acts w A n xs) (hb : Below w.heap.size w w') : Acts w' A n xs :=
  ⟨h.len, (h.cells.below hb).more hb.size, fun x hx => good_on (h.good x hx) hb⟩
/-- the copies, apart from what they are copies of -/
theorem two_copy {w w3 w4 : World} {c r2 : Nat} {s : DS} {M2 I2 Mr2 Ir : Nat → Prop} (hd : DiskAt w3 c s M2 I2) (hM : ∀ b, M2 b → w.heap.size ≤ b) (hb3 : Below w.heap.size w w3) (hr : RefAt w4 r2 s Mr2 Ir) (hMr : ∀ b, Mr2 b → w3.heap.size ≤ b) (hb4 : Below w3.heap.size w3 w4) (hI : ∀ b, Ir b → b < w.heap.size) : Two w w4 c s r2 s := by
  have hl := hd.lt
  have hs := hb3.size
  have hc : Chg w3 w4 (fun b => w3.heap.size ≤ b) := Chg.of_below hb4 (fun _ h => h)
  refine ⟨M2, I2, Mr2, Ir, ⟨hd.chg hc (fun b hg hm => by have := hl b (.inl hm); omega) (fun b hg hm => by have := hl b (.inr hm); omega), hr, fun b hm => ⟨fun h => ?_, fun h => ?_⟩, fun b hm hi => ?_, fun b hb => ?_, hb3.trans (hb4.mono hs)⟩⟩
  · have := hl b (.inl hm); have := hMr b h; omega
  · have := hM b hm; have := hI b h; omega
  · have := hMr b hm; have := hl b (.inr hi); omega
  · rcases hb with hb | hb
    · exact hM b hb
    · have := hMr b hb; omega
set_option maxRecDepth 100000 in
set_option maxHeartbeats 6400000 in
theorem walk (A : Option Addr) (n c : Nat) (xs : List ActX) (A' : Option Addr) (n' c' : Nat) (ys : List ActX) (w : World) (hn : n ≤ 140737488351232) (h : Acts w A n xs) (hn' : n' ≤ 140737488351232) (h' : Acts w A' n' ys) :
    Calls Try.prog 7 #[.slice A n c, .slice A' n' c'] w fun e w' => e = .returned (.bool true) ∧ Below w.heap.size w w' := by
  have HS := Lib.hid (small_any A n c xs w hn h)
  have HS' := Lib.hid (fun q : Nat => small_any A' n' c' ys (w.drewN q) hn' (acts_on h' (below_drewN (Below.refl _ _) q)))
  have H := Lib.hid h
  have H' := Lib.hid h'
  have HL := Lib.hid h.len
  have HL' := Lib.hid h'.len
  clear h h'
  by_cases hsm : sumA xs ≤ 4000
  rotate_left
  · rw [decide_eq_false hsm] at HS
    clear hsm
    go_enter Try.func7, Try.ntmps7
    go_wp2_with fail
    refine (HS.out).mono ?_
    rintro e w1 ⟨rfl, q, rfl⟩
    have HBQ : Hid (Below w.heap.size w (w.drewN q)) := below_drewN (Below.refl _ w) q
    go_wp2_with fail
    refine (awake_any _).mono ?_
    rintro e w2 ⟨rfl, hb2⟩
    have HB2 : Hid (Below w.heap.size w w2) := HBQ.out.trans (hb2.mono HBQ.out.size)
    clear hb2
    go_wp2_with fail
    go_ret
    exact ⟨rfl, HB2.out⟩
  rw [decide_eq_true hsm] at HS
  have HSM := Lib.hid hsm
  clear hsm
  by_cases hsm' : sumA ys ≤ 4000
  rotate_left
  · rw [decide_eq_false hsm'] at HS'
    clear hsm'
    go_enter Try.func7, Try.ntmps7
    go_wp2_with fail
    refine (HS.out).mono ?_
    rintro e w1 ⟨rfl, q, rfl⟩
    go_wp2_with fail
    refine (HS'.out q).mono ?_
    rintro e w1 ⟨rfl, q', rfl⟩
    have HBQ : Hid (Below w.heap.size w (w.drewN (q + q'))) := below_drewN (Below.refl _ w) (q + q')
    go_wp2_with fail
    refine (awake_any _).mono ?_
    rintro e w2 ⟨rfl, hb2⟩
    have HB2 : Hid (Below w.heap.size w w2) := HBQ.out.trans (hb2.mono HBQ.out.size)
    clear hb2
    go_wp2_with fail
    go_ret
    exact ⟨rfl, HB2.out⟩
  rw [decide_eq_true hsm'] at HS'
  have HSM' := Lib.hid hsm'
  clear hsm'
  go_enter Try.func7, Try.ntmps7
  go_wp2_with fail
  refine (HS.out).mono ?_
  rintro e w1 ⟨rfl, q, rfl⟩
  go_wp2_with fail
  refine (HS'.out q).mono ?_
  rintro e w1 ⟨rfl, q', rfl⟩
  have HBQ : Hid (Below w.heap.size w (w.drewN (q + q'))) := below_drewN (Below.refl _ w) (q + q')
  have HN := Lib.hid (new_yes 64 (w.drewN (q + q')) (by omega) (by omega))
  go_wp2_with fail
  refine (HN.out).mono ?_
  rintro e w1 ⟨d, M, rfl, hd, hM, hb1⟩
  have HD1 := Lib.hid hd
  have HM1 := Lib.hid hM
  have HB1 := Lib.hid hb1
  have HRN := Lib.hid (rnew_yes 64 w1 (by omega) (by omega))
  clear hd hM hb1 HN
  go_wp2_with fail
  refine (HRN.out).mono ?_
  rintro e w2 ⟨r, Mr, rfl, hr, hMr, hb2⟩
  have HT0 := Lib.hid (two_new HD1.out HM1.out HB1.out hr hMr hb2)
  have HT : Hid (Two w w2 d (newS 64) r (newS 64)) := HT0.out.under HBQ.out
  clear hr hMr hb2 HRN HD1 HM1 HB1 HT0
  go_wp2_with fail
  go_loopw [9] (fun i wr => ∃ (k : Nat) (s : DS), k ≤ n ∧ k ≤ 30 ∧ i = .int .i64 (k : Int) ∧ Hid (Two w wr d s r s)) (fun i _ => n - (intOf i).toNat)
  case atStart => exact ⟨0, _, by omega, by omega, rfl, HT⟩
  case round =>
    obtain ⟨k, s, hk, hk2, rfl, HTk⟩ := hrel
    by_cases hlt : k < n ∧ k < 30
    · obtain ⟨hlt, hl2⟩ := hlt
      have d1 : decide (k < n) = true := by simpa using hlt
      have d2 : decide ((k : Int) < 30) = true := by simp; omega
      obtain ⟨x, hx⟩ : ∃ x, xs[k]? = some x := ⟨_, List.getElem?_eq_getElem (by rw [HL.out]; exact hlt)⟩
      obtain ⟨ab, ao, rfl, hab, c0, c1, c2, c3, c4⟩ := acts_at H.out hx
      have hmem := List.mem_of_getElem? hx
      have HG := Lib.hid (H.out.good x hmem)
      have hsz := sz_mem hmem
      have HSZ : Hid (x.bs.length ≤ 4000 ∧ x.ks.length ≤ 4000) := by have := HSM.out; unfold szA at hsz; exact ⟨by omega, by omega⟩
      have hbe := HTk.out.bel
      have k0 := (hbe.cell (p := ⟨ab, ao + k * 5, none⟩) hab).trans c0
      have k1 := (hbe.cell (p := ⟨ab, ao + k * 5 + 1, none⟩) hab).trans c1
      have k2 := (hbe.cell (p := ⟨ab, ao + k * 5 + 2, none⟩) hab).trans c2
      have k3 := (hbe.cell (p := ⟨ab, ao + k * 5 + 3, none⟩) hab).trans c3
      have k4 := (hbe.cell (p := ⟨ab, ao + k * 5 + 4, none⟩) hab).trans c4
      have HP := Lib.hid (play_any d r x s w _ HTk.out HG.out HSZ.out.1 HSZ.out.2)
      clear hbe hsz hmem hx c0 c1 c2 c3 c4
      go_wp2_with fail
      refine (HP.out).mono ?_
      rintro e w3 ⟨rfl, h3⟩
      have H3 := Lib.hid h3
      clear h3 HP
      go_wp2_with fail
      go_roundw
      case rel => exact ⟨k + 1, _, by omega, by omega, by go_num, H3⟩
      case measure => simp [intOf]; omega
    · obtain ⟨wq, rfl⟩ : ∃ wq : World, wq = wr := ⟨_, rfl⟩
      obtain ⟨M, I, Mr, Ir, htx⟩ := HTk.out
      have HTX := Lib.hid htx
      have HCP := Lib.hid (copy_any d s M I wq htx.disk)
      have HH' := Lib.hid (acts_on H'.out HTk.out.bel)
      clear htx
      have hc : (decide (k < n) = true ∧ decide ((k : Int) < 30) = false) ∨ decide (k < n) = false := by
        by_cases h1 : k < n
        · exact .inl ⟨decide_eq_true h1, decide_eq_false (by omega)⟩
        · exact .inr (decide_eq_false h1)
      rcases hc with ⟨d1, d2⟩ | d1
      all_goals
        clear hlt
        go_wp2_with fail
        refine (HCP.out).mono ?_
        rintro e w3 ⟨dc, M2, I2, rfl, hd2, hM2, hI2, hb3⟩
        have HRP := Lib.hid (rcopy_any r s Mr Ir w3 (HTX.out.on hb3).ref)
        have HD2 := Lib.hid hd2
        have HM2 := Lib.hid hM2
        have HB3 := Lib.hid hb3
        clear hd2 hM2 hI2 hb3 HCP
        go_wp2_with fail
        refine (HRP.out).mono ?_
        rintro e w4 ⟨r2, Mr2, rfl, hr2, hMr2, hb4⟩
        have HT1 : Hid (Two wq w4 dc s r2 s) := two_copy HD2.out HM2.out HB3.out hr2 hMr2 hb4 (fun b hb => HTX.out.ref.lt b (.inr hb))
        clear hr2 hMr2 hb4 HRP HD2 HM2 HB3 d1
        try clear d2
        go_wp2_with fail
        go_loopw [12] (fun i wz => ∃ (m : Nat) (t : DS), m ≤ n' ∧ m ≤ 30 ∧ i = .int .i64 (m : Int) ∧ Hid (Two wq wz dc t r2 t)) (fun i _ => n' - (intOf i).toNat)
        case atStart => exact ⟨0, _, by omega, by omega, rfl, HT1⟩
        case round =>
          obtain ⟨m, t, hm, hm2, rfl, HT2⟩ := hrel
          by_cases hlt : m < n' ∧ m < 30
          · obtain ⟨hlt, hl2⟩ := hlt
            have d1 : decide (m < n') = true := by simpa using hlt
            have d2 : decide ((m : Int) < 30) = true := by simp; omega
            obtain ⟨x, hx⟩ : ∃ x, ys[m]? = some x := ⟨_, List.getElem?_eq_getElem (by rw [HL'.out]; exact hlt)⟩
            obtain ⟨ab, ao, rfl, hab, c0, c1, c2, c3, c4⟩ := acts_at HH'.out hx
            have hmem := List.mem_of_getElem? hx
            have HG := Lib.hid (HH'.out.good x hmem)
            have hsz := sz_mem hmem
            have HSZ : Hid (x.bs.length ≤ 4000 ∧ x.ks.length ≤ 4000) := by have := HSM'.out; unfold szA at hsz; exact ⟨by omega, by omega⟩
            have hbe := HT2.out.bel
            have k0 := (hbe.cell (p := ⟨ab, ao + m * 5, none⟩) hab).trans c0
            have k1 := (hbe.cell (p := ⟨ab, ao + m * 5 + 1, none⟩) hab).trans c1
            have k2 := (hbe.cell (p := ⟨ab, ao + m * 5 + 2, none⟩) hab).trans c2
            have k3 := (hbe.cell (p := ⟨ab, ao + m * 5 + 3, none⟩) hab).trans c3
            have k4 := (hbe.cell (p := ⟨ab, ao + m * 5 + 4, none⟩) hab).trans c4
            have HP := Lib.hid (play_any dc r2 x t wq _ HT2.out HG.out HSZ.out.1 HSZ.out.2)
            clear hbe hsz hmem hx c0 c1 c2 c3 c4
            go_wp2_with fail
            refine (HP.out).mono ?_
            rintro e w3 ⟨rfl, h3⟩
            have H3 := Lib.hid h3
            clear h3 HP
            go_wp2_with fail
            go_roundw
            case rel => exact ⟨m + 1, _, by omega, by omega, by go_num, H3⟩
            case measure => simp [intOf]; omega
          · have HBE := Lib.hid (HTk.out.bel.trans (HT2.out.bel.mono HTk.out.bel.size))
            have HA1 := Lib.hid (alike_any d r s w _ (HTk.out.on HT2.out.bel))
            have hc : (decide (m < n') = true ∧ decide ((m : Int) < 30) = false) ∨ decide (m < n') = false := by
              by_cases h1 : m < n'
              · exact .inl ⟨decide_eq_true h1, decide_eq_false (by omega)⟩
              · exact .inr (decide_eq_false h1)
            rcases hc with ⟨d1, d2⟩ | d1
            all_goals
              clear hlt
              go_wp2_with fail
              refine (HA1.out).mono ?_
              rintro e w5 ⟨rfl, hb5⟩
              have HA2 := Lib.hid (alike_any _ _ _ wq w5 (HT2.out.on hb5))
              have HB5 := Lib.hid (HBE.out.trans (hb5.mono HBE.out.size))
              clear hb5
              go_wp2_with fail
              refine (HA2.out).mono ?_
              rintro e w6 ⟨rfl, hb6⟩
              have HB6 := Lib.hid (HB5.out.trans (hb6.mono HB5.out.size))
              clear hb6
              go_wp2_with fail
              refine (awake_any _).mono ?_
              rintro e w7 ⟨rfl, hb7⟩
              have HB7 := Lib.hid (HB6.out.trans (hb7.mono HB6.out.size))
              clear hb7
              go_wp2_with fail
              go_ret
              exact ⟨rfl, HB7.out⟩

theorem own : ownKnob Try.prog.godebug = none := by kernel_rfl
theorem laidOut : laidOutB Try.prog = true := by kernel_rfl
theorem specN (H : Type) (ds : List (DataW H)) (h : ds.length = 2) : Rows.diskCopiesSpec.fn H (ds ++ []) = { results := [.lit (.bool true)], args := ds } := by
  match ds, h with
  | [_, _], _ => rfl

set_option maxRecDepth 100000 in
theorem lifted (os : Os) (started : os.Started) (H : Type) (enc : TypeId × Value → H) :
    ReturnsInHanded {} Try.checked os 7 .any (Rows.diskCopiesSpec.pre6 enc Try.prog Try.f7 Rows.diskCopiesRow.domain false) (Rows.diskCopiesSpec.post enc Try.prog Try.f7 false true false false) := by
  refine law_of_walk (C := Try.checked) own started (by kernel_rfl) Try.func7 rfl rfl Try.underlying4 laidOut (by kernel_rfl) (fun ds h => specN H ds (h.trans (by kernel_rfl)))
    (ChangeSpec.witness6 (enc := enc) (C := Try.checked) false ⟨#[], #[.slice none 0 0, .slice none 0 0], []⟩ 8 (by kernel_rfl) (by kernel_rfl) (by kernel_rfl) (by kernel_rfl)) ?_
  intro W base args ds p hval hA hsz
  have hval' : ∀ (j : Nat) t v, Try.f7.params[j]? = some t → args[j]? = some v → Value.okWide Try.prog W .any base t v := hval
  rw [Try.params7] at hval' hA hsz
  obtain ⟨v0, vs0, d0, ds0, p0, q0, hargs, rfl, rfl, h0, r0⟩ := trodAll_cons hA
  obtain ⟨v1, vs1, d1, ds1, p1, q1, rfl, rfl, rfl, h1, r1⟩ := trodAll_cons r0
  obtain ⟨rfl, rfl, rfl⟩ := trodAll_nil r1
  obtain rfl : args = #[v0, v1] := by cases args; simp_all
  obtain ⟨a0, len0, cap0, rfl⟩ := okWide_slice Try.underlying39 (hval' 0 39 v0 rfl rfl)
  obtain ⟨hl0, xs0, hx0⟩ := open_acts h0 (sm_arg hsz (j := 0) rfl rfl)
  obtain ⟨a1, len1, cap1, rfl⟩ := okWide_slice Try.underlying39 (hval' 1 39 v1 rfl rfl)
  obtain ⟨hl1, xs1, hx1⟩ := open_acts h1 (sm_arg hsz (j := 1) rfl rfl)
  exact walk a0 len0 cap0 xs0 a1 len1 cap1 xs1 W hl0 hx0 hl1 hx1

theorem proved : Rows.DiskCopiesSaid :=
  OpenClaim.holds_of_wide 7 Try.f7 rfl rfl rfl rfl rfl rfl rfl ⟨rfl, rfl, rfl, rfl, rfl⟩ rfl rfl rfl rfl rfl (by kernel_rfl) Try.func7 (by kernel_rfl)
    (of_decide_eq_true (by kernel_rfl)) (by unfold Func.isWrapper; first | (rw [if_pos (by decide +kernel)]; kernel_rfl) | (rw [if_neg (by decide +kernel)]; exact ⟨rfl, rfl⟩))
    (fun os started H enc _ => lifted os started H enc)
end Go.Proofs.Ytgblcjoalgckkaa.diskCopies
