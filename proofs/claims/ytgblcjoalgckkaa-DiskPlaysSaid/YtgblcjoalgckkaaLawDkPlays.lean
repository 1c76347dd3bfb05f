/-
  DiskPlays: for every input the law returns true, and its arguments are as they were. No condition beside the given statement's own.
-/
import Derived.Test.YtgblcjoalgckkaaDkY
namespace Go.Proofs.Ytgblcjoalgckkaa.diskPlays
open Go.ChangeShapes Go.WideShapes Go.ChangeAt Go.RowKit
open Go.ChangeMaps (open_string shut_string)
set_option linter.unusedVariables false

theorem two_new {w w1 w2 : World} {d r : Nat} {M Mr : Nat → Prop} (h1 : DiskAt w1 d (newS 64) M (fun _ => False)) (hM : ∀ b, M b → w.heap.size ≤ b) (hb : Below w.heap.size w w1) (h2 : RefAt w2 r (newS 64) Mr (fun _ => False)) (hMr : ∀ b, Mr b → w1.heap.size ≤ b) (hb2 : Below w1.heap.size w1 w2) : Two w w2 d (newS 64) r (newS 64) := by
  have hd := h1.lt
  have hc : Chg w1 w2 (fun b => w1.heap.size ≤ b) := Chg.of_below hb2 (fun _ h => h)
  have hs := hb.size
  refine ⟨M, _, Mr, _, ⟨h1.chg hc (fun b hg hm => by have := hd b (.inl hm); omega) (fun b hg hm => hm), h2, fun b hm => ⟨fun hr => by have := hd b (.inl hm); have := hMr b hr; omega, fun hr => hr⟩, fun b _ hi => hi, fun b hm => ?_, hb.trans (hb2.mono hs)⟩⟩
  rcases hm with hm | hm | hm | hm
  · exact hM b hm
  · exact hm.elim
  · have := hMr b hm; omega
  · exact hm.elim
theorem sz_mem {xs : List ActX} {x : ActX} (h : x ∈ xs) : szA x ≤ sumA xs := by
  induction xs with
  | nil => cases h
  | cons y ys ih =>
    have e : sumA (y :: ys) = szA y + sumA ys := by unfold sumA; simp
    rcases List.mem_cons.1 h with rfl | h
    · omega
    · have := ih h; omega

set_option maxRecDepth 100000 in
set_option maxHeartbeats 3200000 in
theorem walk (A : Option Addr) (n c : Nat) (xs : List ActX) (w : World) (hn : n ≤ 140737488351232) (h : Acts w A n xs) :
    Calls Try.prog 5 #[.slice A n c] w fun e w' => e = .returned (.bool true) ∧ Below w.heap.size w w' := by
  have HS := Lib.hid (small_any A n c xs w hn h)
  have H := Lib.hid h
  have HL := Lib.hid h.len
  clear h
  by_cases hsm : sumA xs ≤ 4000
  rotate_left
  · rw [decide_eq_false hsm] at HS
    clear hsm
    go_enter Try.func5, Try.ntmps5
    go_wp2_with fail
    refine (HS.out).mono ?_
    rintro e w1 ⟨rfl, q, rfl⟩
    go_wp2_with fail
    refine (awake_any _).mono ?_
    rintro e w2 ⟨rfl, hb2⟩
    have HB2 : Hid (Below w.heap.size w w2) := (below_drewN (Below.refl _ w) q).trans hb2
    clear hb2
    go_wp2_with fail
    go_ret
    exact ⟨rfl, HB2.out⟩
  · rw [decide_eq_true hsm] at HS
    have HSM := Lib.hid hsm
    clear hsm
    go_enter Try.func5, Try.ntmps5
    go_wp2_with fail
    refine (HS.out).mono ?_
    rintro e w1 ⟨rfl, q, rfl⟩
    have HN := Lib.hid (new_yes 64 (w.drewN q) (by omega) (by omega))
    go_wp2_with fail
    refine (HN.out).mono ?_
    rintro e w1 ⟨d, M, rfl, hd, hM, hb1⟩
    have HD1 := Lib.hid hd
    have HM1 := Lib.hid hM
    have HB1 := Lib.hid hb1
    have HRN := Lib.hid (rnew_yes 64 w1 (by omega) (by omega))
    clear hd hM hb1 HN
    go_wp2_with fail
    refine (HRN.out).mono ?_
    rintro e w2 ⟨r, Mr, rfl, hr, hMr, hb2⟩
    have HT0 := Lib.hid (two_new HD1.out HM1.out HB1.out hr hMr hb2)
    have HT : Hid (Two w w2 d (newS 64) r (newS 64)) := HT0.out.under (below_drewN (Below.refl _ w) q)
    clear hr hMr hb2 HRN HD1 HM1 HB1 HT0
    go_wp2_with fail
    go_loopw [7] (fun i wr => ∃ (k : Nat) (s : DS), k ≤ n ∧ k ≤ 120 ∧ i = .int .i64 (k : Int) ∧ Hid (Two w wr d s r s)) (fun i _ => n - (intOf i).toNat)
    case atStart => exact ⟨0, _, by omega, by omega, rfl, HT⟩
    case round =>
      obtain ⟨k, s, hk, hk2, rfl, HTk⟩ := hrel
      by_cases hlt : k < n ∧ k < 120
      · obtain ⟨hlt, hl2⟩ := hlt
        have d1 : decide (k < n) = true := by simpa using hlt
        have d2 : decide ((k : Int) < 120) = true := by simp; omega
        obtain ⟨x, hx⟩ : ∃ x, xs[k]? = some x := ⟨_, List.getElem?_eq_getElem (by rw [HL.out]; exact hlt)⟩
        obtain ⟨ab, ao, rfl, hab, c0, c1, c2, c3, c4⟩ := acts_at H.out hx
        have hmem := List.mem_of_getElem? hx
        have HG := Lib.hid (H.out.good x hmem)
        have hsz := sz_mem hmem
        have HSZ : Hid (x.bs.length ≤ 4000 ∧ x.ks.length ≤ 4000) := by have := HSM.out; unfold szA at hsz; exact ⟨by omega, by omega⟩
        have hbe := HTk.out.bel
        have k0 := (hbe.cell (p := ⟨ab, ao + k * 5, none⟩) hab).trans c0
        have k1 := (hbe.cell (p := ⟨ab, ao + k * 5 + 1, none⟩) hab).trans c1
        have k2 := (hbe.cell (p := ⟨ab, ao + k * 5 + 2, none⟩) hab).trans c2
        have k3 := (hbe.cell (p := ⟨ab, ao + k * 5 + 3, none⟩) hab).trans c3
        have k4 := (hbe.cell (p := ⟨ab, ao + k * 5 + 4, none⟩) hab).trans c4
        have HP := Lib.hid (play_any d r x s w _ HTk.out HG.out HSZ.out.1 HSZ.out.2)
        clear hbe hsz hmem hx c0 c1 c2 c3 c4
        go_wp2_with fail
        refine (HP.out).mono ?_
        rintro e w3 ⟨rfl, h3⟩
        have HA := Lib.hid (alike_any d r _ w w3 h3)
        have H3 := Lib.hid h3
        clear h3 HP
        go_wp2_with fail
        refine (HA.out).mono ?_
        rintro e w4 ⟨rfl, hb4⟩
        have H4 := Lib.hid (H3.out.on hb4)
        clear hb4 HA H3
        go_wp2_with fail
        go_roundw
        case rel => exact ⟨k + 1, _, by omega, by omega, by go_num, H4⟩
        case measure => simp [intOf]; omega
      · have HB := Lib.hid HTk.out.bel
        by_cases h1 : k < n
        · have d1 : decide (k < n) = true := by simpa using h1
          have d2 : decide ((k : Int) < 120) = false := by simp; omega
          go_wp2_with fail
          refine (awake_any _).mono ?_
          rintro e w2 ⟨rfl, hb2⟩
          have HB2 := Lib.hid (HB.out.trans (hb2.mono HB.out.size))
          clear hb2
          go_wp2_with fail
          go_ret
          exact ⟨rfl, HB2.out⟩
        · have d1 : decide (k < n) = false := by simpa using h1
          go_wp2_with fail
          refine (awake_any _).mono ?_
          rintro e w2 ⟨rfl, hb2⟩
          have HB2 := Lib.hid (HB.out.trans (hb2.mono HB.out.size))
          clear hb2
          go_wp2_with fail
          go_ret
          exact ⟨rfl, HB2.out⟩


theorem own : ownKnob Try.prog.godebug = none := by kernel_rfl
theorem laidOut : laidOutB Try.prog = true := by kernel_rfl
theorem specN (H : Type) (ds : List (DataW H)) (h : ds.length = 1) : Rows.diskPlaysSpec.fn H (ds ++ []) = { results := [.lit (.bool true)], args := ds } := by
  match ds, h with
  | [_], _ => rfl

set_option maxRecDepth 100000 in
theorem lifted (os : Os) (started : os.Started) (H : Type) (enc : TypeId × Value → H) :
    ReturnsInHanded {} Try.checked os 5 .any (Rows.diskPlaysSpec.pre6 enc Try.prog Try.f5 Rows.diskPlaysRow.domain false) (Rows.diskPlaysSpec.post enc Try.prog Try.f5 false true false false) := by
  refine law_of_walk (C := Try.checked) own started (by kernel_rfl) Try.func5 rfl rfl Try.underlying4 laidOut (by kernel_rfl) (fun ds h => specN H ds (h.trans (by kernel_rfl)))
    (ChangeSpec.witness6 (enc := enc) (C := Try.checked) false ⟨#[], #[.slice none 0 0], []⟩ 8 (by kernel_rfl) (by kernel_rfl) (by kernel_rfl) (by kernel_rfl)) ?_
  intro W base args ds p hval hA hsz
  have hval' : ∀ (j : Nat) t v, Try.f5.params[j]? = some t → args[j]? = some v → Value.okWide Try.prog W .any base t v := hval
  rw [Try.params5] at hval' hA hsz
  obtain ⟨v0, vs0, d0, ds0, p0, q0, hargs, rfl, rfl, h0, r0⟩ := trodAll_cons hA
  obtain ⟨rfl, rfl, rfl⟩ := trodAll_nil r0
  obtain rfl : args = #[v0] := by cases args; simp_all
  obtain ⟨a0, len0, cap0, rfl⟩ := okWide_slice Try.underlying39 (hval' 0 39 v0 rfl rfl)
  obtain ⟨hl0, xs0, hx0⟩ := open_acts h0 (sm_arg hsz (j := 0) rfl rfl)
  exact walk a0 len0 cap0 xs0 W hl0 hx0

theorem proved : Rows.DiskPlaysSaid :=
  OpenClaim.holds_of_wide 5 Try.f5 rfl rfl rfl rfl rfl rfl rfl ⟨rfl, rfl, rfl, rfl, rfl⟩ rfl rfl rfl rfl rfl (by kernel_rfl) Try.func5 (by kernel_rfl)
    (of_decide_eq_true (by kernel_rfl)) (by unfold Func.isWrapper; first | (rw [if_pos (by decide +kernel)]; kernel_rfl) | (rw [if_neg (by decide +kernel)]; exact ⟨rfl, rfl⟩))
    (fun os started H enc _ => lifted os started H enc)
end Go.Proofs.Ytgblcjoalgckkaa.diskPlays
