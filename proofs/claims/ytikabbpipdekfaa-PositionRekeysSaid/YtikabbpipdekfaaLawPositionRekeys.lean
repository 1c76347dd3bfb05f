/-
  PositionRekeys: for every input the law returns true, and its arguments are as they were. No condition beside the given statement's own.
-/
import Derived.Test.YtikabbpipdekfaaPsX
import Derived.Test.YtikabbpipdekfaaPsZr
namespace Go.Proofs.Ytikabbpipdekfaa.positionRekeys
open Go.ChangeShapes Go.WideShapes Go.ChangeAt Go.RowKit
open Go.ChangeMaps (open_string shut_string)
set_option linter.unusedVariables false

theorem texts_yes (A A' : Option Addr) (c c' B B' : Nat) (a b : List ByteArray) (w : World) (hr : Reads w B 1 A a.length (a.map Value.string)) (hr' : Reads w B' 1 A' b.length (b.map Value.string)) (ha : a.length ≤ 140737488351232) (hb : b.length ≤ 140737488351232) (h : a = b) :
    Calls Try.prog 17 #[.slice A a.length c, .slice A' b.length c'] w (SamePost w true) := by
  have := texts_any A A' c c' B B' a b w hr hr' ha hb
  rw [decide_eq_true h] at this
  exact this
set_option maxRecDepth 100000 in
set_option maxHeartbeats 3200000 in
theorem walk (A : Option Addr) (c : Nat) (xs : List ByteArray) (w : World) (hr : Reads w w.heap.size 1 A xs.length (xs.map Value.string)) (hl : xs.length ≤ 140737488351232) (hs : ∀ x ∈ xs, x.size ≤ 140737488351232) :
    Calls Try.prog 9 #[.slice A xs.length c] w (Ret w (.bool true)) := by
  have HL := Lib.hid (light_any A c xs w hr hl hs)
  have HX : Hid (lightB xs = true → Txt w A xs ∧ xs.length ≤ 60) := fun h => ⟨⟨hr, by have := (light_yes h).1; omega, hs⟩, (light_yes h).1⟩
  obtain ⟨b, hb⟩ : ∃ b, lightB xs = b := ⟨_, rfl⟩
  rw [hb] at HL HX
  clear hr hb
  go_enter Try.func9, Try.ntmps9
  go_wp2_with fail
  refine (HL.out).mono ?_
  rintro e w1 ⟨rfl, hb1⟩
  have HB1 := Lib.hid hb1
  clear hb1
  cases b
  · go_wp2_with fail
    refine (awake_any _).mono ?_
    rintro e w8 ⟨rfl, hb8⟩
    have HB8 := Lib.hid (HB1.out.trans (hb8.mono HB1.out.size))
    clear hb8
    go_wp2_with fail
    go_ret
    exact ⟨rfl, HB8.out⟩
  · have HT := Lib.hid (HX.out rfl).1
    have h60 := (HX.out rfl).2
    have HK := Lib.hid (fun (w' : World) (hw : Below w.heap.size w w') => rekey_any A c xs w' (HT.out.up hw) (by omega))
    have HRK := Lib.hid (fun (w' : World) (hw : Below w.heap.size w w') => rrekey_any A c xs w' (HT.out.up hw) (by omega))
    go_wp2_with fail
    refine (awake_any _).mono ?_
    rintro e w2 ⟨rfl, hb2⟩
    have HB2 := Lib.hid (HB1.out.trans (hb2.mono HB1.out.size))
    have HC := Lib.hid (HK.out w2 HB2.out)
    clear hb2
    go_wp2_with fail
    refine (HC.out).mono ?_
    rintro e w3 ⟨hb3, A3, c3, outs, rfl, hr3, hu⟩
    have HB3 := Lib.hid (HB2.out.trans (hb3.mono HB2.out.size))
    have HR3 := Lib.hid hr3
    have HU := Lib.hid hu
    have HC4 := Lib.hid (HRK.out w3 HB3.out)
    clear hb3 hr3 hu
    go_wp2_with fail
    refine (HC4.out).mono ?_
    rintro e w4 ⟨hb4, A4, c4, outs', rfl, hr4, hu⟩
    obtain rfl := hu.unique HU.out
    have HB4 := Lib.hid (HB3.out.trans (hb4.mono HB3.out.size))
    have hll := hu.len
    have HS := Lib.hid (texts_yes A3 A4 c3 c4 _ _ outs' outs' w4 (HR3.out.below hb4) hr4 (by omega) (by omega) rfl)
    clear hb4 hr4 hu hll
    go_wp2_with fail
    refine (HS.out).mono ?_
    rintro e w5 ⟨rfl, q, rfl⟩
    go_wp2_with fail
    go_ret
    exact ⟨rfl, below_drewN HB4.out q⟩

theorem own : ownKnob Try.prog.godebug = none := by kernel_rfl
theorem laidOut : laidOutB Try.prog = true := by kernel_rfl
theorem specN (H : Type) (ds : List (DataW H)) (h : ds.length = 1) : Rows.positionRekeysSpec.fn H (ds ++ []) = { results := [.lit (.bool true)], args := ds } := by
  match ds, h with
  | [_], _ => rfl

set_option maxRecDepth 100000 in
theorem lifted (os : Os) (started : os.Started) (H : Type) (enc : TypeId × Value → H) :
    ReturnsInHanded {} Try.checked os 9 .any (Rows.positionRekeysSpec.pre6 enc Try.prog Try.f9 Rows.positionRekeysRow.domain false) (Rows.positionRekeysSpec.post enc Try.prog Try.f9 false true false false) := by
  refine law_of_walk (C := Try.checked) own started (by kernel_rfl) Try.func9 rfl rfl Try.underlying4 laidOut (by kernel_rfl) (fun ds h => specN H ds (h.trans (by kernel_rfl)))
    (ChangeSpec.witness6 (enc := enc) (C := Try.checked) false ⟨#[], #[.slice none 0 0], []⟩ 8 (by kernel_rfl) (by kernel_rfl) (by kernel_rfl) (by kernel_rfl)) ?_
  intro W base args ds p hval hA hsz
  have hval' : ∀ (j : Nat) t v, Try.f9.params[j]? = some t → args[j]? = some v → Value.okWide Try.prog W .any base t v := hval
  rw [Try.params9] at hval' hA hsz
  obtain ⟨v0, vs0, d0, ds0, p0, q0, hargs, rfl, rfl, h0, r0⟩ := trodAll_cons hA
  obtain ⟨rfl, rfl, rfl⟩ := trodAll_nil r0
  obtain rfl : args = #[v0] := by cases args; simp_all
  obtain ⟨a0, len0, cap0, rfl⟩ := okWide_slice Try.underlying28 (hval' 0 28 v0 rfl rfl)
  obtain ⟨fu0, hf0⟩ := h0
  obtain ⟨hc0, hl0, xs0, rfl, hr0, hb0⟩ := open_txts Try.underlying28 Try.underlying9 (by kernel_rfl) hf0 (sm_arg hsz (j := 0) rfl rfl)
  have hb9 : Try.prog.bytesOf 9 = 16 := by kernel_rfl
  rw [hb9] at hl0
  exact walk a0 cap0 xs0 W hr0 (by omega) hb0

theorem proved : Rows.PositionRekeysSaid :=
  OpenClaim.holds_of_wide 9 Try.f9 rfl rfl rfl rfl rfl rfl rfl ⟨rfl, rfl, rfl, rfl, rfl⟩ rfl rfl rfl rfl rfl (by kernel_rfl) Try.func9 (by kernel_rfl)
    (of_decide_eq_true (by kernel_rfl)) (by unfold Func.isWrapper; first | (rw [if_pos (by decide +kernel)]; kernel_rfl) | (rw [if_neg (by decide +kernel)]; exact ⟨rfl, rfl⟩))
    (fun os started H enc _ => lifted os started H enc)
end Go.Proofs.Ytikabbpipdekfaa.positionRekeys
