/-
  WireTexts: for every input the law returns true, and its arguments are as they were. No condition beside the given statement's own.
-/
import Derived.Test.YtnnclopojiegfaaText
import Derived.Test.YtnnclopojiegfaaRow
namespace Go.Proofs.Ytnnclopojiegfaa.wireTexts
open Go.ChangeShapes Go.WideShapes Go.ChangeAt Go.RowKit
open Go.ChangeMaps (open_string shut_string)
set_option linter.unusedVariables false

set_option maxRecDepth 100000 in
set_option maxHeartbeats 400000 in
/-- The law's walk: it returns true, and writes nothing that was there. -/
theorem walk (a0 : Option Addr) (len0 cap0 : Nat) (s : ByteArray) (a2 : Int) (w : World) (bs : List Nat) (hm : len0 ≤ 140737488351232) (hms : s.size ≤ 140737488351232) (hnc : len0 ≤ cap0) (hr : Reads w w.heap.size 1 a0 len0 (bs.map byt)) (hbs : ∀ x ∈ bs, x < 256) :
    Calls Try.prog 5 #[.slice a0 len0 cap0, .string s, .int .i64 a2] w fun e w' => e = .returned (.bool true) ∧ Below w.heap.size w w' := by
  have HA := fun W => Lib.hid (awake_any W)
  by_cases hn : 2000 < len0 + s.size
  · clear hr hbs
    go_enter Try.func5, Try.ntmps5
    go_wp2_with fail
    refine ((HA _).out).mono ?_
    rintro e w1 ⟨rfl, hb⟩
    have HB := Lib.hid hb
    clear hb HA
    go_wp2_with fail
    go_ret
    exact ⟨rfl, HB.out⟩
  · have hl : bs.length = len0 := by have := hr.1; simpa using this
    have H1 := Lib.hid (getText_any a0 len0 cap0 a2 bs w (by omega) hnc hr hbs)
    have HR := Lib.hid hr
    have HS := Lib.hid hbs
    have HL := Lib.hid hl
    have hall : ∀ x ∈ bs ++ encT s, x < 256 := fun x hx => by
      rcases List.mem_append.1 hx with h | h
      · exact hbs x h
      · rcases List.mem_append.1 h with h | h
        · exact encI_byte _ x h
        · exact txt_byte s x h
    obtain ⟨all, he⟩ : ∃ all, all = bs ++ encT s := ⟨_, rfl⟩
    rw [← he] at hall
    have HALL := Lib.hid hall
    have HE := Lib.hid he
    clear hr hbs hl hall he
    obtain ⟨x1, x2, x3, hres⟩ : ∃ (x1 : ByteArray) (x2 x3 : Int), resT (getT bs a2) = .returned (.tuple #[.string x1, .int .i64 x2, .int .i64 x3]) := by
      cases getT bs a2 with
      | none => exact ⟨_, 0, 13, rfl⟩
      | some y => exact ⟨y.1, y.2, 0, rfl⟩
    rw [hres] at H1
    have HRES := Lib.hid hres
    clear hres
    go_enter Try.func5, Try.ntmps5
    go_wp2_with fail
    refine (H1.out).mono ?_
    rintro e y1 ⟨rfl, hb1⟩
    have hr1 := HR.out.below hb1
    have h2 := refGetText_any a0 len0 cap0 a2 bs y1 (by omega) hnc _ hr1 HS.out
    rw [HRES.out] at h2
    have H2 := Lib.hid h2
    have HB1 := Lib.hid hb1
    clear H1 hb1 hr1 h2
    go_wp2_with fail
    refine (H2.out).mono ?_
    rintro e y1' ⟨rfl, rfl⟩
    have h3 := wtext_any a0 len0 cap0 bs s y1 (by omega) ((HR.out.below HB1.out).more HB1.out.size)
    rw [← HE.out] at h3
    have H3 := Lib.hid h3
    clear h3 H2
    go_wp2_with fail
    refine (H3.out).mono ?_
    rintro e y2 ⟨v2, rfl, hown2, hb2⟩
    have HB2 := Lib.hid (HB1.out.trans (hb2.mono HB1.out.size))
    obtain ⟨A2, c2, rfl, hr2⟩ := new_reads hown2
    have h4 := refText_any a0 len0 cap0 bs s y2 (by omega) ((HR.out.below HB2.out).more HB2.out.size)
    rw [← HE.out] at h4
    have H4 := Lib.hid h4
    have HR2 := Lib.hid hr2
    clear h4 H3 hown2 hr2 hb2
    go_wp2_with fail
    refine (H4.out).mono ?_
    rintro e y3 ⟨v3, rfl, hown3, hb3⟩
    have HB3 := Lib.hid (HB2.out.trans (hb3.mono HB2.out.size))
    obtain ⟨A3, c3, rfl, hr3⟩ := new_reads hown3
    have H5 := Lib.hid (same_eq A2 A3 _ c2 c3 _ _ _ y3 (HR2.out.below hb3) hr3 HALL.out)
    clear H4 hown3 hr3 hb3 HR2
    go_wp2_with fail
    refine (H5.out).mono ?_
    rintro e y3' ⟨rfl, rfl⟩
    clear H5
    go_wp2_with fail
    refine ((HA _).out).mono ?_
    rintro e y4 ⟨rfl, hb4⟩
    have HB4 := Lib.hid (HB3.out.trans (hb4.mono HB3.out.size))
    clear hb4 HA
    go_wp2_with fail
    go_ret
    exact ⟨rfl, HB4.out⟩

theorem own : ownKnob Try.prog.godebug = none := by kernel_rfl
theorem laidOut : laidOutB Try.prog = true := by kernel_rfl
theorem specN (H : Type) (ds : List (DataW H)) (h : ds.length = 3) : Rows.wireTextsSpec.fn H (ds ++ []) = { results := [.lit (.bool true)], args := ds } := by
  match ds, h with
  | [_, _, _], _ => rfl

set_option maxRecDepth 100000 in
theorem lifted (os : Os) (started : os.Started) (H : Type) (enc : TypeId × Value → H) :
    ReturnsInHanded {} Try.checked os 5 .any (Rows.wireTextsSpec.pre6 enc Try.prog Try.f5 Rows.wireTextsRow.domain false) (Rows.wireTextsSpec.post enc Try.prog Try.f5 false true false false) := by
  refine law_of_walk (C := Try.checked) own started (by kernel_rfl) Try.func5 rfl rfl Try.underlying4 laidOut (by kernel_rfl) (fun ds h => specN H ds (h.trans (by kernel_rfl)))
    (ChangeSpec.witness6 (enc := enc) (C := Try.checked) false ⟨#[], #[.slice none 0 0, .string ByteArray.empty, .int .i64 0], []⟩ 8 (by kernel_rfl) (by kernel_rfl) (by kernel_rfl) (by kernel_rfl)) ?_
  intro W base args ds p hval hA hsz
  have hval' : ∀ (j : Nat) t v, Try.f5.params[j]? = some t → args[j]? = some v → Value.okWide Try.prog W .any base t v := hval
  rw [Try.params5] at hval' hA hsz
  obtain ⟨v0, vs0, d0, ds0, p0, q0, hargs, rfl, rfl, h0, r0⟩ := trodAll_cons hA
  obtain ⟨v1, vs1, d1, ds1, p1, q1, rfl, rfl, rfl, h1, r1⟩ := trodAll_cons r0
  obtain ⟨v2, vs2, d2, ds2, p2, q2, rfl, rfl, rfl, h2, r2⟩ := trodAll_cons r1
  obtain ⟨rfl, rfl, rfl⟩ := trodAll_nil r2
  obtain rfl : args = #[v0, v1, v2] := by cases args; simp_all
  obtain ⟨a0, len0, cap0, rfl⟩ := okWide_slice Try.underlying22 (hval' 0 22 v0 rfl rfl)
  obtain ⟨hw0, hc0, hm0, bs0, hr0, hbs0⟩ := open_bytes Try.underlying22 Try.underlying5 (by kernel_rfl) h0
  have hlen0 := len_reach hsz (j := 0) (t := 22) rfl rfl Try.underlying22 (of_decide_eq_true (by kernel_rfl)) hw0
  obtain ⟨s1, rfl, rfl, rfl, w1⟩ := open_string Try.underlying9 (hval' 1 9 v1 rfl rfl) h1
  obtain ⟨a2, rfl, rfl, rfl, w2⟩ := open_int Try.underlying3 (hval' 2 3 v2 rfl rfl) h2
  have hs1 := sized_string hsz (j := 1) (t := 9) rfl rfl
  have hs1' : s1.size ≤ 140737488351232 := by
    have h3 : reachBytes = 140737488351232 := by decide
    rw [h3, Array.length_toList] at hs1
    exact hs1
  exact walk a0 len0 cap0 s1 a2 W bs0 hlen0 hs1' hc0 hr0 hbs0

theorem proved : Rows.WireTextsSaid :=
  OpenClaim.holds_of_wide 5 Try.f5 rfl rfl rfl rfl rfl rfl rfl ⟨rfl, rfl, rfl, rfl, rfl⟩ rfl rfl rfl rfl rfl (by kernel_rfl) Try.func5 (by kernel_rfl)
    (of_decide_eq_true (by kernel_rfl)) (by unfold Func.isWrapper; first | (rw [if_pos (by decide +kernel)]; kernel_rfl) | (rw [if_neg (by decide +kernel)]; exact ⟨rfl, rfl⟩))
    (fun os started H enc _ => lifted os started H enc)
end Go.Proofs.Ytnnclopojiegfaa.wireTexts
