/-
  WireBack: for every input the law returns true, and its arguments are as they were. No condition beside the given statement's own.
-/
import Derived.Test.YtnnclopojiegfaaWtT
namespace Go.Proofs.Ytnnclopojiegfaa.wireBack
open Go.ChangeShapes Go.WideShapes Go.ChangeAt Go.RowKit
open Go.ChangeMaps (open_string shut_string)
set_option linter.unusedVariables false

set_option maxRecDepth 100000 in
set_option maxHeartbeats 1600000 in
theorem walk (A : Option Addr) (n cp : Nat) (z : Int) (s : ByteArray) (A1 : Option Addr) (n1 c1 : Nat) (A2 : Option Addr) (n2 c2 : Nat) (xs : List CX) (b1 b2 : List Nat) (w : World) (hn : n ≤ 140737488351232) (h : Coms w A n xs) (hz : inI64 z) (hs : s.size ≤ 140737488351232)
    (hm1 : n1 ≤ 140737488351232) (hm2 : n2 ≤ 140737488351232) (hr1 : Reads w w.heap.size 1 A1 n1 (b1.map byt)) (hb1 : ∀ x ∈ b1, x < 256) (hr2 : Reads w w.heap.size 1 A2 n2 (b2.map byt)) (hb2 : ∀ x ∈ b2, x < 256) :
    Calls Try.prog 7 #[.slice A n cp, .int .i64 z, .string s, .slice A1 n1 c1, .slice A2 n2 c2] w fun e w' => e = .returned (.bool true) ∧ Below w.heap.size w w' := by
  have HA := fun W => Lib.hid (awake_any W)
  have HS := Lib.hid (size_any A n cp xs w hn h)
  have HL := Lib.hid h.len
  have H := Lib.hid h
  have R1 := Lib.hid hr1
  have R2 := Lib.hid hr2
  have Q1 := Lib.hid hb1
  have Q2 := Lib.hid hb2
  have HZ := Lib.hid hz
  have hl1 : b1.length = n1 := by have := hr1.1; simpa using this
  have hl2 : b2.length = n2 := by have := hr2.1; simpa using this
  have L1 := Lib.hid hl1
  have L2 := Lib.hid hl2
  clear h hr1 hr2 hb1 hb2 hz hl1 hl2
  go_enter Try.func7, Try.ntmps7
  go_wp2_with fail
  refine (HS.out).mono ?_
  rintro e w1 ⟨m, q, rfl, hm, hm2, rfl⟩
  have HM := Lib.hid hm
  clear hm HS
  have BQ : Hid (Below w.heap.size w (w.drewN q)) := below_drewN (Below.refl _ w) q
  by_cases h2 : 2000 < m
  · have d : decide ((2000 : Int) < (m : Int)) = true := by simp; omega
    go_wp2_with fail
    refine ((HA _).out).mono ?_
    rintro e w2 ⟨rfl, hb2⟩
    have HB2 := Lib.hid ((BQ.out).trans (hb2.mono (BQ.out).size))
    clear hb2
    go_wp2_with fail
    go_ret
    exact ⟨rfl, HB2.out⟩
  have d : decide ((2000 : Int) < (m : Int)) = false := by simp; omega
  have hsum : n + sumC xs ≤ 2000 := by have := HM.out (by omega); omega
  by_cases h3 : 2000 < s.size + n1 + n2
  · have d2 : decide ((2000 : Int) < (s.size : Int) + (n1 : Int) + (n2 : Int)) = true := by simp; omega
    go_wp2_with fail
    refine ((HA _).out).mono ?_
    rintro e w2 ⟨rfl, hb2⟩
    have HB2 := Lib.hid ((BQ.out).trans (hb2.mono (BQ.out).size))
    clear hb2
    go_wp2_with fail
    go_ret
    exact ⟨rfl, HB2.out⟩
  have d2 : decide ((2000 : Int) < (s.size : Int) + (n1 : Int) + (n2 : Int)) = false := by simp; omega
  have HSUM := Lib.hid hsum
  have H3 := Lib.hid h3
  have HC := Lib.hid (commits_any A n cp xs (w.drewN q) ((H.out).up (BQ.out)) (by omega))
  clear hsum
  go_wp2_with fail
  refine (HC.out).mono ?_
  intro e w2 k1
  obtain ⟨v1, rfl, hown, hbel⟩ := k1
  obtain ⟨E, ce, rfl, hce, hre⟩ := new_readsC hown
  have BL2 := Lib.hid ((BQ.out).trans (hbel.mono (BQ.out).size))
  have hxl : xs.length + sumC xs ≤ 2000 := by rw [HL.out]; exact HSUM.out
  have HG := getCommits_any E (encXs xs).length ce (encXs xs) w2 (encXs_len (H.out).good hxl) hce hre (encb_xs xs)
  rw [commits_back (H.out).good hxl] at HG
  replace HG := Lib.hid HG
  clear hown hbel hce hre hxl HC
  go_wp2_with fail
  refine (HG.out).mono ?_
  rintro e w3 ⟨⟨B, cb, ys, rfl, hy, hcom⟩, hbel⟩
  have BL3 := Lib.hid ((BL2.out).trans (hbel.mono (BL2.out).size))
  have HY := Lib.hid hy
  have hyl : ys.length = n := by rw [← HL.out, ← List.length_map (f := CX.c), hy, List.length_map]
  have CY : Hid (Coms w3 B n ys) := by have := hcom.1; rw [hyl] at this; exact this
  rw [hyl]
  obtain ⟨u, hu⟩ : ∃ u, u = b1 ++ encI z := ⟨_, rfl⟩
  obtain ⟨t, ht⟩ : ∃ t, t = u ++ encT s := ⟨_, rfl⟩
  have HI := int_any A1 n1 c1 b1 z w3 (by omega) (((R1.out).below (BL3.out)).more (BL3.out).size) (HZ.out).1 (HZ.out).2
  rw [← hu] at HI
  replace HI := Lib.hid HI
  have hle : (encI z).length ≤ 10 := encI_len' (HZ.out)
  have hlt : (encT s).length ≤ 10 + s.size := encT_len (by omega)
  have hul : u.length = n1 + (encI z).length := by rw [hu, List.length_append, L1.out]
  have htl : t.length = n1 + (encI z).length + (encT s).length := by rw [ht, List.length_append, hul]
  have hu9 : u.length ≤ 3000 := by omega
  have ht9 : t.length ≤ 6000 := by omega
  have HU := Lib.hid hu
  have HTT := Lib.hid ht
  have HUL := Lib.hid hul
  have HTL := Lib.hid htl
  clear hy hcom hbel hyl HG hu ht hul htl hle hlt
  go_wp2_with fail
  obtain ⟨i0, hi0, hz0, hz1, hz2⟩ := info_parts u8_info
  refine (HI.out).mono ?_
  intro e w4 k1
  obtain ⟨v4, rfl, hown4, hb4⟩ := k1
  obtain ⟨A4, c4, rfl, hr4⟩ := new_reads hown4
  have BL4 := Lib.hid ((BL3.out).trans (hb4.mono (BL3.out).size))
  have CY4 := Lib.hid ((CY.out).up hb4)
  have HT := wtext_any A4 u.length c4 u s w4 (by omega) hr4
  rw [← HTT.out] at HT
  replace HT := Lib.hid HT
  clear hown4 hb4 hr4 HI CY
  go_wp2_with fail
  refine (HT.out).mono ?_
  intro e w5 k1
  obtain ⟨v5, rfl, hown5, hb5⟩ := k1
  have BL5 := Lib.hid ((BL4.out).trans (hb5.mono (BL4.out).size))
  have CY5 := Lib.hid ((CY4.out).up hb5)
  have OWN5 := Lib.hid hown5
  have SRC := Lib.hid (src_reads (P := Try.prog) w5 (tx := 22) Try.underlying22 c2 ((R2.out).below (BL5.out)) (byt_one b2))
  have hsz45 := hb5.size
  have HB45 := Lib.hid hb5
  clear hown5 hb5 HT CY5
  go_wp2_with (at_builtin; refine wpList_append_row _ rfl (.tmp 45) (.tmp 46) 22 22 rfl w4.heap.size 5 i0 (.int .u8 0) 1 1 Try.underlying22 hi0 hz0 hz1 hz2 rfl (by decide) v5 _ _ rfl (OWN5.out) _ n2 (b2.map byt) rfl (SRC.out) (by unfold maxLen; omega) (by omega) hsz45 ?_)
  intro v6 w6 hown6 hg6
  have hge : ∀ g, v5.ownBlock = some g → w4.heap.size ≤ g := fun g hv => own_ge (OWN5.out) hv
  have BL6 : Hid (Below w.heap.size w w6) := (BL5.out).trans (hg6.below (BL5.out).size (fun g hv => by have := hge g hv; have := (BL4.out).size; omega))
  have CY6 : Hid (Coms w6 B n ys) := (CY4.out).up ((HB45.out).trans (hg6.below hsz45 hge))
  rw [← List.map_append] at hown6
  obtain ⟨A6, c6, rfl, hr6, -⟩ := own_reads hown6
  have hc6 : t.length + n2 ≤ c6 := own_cap hown6
  have htt : t ++ b2 = b1 ++ encI z ++ encT s ++ b2 := by rw [HTT.out, HU.out]
  have hall : ∀ x ∈ t ++ b2, x < 256 := by rw [htt]; exact back_byte (Q1.out) (Q2.out)
  have hu2 : b1.length + (encI z).length = u.length := by rw [L1.out, HUL.out]
  have ht2 : b1.length + (encI z).length + (encT s).length = t.length := by rw [L1.out, HTL.out]
  have hgI : getI (t ++ b2) (n1 : Int) = some (z, u.length) := by rw [htt, ← L1.out, ← hu2]; exact back_num (HZ.out)
  have hgT : getT (t ++ b2) (u.length : Int) = some (s, t.length) := by rw [htt, ← ht2, ← hu2]; exact back_text (by omega)
  have H7 := getInt_any A6 (t.length + n2) c6 (n1 : Int) (t ++ b2) w6 (by omega) hr6 hall
  rw [hgI] at H7
  simp only [resI] at H7
  replace H7 := Lib.hid H7
  have H8 : Hid (∀ w', Below w6.heap.size w6 w' → Calls Try.prog 19 #[.slice A6 (t.length + n2) c6, .int .i64 (u.length : Int)] w' fun e w2 => e = .returned (.tuple #[.string s, .int .i64 (t.length : Int), .int .i64 0]) ∧ Below w'.heap.size w' w2) := fun w' hb => by
    have := getText_any A6 (t.length + n2) c6 (u.length : Int) (t ++ b2) w' (by omega) hc6 ((hr6.below hb).more hb.size) hall
    rw [hgT] at this
    exact this
  clear hown6 hg6 hr6 hall htt hu2 ht2 hgI hgT hge hc6 HB45 SRC OWN5 CY4
  go_wp2_with fail
  refine (H7.out).mono ?_
  rintro e w7 ⟨rfl, hb7⟩
  have CY7 := Lib.hid ((CY6.out).up hb7)
  have BL7 := Lib.hid ((BL6.out).trans (hb7.mono (BL6.out).size))
  have HB67 := Lib.hid hb7
  clear hb7 H7 CY6
  go_wp2_with fail
  refine (H8.out _ (HB67.out)).mono ?_
  rintro e w8 ⟨rfl, hb8⟩
  have CY8 := Lib.hid ((CY7.out).up hb8)
  have BL8 := Lib.hid ((BL7.out).trans (hb8.mono (BL7.out).size))
  have HSC := Lib.hid (sameCommits_any (c1 := cb) (c2 := cp) hn (CY8.out) ((H.out).up (BL8.out)) (HY.out))
  have ez : ((z : Int) == z) = true := by simp
  clear hb8 H8 CY7 HB67
  go_wp2_with fail
  refine (HSC.out).mono ?_
  rintro e w9 ⟨rfl, hb9⟩
  have BL9 := Lib.hid ((BL8.out).trans (hb9.mono (BL8.out).size))
  clear hb9 HSC
  go_wp2_with fail
  refine ((HA _).out).mono ?_
  rintro e w10 ⟨rfl, hb10⟩
  have BL10 := Lib.hid ((BL9.out).trans (hb10.mono (BL9.out).size))
  clear hb10 HA
  go_wp2_with fail
  go_ret
  exact ⟨rfl, BL10.out⟩

theorem own : ownKnob Try.prog.godebug = none := by kernel_rfl
theorem laidOut : laidOutB Try.prog = true := by kernel_rfl
theorem specN (H : Type) (ds : List (DataW H)) (h : ds.length = 5) : Rows.wireBackSpec.fn H (ds ++ []) = { results := [.lit (.bool true)], args := ds } := by
  match ds, h with
  | [_, _, _, _, _], _ => rfl

set_option maxRecDepth 100000 in
theorem lifted (os : Os) (started : os.Started) (H : Type) (enc : TypeId × Value → H) :
    ReturnsInHanded {} Try.checked os 7 .any (Rows.wireBackSpec.pre6 enc Try.prog Try.f7 Rows.wireBackRow.domain false) (Rows.wireBackSpec.post enc Try.prog Try.f7 false true false false) := by
  refine law_of_walk (C := Try.checked) own started (by kernel_rfl) Try.func7 rfl rfl Try.underlying4 laidOut (by kernel_rfl) (fun ds h => specN H ds (h.trans (by kernel_rfl)))
    (ChangeSpec.witness6 (enc := enc) (C := Try.checked) false ⟨#[], #[.slice none 0 0, .int .i64 0, .string ByteArray.empty, .slice none 0 0, .slice none 0 0], []⟩ 8 (by kernel_rfl) (by kernel_rfl) (by kernel_rfl) (by kernel_rfl)) ?_
  intro W base args ds p hval hA hsz
  have hval' : ∀ (j : Nat) t v, Try.f7.params[j]? = some t → args[j]? = some v → Value.okWide Try.prog W .any base t v := hval
  rw [Try.params7] at hval' hA hsz
  obtain ⟨v0, vs0, d0, ds0, p0, q0, hargs, rfl, rfl, h0, r0⟩ := trodAll_cons hA
  obtain ⟨v1, vs1, d1, ds1, p1, q1, rfl, rfl, rfl, h1, r1⟩ := trodAll_cons r0
  obtain ⟨v2, vs2, d2, ds2, p2, q2, rfl, rfl, rfl, h2, r2⟩ := trodAll_cons r1
  obtain ⟨v3, vs3, d3, ds3, p3, q3, rfl, rfl, rfl, h3, r3⟩ := trodAll_cons r2
  obtain ⟨v4, vs4, d4, ds4, p4, q4, rfl, rfl, rfl, h4, r4⟩ := trodAll_cons r3
  obtain ⟨rfl, rfl, rfl⟩ := trodAll_nil r4
  obtain rfl : args = #[v0, v1, v2, v3, v4] := by cases args; simp_all
  obtain ⟨a0, len0, cap0, rfl⟩ := okWide_slice Try.underlying30 (hval' 0 30 v0 rfl rfl)
  obtain ⟨hl0, xs0, hx0⟩ := open_commits h0 (sm_arg hsz (j := 0) rfl rfl)
  obtain ⟨a1, rfl, rfl, rfl, w1⟩ := open_int Try.underlying3 (hval' 1 3 v1 rfl rfl) h1
  obtain ⟨s2, rfl, rfl, rfl, w2⟩ := open_string Try.underlying9 (hval' 2 9 v2 rfl rfl) h2
  have hs2 := sized_string hsz (j := 2) (t := 9) rfl rfl
  have hs2' : s2.size ≤ 140737488351232 := by
    have h3 : reachBytes = 140737488351232 := by decide
    rw [h3, Array.length_toList] at hs2
    exact hs2
  obtain ⟨a3, len3, cap3, rfl⟩ := okWide_slice Try.underlying22 (hval' 3 22 v3 rfl rfl)
  obtain ⟨hw3, hc3, hm3, bs3, hr3, hbs3⟩ := open_bytes Try.underlying22 Try.underlying5 (by kernel_rfl) h3
  have hlen3 := len_reach hsz (j := 3) (t := 22) rfl rfl Try.underlying22 (of_decide_eq_true (by kernel_rfl)) hw3
  obtain ⟨a4, len4, cap4, rfl⟩ := okWide_slice Try.underlying22 (hval' 4 22 v4 rfl rfl)
  obtain ⟨hw4, hc4, hm4, bs4, hr4, hbs4⟩ := open_bytes Try.underlying22 Try.underlying5 (by kernel_rfl) h4
  have hlen4 := len_reach hsz (j := 4) (t := 22) rfl rfl Try.underlying22 (of_decide_eq_true (by kernel_rfl)) hw4
  exact walk a0 len0 cap0 a1 s2 a3 len3 cap3 a4 len4 cap4 xs0 bs3 bs4 W hl0 hx0 (wf_i64 w1) hs2' hlen3 hlen4 hr3 hbs3 hr4 hbs4

theorem proved : Rows.WireBackSaid :=
  OpenClaim.holds_of_wide 7 Try.f7 rfl rfl rfl rfl rfl rfl rfl ⟨rfl, rfl, rfl, rfl, rfl⟩ rfl rfl rfl rfl rfl (by kernel_rfl) Try.func7 (by kernel_rfl)
    (of_decide_eq_true (by kernel_rfl)) (by unfold Func.isWrapper; first | (rw [if_pos (by decide +kernel)]; kernel_rfl) | (rw [if_neg (by decide +kernel)]; exact ⟨rfl, rfl⟩))
    (fun os started H enc _ => lifted os started H enc)
end Go.Proofs.Ytnnclopojiegfaa.wireBack
