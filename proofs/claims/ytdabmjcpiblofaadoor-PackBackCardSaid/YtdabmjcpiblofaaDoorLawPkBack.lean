/-
  PackBack: for every input the law returns true, and its arguments are as they were. No condition beside the given statement's own.
-/
import Derived.Test.YtdabmjcpiblofaaDoorPkLaws
import Derived.Test.YtdabmjcpiblofaaDoorPkYf
namespace Go.Proofs.YtdabmjcpiblofaaDoor.packBack
open Go.ChangeShapes Go.WideShapes Go.ChangeAt Go.RowKit
open Go.ChangeMaps (open_string shut_string)
set_option linter.unusedVariables false

set_option maxRecDepth 100000 in
set_option maxHeartbeats 3200000 in
theorem walk (A : Option Addr) (c n : Nat) (l : List ND) (hnl : l.length = n) (hnc : n ≤ c) (hcm : n ≤ 140737488351232) (hli : ∀ x ∈ l, i64 x.1 ∧ i64 x.2.1 ∧ i64 x.2.2) (w : World) (hr : Reads w w.heap.size 3 A n (l.flatMap ndCells)) (ht : Tab w) :
    Calls Tryd.prog 10 #[.slice A n c] w fun e w' => e = .returned (.bool true) ∧ Below w.heap.size w w' := by
  have H1 := Lib.hid (lawTrees_any A c n l hnl hnc hcm hli w hr)
  have HSZ := Lib.hid (treesL_inv (l.take 60) (by rw [List.length_take]; omega))
  have HT := Lib.hid ht
  clear hr ht hli hnl
  go_enter Tryd.func10, Tryd.ntmps10
  go_wp2_with fail
  refine (H1.out).mono ?_
  rintro e w1 ⟨A1, c1, rs, rfl, hpl, htl, hb1⟩
  have hsz : T.sizes (rs.map TX.plain) ≤ 60 := by rw [hpl]; exact HSZ.out.1
  have htiny : ∀ t ∈ rs.map TX.plain, tiny t := by rw [hpl]; exact HSZ.out.2
  have HLT := Lib.hid htl.lt
  have HB1 := Lib.hid hb1
  have H2 := Lib.hid (make_any A1 c1 rs w1 HLT.out (by omega) (HT.out.below hb1))
  have HS := Lib.hid hsz
  have HSM := Lib.hid (puts_tiny htiny hsz)
  have HVAL := Lib.hid (puts_valid (ts := rs.map TX.plain) (by omega))
  have HBACK := Lib.hid (puts_back (rs.map TX.plain))
  clear hpl htl hb1 hsz H1 htiny
  go_wp2_with fail
  refine (H2.out).mono ?_
  rintro e w2 ⟨u, rfl, hun, hur, huk, hb2⟩
  rw [← hun, ← hur] at HSM HVAL HBACK
  have HER : Hid (errP u.ns u.rs = 0) := errP_ok ⟨HVAL.out.1, HVAL.out.2.1⟩ HVAL.out.2.2.1
  obtain ⟨W2, hW2⟩ : ∃ W, w2.alloc (.cells #[.slice u.nA u.ps.length u.nc, .slice u.rA u.rs.length u.rc] 29) = W := ⟨_, rfl⟩
  have HX2 : Hid (Blk W2 w2.heap.size 29 #[.slice u.nA u.ps.length u.nc, .slice u.rA u.rs.length u.rc]) := by
    rw [← hW2]; exact Blk.new w2 _ _
  have HD2 : Hid (Below w2.heap.size w2 W2) := by
    rw [← hW2]; exact bal (Below.refl _ w2) _
  have HB2 : Hid (Below w.heap.size w W2) := HB1.out.trans ((hb2.trans (HD2.out.mono hb2.size)).mono HB1.out.size)
  have HU : Hid (u.ok W2 W2.heap.size) := huk.up (Nat.le_refl _) HD2.out
  have H3 := Lib.hid (trees_any u W2 HU.out)
  have HLT2 := Lib.hid ((HLT.out.up hb2).up HD2.out)
  have c20 := HX2.out.cell 0
  have c21 := HX2.out.cell 1
  simp at c20 c21
  unfold PkV.val at H3 ⊢
  clear hun hur huk hb2 H2
  go_wp2_with fail
  refine (H3.out).mono ?_
  rintro e w3 ⟨A3, c3, t3, rfl, htl3, hpl3, -, hb3⟩
  rw [HER.out]
  have HP3 : Hid (t3.map TX.plain = treesP u.ns u.rs) := hpl3 HER.out
  have HL3 := Lib.hid htl3.lt
  have HB3 : Hid (Below w.heap.size w w3) := HB2.out.trans (hb3.mono HB2.out.size)
  have HX3 := Lib.hid (HX2.out.below hb3 HX2.out.lt)
  have HU3 : Hid (u.ok w3 w3.heap.size) := HU.out.up (Nat.le_refl _) hb3
  have HLT3 := Lib.hid (HLT2.out.up hb3)
  have hlen := small_len HU3.out.fitV HSM.out
  have HLEN := Lib.hid hlen
  have H4 := Lib.hid (bytes_any u w3 HU3.out hlen)
  have c30 := HX3.out.cell 0
  have c31 := HX3.out.cell 1
  simp at c30 c31
  unfold PkV.val at H4
  clear htl3 hpl3 hb3 H3 c20 c21 hW2 hlen
  go_wp2_with fail
  refine (H4.out).mono ?_
  rintro e w4 ⟨A4, c4, rfl, hr4, hb4, hacc⟩
  have HPB := Lib.hid (packB_enc (small_fit HU3.out.fitV HSM.out))
  have HFT := Lib.hid HU3.out.fitV
  have HB4 : Hid (Below w.heap.size w w4) := HB3.out.trans (hb4.mono HB3.out.size)
  have H5 := Lib.hid (parse_any (by have := HLEN.out; omega) (acc_cap hacc rfl) hr4 (encP_byte u.ns u.rs) (HT.out.below HB4.out) (fun ns rs h => by
    have h2 := HPB.out
    rw [h] at h2
    injection h2 with h2
    injection h2 with h3 h4
    rw [h3, h4]; exact HFT.out))
  have HX4 := Lib.hid (HX3.out.below hb4 HX3.out.lt)
  have HU4 : Hid (u.ok w4 w4.heap.size) := HU3.out.up (Nat.le_refl _) hb4
  have HLT4 := Lib.hid (HLT3.out.up hb4)
  have HL4 := Lib.hid (HL3.out.up hb4)
  clear hr4 hb4 hacc H4 c30 c31
  go_wp2_with fail
  refine (H5.out).mono ?_
  rintro e w5 ⟨hcase, hb5⟩
  rcases hcase with ⟨v, hpk, hval, rfl, hvk⟩ | ⟨hno, -⟩
  rotate_left
  · exact absurd HVAL.out (hno _ _ HPB.out)
  have hvu : v.ns = u.ns ∧ v.rs = u.rs := by
    have h2 := HPB.out
    rw [hpk] at h2
    injection h2 with h2
    injection h2 with h3 h4
    exact ⟨h3, h4⟩
  have HVE : Hid (errP v.ns v.rs = 0) := by unfold Hid; rw [hvu.1, hvu.2]; exact HER.out
  obtain ⟨W5, hW5⟩ : ∃ W, w5.alloc (.cells #[.slice v.nA v.ps.length v.nc, .slice v.rA v.rs.length v.rc] 29) = W := ⟨_, rfl⟩
  have HX5 : Hid (Blk W5 w5.heap.size 29 #[.slice v.nA v.ps.length v.nc, .slice v.rA v.rs.length v.rc]) := by
    rw [← hW5]; exact Blk.new w5 _ _
  have HD5 : Hid (Below w5.heap.size w5 W5) := by
    rw [← hW5]; exact bal (Below.refl _ w5) _
  have HD45 := Lib.hid (hb5.trans (HD5.out.mono hb5.size))
  have HB5 : Hid (Below w.heap.size w W5) := HB4.out.trans (HD45.out.mono HB4.out.size)
  have HV5 : Hid (v.ok W5 W5.heap.size) := hvk.up (Nat.le_refl _) HD5.out
  have H6 := Lib.hid (trees_any v W5 HV5.out)
  have HVU := Lib.hid hvu
  have HXU := Lib.hid (HX4.out.below HD45.out HX4.out.lt)
  have HU5 : Hid (u.ok W5 W5.heap.size) := HU4.out.up (Nat.le_refl _) HD45.out
  have HLT5 := Lib.hid (HLT4.out.up HD45.out)
  have HL5 := Lib.hid (HL4.out.up HD45.out)
  have c50 := HX5.out.cell 0
  have c51 := HX5.out.cell 1
  simp at c50 c51
  unfold PkV.val at H6 ⊢
  clear hpk hval hvk hb5 H5 hvu
  go_wp2_with fail
  refine (H6.out).mono ?_
  rintro e w6 ⟨A6, c6, t6, rfl, htl6, hpl6, -, hb6⟩
  rw [HVE.out]
  have HP6 : Hid (t6.map TX.plain = treesP u.ns u.rs) := by have := hpl6 HVE.out; rw [HVU.out.1, HVU.out.2] at this; exact this
  have HL6 := Lib.hid htl6.lt
  have HB6 : Hid (Below w.heap.size w w6) := HB5.out.trans (hb6.mono HB5.out.size)
  have HX6 := Lib.hid (HXU.out.below hb6 HXU.out.lt)
  have HU6 : Hid (u.ok w6 w6.heap.size) := HU5.out.up (Nat.le_refl _) hb6
  have HLT6 := Lib.hid (HLT5.out.up hb6)
  have HL36 := Lib.hid (HL5.out.up hb6)
  have hl0 := len_sizes (rs.map TX.plain)
  rw [List.length_map] at hl0
  have hl3 : t3.length = rs.length := by have := congrArg List.length HP3.out; rw [HBACK.out.2.2] at this; simpa using this
  have hl6 : t6.length = rs.length := by have := congrArg List.length HP6.out; rw [HBACK.out.2.2] at this; simpa using this
  have H7 := Lib.hid (sameTrees_any A3 A1 c3 c1 t3 rs w6 HL36.out HLT6.out (by have := HS.out; omega) (by have := HS.out; omega))
  have H8 : Hid (∀ w7, Below w6.heap.size w6 w7 → Calls Tryd.prog 20 #[.slice A6 t6.length c6, .slice A1 rs.length c1] w7 (RetB w7 (t6.map TX.plain = rs.map TX.plain))) := fun w7 h => sameTrees_any A6 A1 c6 c1 t6 rs w7 (HL6.out.up h) (HLT6.out.up h) (by have := HS.out; omega) (by have := HS.out; omega)
  have HE7 : Hid (t3.map TX.plain = rs.map TX.plain) := by unfold Hid; rw [HP3.out, HBACK.out.2.2]
  have HE8 : Hid (t6.map TX.plain = rs.map TX.plain) := by unfold Hid; rw [HP6.out, HBACK.out.2.2]
  clear htl6 hpl6 hb6 H6 c50 c51 hW5 hl0 hl3 hl6
  go_wp2_with fail
  refine (H7.out).mono ?_
  rintro e w7 ⟨b7, hb7', rfl, hb7⟩
  obtain rfl : b7 = true := hb7'.2 HE7.out
  have H8' := Lib.hid (H8.out w7 hb7)
  have BL7 := Lib.hid hb7
  clear hb7 hb7' H7 H8
  go_wp2_with fail
  refine (H8'.out).mono ?_
  rintro e w8 ⟨b8, hb8', rfl, hb8⟩
  obtain rfl : b8 = true := hb8'.2 HE8.out
  have BL8 := Lib.hid (BL7.out.trans (hb8.mono BL7.out.size))
  have HX8 := Lib.hid (HX6.out.below BL8.out HX6.out.lt)
  have HB8 : Hid (Below w.heap.size w w8) := HB6.out.trans (BL8.out.mono HB6.out.size)
  have H9 := Lib.hid (valid_any u w8 (HU6.out.up (Nat.le_refl _) BL8.out) (HT.out.below HB8.out))
  have c80 := HX8.out.cell 0
  have c81 := HX8.out.cell 1
  simp at c80 c81
  unfold PkV.val at H9
  clear hb8 hb8' H8'
  go_wp2_with fail
  refine (H9.out).mono ?_
  rintro e w9 ⟨b9, hb9', rfl, hb9⟩
  obtain rfl : b9 = true := hb9'.2 HVAL.out
  have HB9 : Hid (Below w.heap.size w w9) := HB8.out.trans (hb9.mono HB8.out.size)
  have H10 := Lib.hid (awake_any w9 (HT.out.below HB9.out))
  clear hb9 hb9' H9
  go_wp2_with fail
  refine (H10.out).mono ?_
  rintro e w10 ⟨rfl, hb10⟩
  have HB10 : Hid (Below w.heap.size w w10) := HB9.out.trans (hb10.mono HB9.out.size)
  clear hb10 H10
  go_wp2_with fail
  go_ret
  exact ⟨rfl, HB10.out⟩
theorem own : ownKnob Tryd.prog.godebug = none := by kernel_rfl
theorem laidOut : laidOutB Tryd.prog = true := by kernel_rfl
theorem specN (H : Type) (ds : List (DataW H)) (h : ds.length = 1) : Rows.packBackSpec.fn H (ds ++ []) = { results := [.lit (.bool true)], args := ds } := by
  match ds, h with
  | [_], _ => rfl
theorem reads (os : Os) {H : Type} (enc : TypeId × Value → H) : ∃ places, DataW.whole enc Tryd.prog ((laidWorld os).forCall (fun _ _ => 0) ⟨#[], #[.slice none 0 0], []⟩).memory Tryd.f10.params.toList Rows.packBackSpec.vars false (#[.slice none 0 0] : Array Value).toList 8 = some ([.nil], [], places) :=
  ⟨[], by kernel_rfl⟩

set_option maxRecDepth 100000 in
theorem lifted (os : Os) (started : os.Started) (H : Type) (enc : TypeId × Value → H) (F : Stop.Interp) :
    ReturnsInHanded {} Tryd.checked os 10 .any ((OpenSpec.ofChange Rows.packBackSpec).preRow enc Tryd.prog Tryd.f10 Rows.packBackRow.domain false Rows.packBackRow.laid) (((OpenSpec.ofChange Rows.packBackSpec).at F).post enc Tryd.prog Tryd.f10 false true false false) := by
  obtain ⟨places, hx⟩ := reads os enc
  refine law_of_walk_laid (C := Tryd.checked) own started (by kernel_rfl) Tryd.func10 rfl rfl Tryd.underlying4 laidOut (by kernel_rfl) (fun ds h => specN H ds (h.trans (by kernel_rfl)))
    (witness_row_at (enc := enc) (C := Tryd.checked) false (laidWorld os) #[.slice none 0 0] rfl (by kernel_rfl) (by kernel_rfl) (by kernel_rfl)
      (OpenSpec.preRow_of_cond 8 hx (by kernel_rfl) (fun k hk => by cases hk) (by kernel_rfl) (laid_met os #[.slice none 0 0]))) ?_
  intro W base args ds p hval hA hsz hL
  have hval' : ∀ (j : Nat) t v, Tryd.f10.params[j]? = some t → args[j]? = some v → Value.okWide Tryd.prog W .any base t v := hval
  rw [Tryd.params10] at hval' hA hsz
  obtain ⟨v0, vs0, d0, ds0, p0, q0, hargs, rfl, rfl, h0, r0⟩ := trodAll_cons hA
  obtain ⟨rfl, rfl, rfl⟩ := trodAll_nil r0
  obtain rfl : args = #[v0] := by cases args; simp_all
  obtain ⟨a0, len0, cap0, rfl⟩ := okWide_slice Tryd.underlying22 (hval' 0 22 v0 rfl rfl)
  obtain ⟨nc0, nm0, l0, nl0, nr0, ni0⟩ := open_nodes h0 (sm_arg hsz (j := 0) (t := 22) rfl rfl)
  exact walk a0 cap0 len0 l0 nl0 nc0 nm0 ni0 W nr0 (tab_of_laid hL)

theorem said : Rows.PackBackSaid :=
  OpenClaim.holds_of_cond 10 Tryd.f10 rfl rfl rfl rfl rfl rfl rfl ⟨rfl, rfl, rfl, rfl, rfl⟩ rfl rfl rfl rfl rfl (by kernel_rfl) Tryd.func10 (by kernel_rfl)
    (of_decide_eq_true (by kernel_rfl)) (by unfold Func.isWrapper; first | (rw [if_pos (by decide +kernel)]; kernel_rfl) | (rw [if_neg (by decide +kernel)]; exact ⟨rfl, rfl⟩))
    (fun os started H enc _ F => by rw [OpenClaim.pre_eq_preRow]; exact lifted os started H enc F)

theorem plain (f : FuncId) (fn : Func) (hf : Tryd.pinned.checked.prog.funcNamed Rows.packBackRow.func = some f) (hfn : Tryd.pinned.checked.prog.funcs[f]? = some fn) :
    false = Tryd.pinned.checked.prog.looks [] ∧ ∀ (j : Nat) t, fn.params[j]? = some t → Tryd.pinned.checked.prog.wantsStandIn t = false := by
  obtain rfl : f = 10 := Option.some.inj ((show Tryd.prog.funcNamed Rows.packBackRow.func = some 10 by kernel_rfl).symm.trans hf) |>.symm
  obtain rfl : fn = Tryd.f10 := (Option.some.inj (Tryd.func10.symm.trans hfn)).symm
  refine ⟨by kernel_rfl, fun j t ht => ?_⟩
  have hall : Tryd.f10.params.toList.all (fun t => Tryd.prog.wantsStandIn t == false) = true := by kernel_rfl
  have hm := List.all_eq_true.1 hall t (by rw [Array.mem_toList_iff]; exact Array.mem_of_getElem? ht)
  have hm' : Tryd.prog.wantsStandIn t = false := by simpa using hm
  exact hm'

theorem proved : Rows.PackBackCardSaid :=
  Claim7.holds_tied_plain_at .later [] _ _ _ _ said (fun _ h => by cases h) (by kernel_rfl) (fun _ h => by cases h) packBack_row_tie rfl ⟨rfl, rfl⟩ (by kernel_rfl) rfl plain (by kernel_rfl)
end Go.Proofs.YtdabmjcpiblofaaDoor.packBack
