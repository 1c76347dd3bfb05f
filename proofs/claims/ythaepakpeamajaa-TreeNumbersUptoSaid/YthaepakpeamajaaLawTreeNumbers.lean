/-
  TreeNumbers: for every input of bulk at most 1048576 the law returns true, and its arguments are as they were. No condition beside the given statement's own.
-/
import Derived.Test.YthaepakpeamajaaTrY
namespace Go.Proofs.Ythaepakpeamajaa.treeNumbers
open Go.ChangeShapes Go.WideShapes Go.ChangeAt Go.RowKit
open Go.ChangeMaps (open_string shut_string)
set_option linter.unusedVariables false

set_option maxRecDepth 100000 in
set_option maxHeartbeats 3200000 in
theorem walk (t : TX) (w : World) (h : Tr w w.heap.size t) (hs : t.plain.size ≤ 1048576) :
    Calls Try.prog 7 #[t.val] w fun e w' => e = .returned (.bool true) ∧ Below w.heap.size w w' := by
  unfold TX.val
  obtain ⟨W, hW⟩ : ∃ W, w.alloc (.cells #[.int .i64 t.kind, .string t.text, .slice t.lA t.leads.length t.lc, .slice t.kA t.kids.length t.kc] 25) = W := ⟨_, rfl⟩
  have HBW : Hid (Below w.heap.size w W) := by subst hW; exact (Below.refl _ w).alloc (Nat.le_refl _) _
  have HX : Hid (Blk W w.heap.size 25 #[.int .i64 t.kind, .string t.text, .slice t.lA t.leads.length t.lc, .slice t.kA t.kids.length t.kc]) := by subst hW; exact Blk.new w 25 _
  have c0 := HX.out.cell 0
  have c1 := HX.out.cell 1
  have c2 := HX.out.cell 2
  have c3 := HX.out.cell 3
  simp at c0 c1 c2 c3
  have HT := Lib.hid (h.up (Nat.le_refl _) HBW.out)
  have HL := Lib.hid (light_any t none 0 0 W HT.out (by omega))
  unfold TX.val at HL
  clear h
  go_enter Try.func7, Try.ntmps7
  go_wp2_with fail
  refine (HL.out).mono ?_
  rintro e w1 ⟨rfl, hb1⟩
  have HB1 := Lib.hid hb1
  have HBL : Hid ((decide (wrap64 (t.plain.size : Int) ≤ 300) && decide (0 ≤ 100)) = true → t.plain.size ≤ 300) := by
    intro h
    have h1 : wrap64 (t.plain.size : Int) = (t.plain.size : Int) := IntWalk.wrap64_in _ (by omega)
    rw [h1] at h
    simp at h
    omega
  obtain ⟨bl, hbl⟩ : ∃ bl, (decide (wrap64 (t.plain.size : Int) ≤ 300) && decide (0 ≤ 100)) = bl := ⟨_, rfl⟩
  rw [hbl] at HBL ⊢
  clear hb1 HL hbl
  cases bl
  · go_wp2_with fail
    refine (awake_any _).mono ?_
    rintro e w8 ⟨rfl, hb8⟩
    have HB8 := Lib.hid (HBW.out.trans ((HB1.out.trans (hb8.mono HB1.out.size)).mono HBW.out.size))
    clear hb8
    go_wp2_with fail
    go_ret
    exact ⟨rfl, HB8.out⟩
  · have hs3 := HBL.out rfl
    have HX1 := Lib.hid (HX.out.below HB1.out HX.out.lt)
    have d0 := HX1.out.cell 0
    have d1 := HX1.out.cell 1
    have d2 := HX1.out.cell 2
    have d3 := HX1.out.cell 3
    simp at d0 d1 d2 d3
    have HA := Lib.hid (paths_any t w1 (HT.out.up (Nat.le_refl _) HB1.out) (by omega))
    unfold TX.val at HA
    go_wp2_with fail
    refine (HA.out).mono ?_
    rintro e w2 ⟨A, c, xs, rfl, hpr, hpl, hb2⟩
    have HPR := Lib.hid hpr
    have HPL := Lib.hid hpl
    have HB2 := Lib.hid (HB1.out.trans (hb2.mono HB1.out.size))
    have hlen : xs.length = t.plain.size := by rw [← paths_len t.plain [], ← hpl, List.length_map]
    have HLEN := Lib.hid hlen
    have hxl : xs.length ≤ 300 := by omega
    clear hpr hpl hb2 HA d0 d1 d2 d3 hlen
    have HW := Lib.hid hW
    clear hW c0 c1 c2 c3
    go_wp2_with fail
    go_loopw [4] (fun i wr => ∃ j : Nat, j ≤ xs.length ∧ i = .int .i64 (j : Int) ∧ Hid (Below w2.heap.size w2 wr)) (fun i _ => xs.length - (intOf i).toNat)
    case atStart => exact ⟨0, by omega, rfl, Below.refl _ _⟩
    case round =>
      obtain ⟨j, hj, rfl, HB3⟩ := hrel
      have HBT := Lib.hid (HB2.out.trans (HB3.out.mono HB2.out.size))
      by_cases hlt : j < xs.length
      · obtain ⟨x, hx⟩ : ∃ x, xs[j]? = some x := ⟨_, List.getElem?_eq_getElem hlt⟩
        obtain ⟨pb, po, u, rfl, hpb, hu, hcu⟩ := HPR.out.1.at1 hlt
        obtain rfl : u = .slice x.A x.l.length x.c := by rw [List.getElem?_map, hx] at hu; simpa [PX.head] using hu.symm
        have hpath : (t.plain.paths [])[j]? = some x.l := by rw [← HPL.out, List.getElem?_map, hx]; rfl
        obtain ⟨hnum, -, hin⟩ := paths_numW t hpath (by omega)
        have hplen := paths_len_le t [] x.l (List.mem_of_getElem? hpath)
        have HC : Hid (∀ w' : World, Below w2.heap.size w2 w' → Calls Try.prog 14 #[.agg #[.int .i64 t.kind, .string t.text, .slice t.lA t.leads.length t.lc, .slice t.kA t.kids.length t.kc], .slice x.A x.l.length x.c] w' (Ret w' (.int .i64 (j : Int)))) := fun w' hw => by
          have := number_any t x.A x.c x.l w' (HT.out.up (Nat.le_refl _) (HB2.out.trans (hw.mono HB2.out.size))) (((HPR.out.2 x (List.mem_of_getElem? hx)).below hw).more hw.size) (by simp at hplen; omega) (fun y hy => by have := hin y hy; omega)
          rw [hnum] at this
          exact this
        have HSK : Hid (∀ w' : World, Below w2.heap.size w2 w' → w'.cell? ⟨w.heap.size, 0, none⟩ = some (.int .i64 t.kind) ∧ w'.cell? ⟨w.heap.size, 1, none⟩ = some (.string t.text) ∧ w'.cell? ⟨w.heap.size, 2, none⟩ = some (.slice t.lA t.leads.length t.lc) ∧ w'.cell? ⟨w.heap.size, 3, none⟩ = some (.slice t.kA t.kids.length t.kc) ∧ w'.cell? ⟨pb, po + j, none⟩ = some (.slice x.A x.l.length x.c)) := fun w' hw => by
          have q1 := HX.out.below (HB2.out.trans (hw.mono HB2.out.size)) HX.out.lt
          exact ⟨by rw [q1.cell]; rfl, by rw [q1.cell]; rfl, by rw [q1.cell]; rfl, by rw [q1.cell]; rfl, (hw.cell (p := ⟨pb, po + j, none⟩) hpb).trans hcu⟩
        have HD : Hid (Below w2.heap.size w2 wr.drew) := below_drewN HB3.out 1
        have i0 : (0 : Int) ≤ (j : Int) := by omega
        have i1 : (j : Int) < (xs.length : Int) := by omega
        clear hx hu hpath hnum hin hplen hcu hpb
        go_wp2_with fail
        go_region_held3 (fun w' => w'.cell? ⟨w.heap.size, 0, none⟩ = some (.int .i64 t.kind) ∧ w'.cell? ⟨w.heap.size, 1, none⟩ = some (.string t.text) ∧ w'.cell? ⟨w.heap.size, 2, none⟩ = some (.slice t.lA t.leads.length t.lc) ∧ w'.cell? ⟨w.heap.size, 3, none⟩ = some (.slice t.kA t.kids.length t.kc) ∧ w'.cell? ⟨pb, po + j, none⟩ = some (.slice x.A x.l.length x.c)) (first | exact HSK.out _ HD.out | exact HSK.out _ HD2.out) (first | (go_at_call 14; refine (HC.out _ HD.out).mono ?_; rintro e w4 ⟨rfl, hb4⟩; have HD2 := Lib.hid (HD.out.trans (hb4.mono HD.out.size)); clear hb4))
        go_wp2_with fail
        go_roundw
        case rel => exact ⟨j + 1, by omega, by go_num, HD2⟩
        case measure => simp [intOf]; omega
      · have hpos : 0 < xs.length := by have := plain_pos t; have := HLEN.out; omega
        obtain ⟨x, hx⟩ : ∃ x, xs[0]? = some x := ⟨_, List.getElem?_eq_getElem hpos⟩
        have hx0 : x.l = [] := by
          have h1 : (t.plain.paths [])[0]? = some x.l := by rw [← HPL.out, List.getElem?_map, hx]; rfl
          rw [paths_plain] at h1
          simpa using h1.symm
        obtain ⟨pb, po, u, rfl, hpb, hu, hcu⟩ := HPR.out.1.at1 hpos
        obtain rfl : u = .slice x.A 0 x.c := by rw [List.getElem?_map, hx] at hu; simp [PX.head, hx0] at hu; exact hu.symm
        rw [Nat.add_zero] at hcu
        have HCU := Lib.hid hcu
        have HPBL := Lib.hid hpb
        have i1 : (0 : Int) < (xs.length : Int) := by omega
        clear hx hx0 hu hcu hpb
        go_wp2_with fail
        refine (awake_any _).mono ?_
        rintro e w5 ⟨rfl, hb5⟩
        have HB5 := Lib.hid (HB3.out.trans (hb5.mono HB3.out.size))
        have HBT5 := Lib.hid (HB2.out.trans (HB5.out.mono HB2.out.size))
        have HX5 := Lib.hid (HX.out.below HBT5.out HX.out.lt)
        have d0 := HX5.out.cell 0
        have d1 := HX5.out.cell 1
        have d2 := HX5.out.cell 2
        have d3 := HX5.out.cell 3
        simp at d0 d1 d2 d3
        have HS := Lib.hid (size_any t w5 (HT.out.up (Nat.le_refl _) HBT5.out))
        unfold SizeAt TX.val at HS
        rw [show wrap64 (t.plain.size : Int) = (xs.length : Int) from (IntWalk.wrap64_in _ (by omega)).trans (by rw [HLEN.out])] at HS
        clear hb5
        go_wp2_with fail
        refine (HS.out).mono ?_
        rintro e w6 ⟨rfl, hb6⟩
        have HB6 := Lib.hid (HB5.out.trans (hb6.mono HB5.out.size))
        have k0 : w6.cell? ⟨pb, po, none⟩ = some (.slice x.A 0 x.c) := (HB6.out.cell (p := ⟨pb, po, none⟩) HPBL.out).trans HCU.out
        clear hb6
        go_wp2_with fail
        go_ret
        exact ⟨rfl, HBW.out.trans ((HB2.out.trans (HB6.out.mono HB2.out.size)).mono HBW.out.size)⟩


theorem own : ownKnob Try.prog.godebug = none := by kernel_rfl
theorem laidOut : laidOutB Try.prog = true := by kernel_rfl
theorem specN (H : Type) (ds : List (DataW H)) (h : ds.length = 1) : Rows.treeNumbersSpec.fn H (ds ++ []) = { results := [.lit (.bool true)], args := ds } := by
  match ds, h with
  | [_], _ => rfl

set_option maxRecDepth 100000 in
theorem lifted (os : Os) (started : os.Started) (H : Type) (enc : TypeId × Value → H) (F : Stop.Interp) :
    ReturnsInHanded {} Try.checked os 7 .any ((Rows.OpenSpec.upto Rows.treeNumbersSpec).pre6 enc Try.prog Try.f7 Rows.treeNumbersUptoRow.domain false) (((Rows.OpenSpec.upto Rows.treeNumbersSpec).at F).post enc Try.prog Try.f7 false true false false) := by
  refine law_of_walk_upto (C := Try.checked) own started (by kernel_rfl) Try.func7 rfl rfl Try.underlying4 laidOut (by kernel_rfl) (fun ds h => specN H ds (h.trans (by kernel_rfl)))
    (OpenSpec.witness (enc := enc) (C := Try.checked) (s := Rows.OpenSpec.upto Rows.treeNumbersSpec) (k := Rows.uptoSmall) rfl false ⟨#[], #[.agg #[.int .i64 0, .string ByteArray.empty, .slice none 0 0, .slice none 0 0]], []⟩ 8 (by kernel_rfl) (by kernel_rfl) (by kernel_rfl) (x := ([.agg [.lit (.int .i64 0), .lit (.string []), .nil, .nil]], [], [])) (by kernel_rfl) rfl (by kernel_rfl)) ?_
  intro W base args ds p hval hA hsz hk
  have hval' : ∀ (j : Nat) t v, Try.f7.params[j]? = some t → args[j]? = some v → Value.okWide Try.prog W .any base t v := hval
  rw [Try.params7] at hval' hA hsz
  obtain ⟨v0, vs0, d0, ds0, p0, q0, hargs, rfl, rfl, h0, r0⟩ := trodAll_cons hA
  obtain ⟨rfl, rfl, rfl⟩ := trodAll_nil r0
  obtain rfl : args = #[v0] := by cases args; simp_all
  obtain ⟨t0, rfl, ht0, hs0⟩ := arg_treeB (hval' 0 25 v0 rfl rfl) h0 (sm_arg hsz (j := 0) rfl rfl)
  simp only [Rows.uptoBulkAll] at hk
  exact walk t0 W ht0 (by omega)

theorem proved : Rows.TreeNumbersUptoSaid :=
  OpenClaim.holds_of_cond 7 Try.f7 rfl rfl rfl rfl rfl rfl rfl ⟨rfl, rfl, rfl, rfl, rfl⟩ rfl rfl rfl rfl rfl (by kernel_rfl) Try.func7 (by kernel_rfl)
    (of_decide_eq_true (by kernel_rfl)) (by unfold Func.isWrapper; first | (rw [if_pos (by decide +kernel)]; kernel_rfl) | (rw [if_neg (by decide +kernel)]; exact ⟨rfl, rfl⟩))
    (fun os started H enc _ F => lifted os started H enc F)
end Go.Proofs.Ythaepakpeamajaa.treeNumbers
