/-
  TreePuts: for every input of bulk at most 1048576 the law returns true, and its arguments are as they were. No condition beside the given statement's own.
-/
import Derived.Test.YthaepakpeamajaaTrPa
namespace Go.Proofs.Ythaepakpeamajaa.treePuts
open Go.ChangeShapes Go.WideShapes Go.ChangeAt Go.RowKit
open Go.ChangeMaps (open_string shut_string)
set_option linter.unusedVariables false

set_option maxRecDepth 100000 in
set_option maxHeartbeats 3200000 in
theorem walk (t u : TX) (n : Int) (w : World) (h : Tr w w.heap.size t) (hu : Tr w w.heap.size u) (hs : t.plain.size ≤ 1048576) (hus : u.plain.size ≤ 1048576) (hn : -9223372036854775808 ≤ n ∧ n ≤ 9223372036854775807) :
    Calls Try.prog 8 #[t.val, .int .i64 n, u.val] w fun e w' => e = .returned (.bool true) ∧ Below w.heap.size w w' := by
  unfold TX.val
  obtain ⟨W, hW⟩ : ∃ W, (w.alloc (.cells #[.int .i64 t.kind, .string t.text, .slice t.lA t.leads.length t.lc, .slice t.kA t.kids.length t.kc] 25)).alloc (.cells #[.int .i64 u.kind, .string u.text, .slice u.lA u.leads.length u.lc, .slice u.kA u.kids.length u.kc] 25) = W := ⟨_, rfl⟩
  have HBW : Hid (Below w.heap.size w W) := by subst hW; exact ((Below.refl _ w).alloc (Nat.le_refl _) _).alloc (by simp) _
  have HX : Hid (Blk W w.heap.size 25 #[.int .i64 t.kind, .string t.text, .slice t.lA t.leads.length t.lc, .slice t.kA t.kids.length t.kc]) := by subst hW; exact (Blk.new w 25 _).alloc _
  have HY : Hid (Blk W (w.heap.size + 1) 25 #[.int .i64 u.kind, .string u.text, .slice u.lA u.leads.length u.lc, .slice u.kA u.kids.length u.kc]) := by subst hW; exact Blk.new' 25 _ (by simp)
  have c0 := HX.out.cell 0
  have c1 := HX.out.cell 1
  have c2 := HX.out.cell 2
  have c3 := HX.out.cell 3
  simp at c0 c1 c2 c3
  have HT := Lib.hid (h.up (Nat.le_refl _) HBW.out)
  have HU := Lib.hid (hu.up (Nat.le_refl _) HBW.out)
  have HL := Lib.hid (light_any t none 0 0 W HT.out (by omega))
  unfold TX.val at HL
  clear h hu
  go_enter Try.func8, Try.ntmps8
  go_wp2_with fail
  refine (HL.out).mono ?_
  rintro e w1 ⟨rfl, hb1⟩
  have HB1 := Lib.hid hb1
  have HBLt : Hid ((decide (wrap64 (t.plain.size : Int) ≤ 300) && decide (0 ≤ 100)) = true → t.plain.size ≤ 300) := by
    intro h
    have h1 : wrap64 (t.plain.size : Int) = (t.plain.size : Int) := IntWalk.wrap64_in _ (by omega)
    rw [h1] at h
    simp at h
    omega
  obtain ⟨bl, hbl⟩ : ∃ bl, (decide (wrap64 (t.plain.size : Int) ≤ 300) && decide (0 ≤ 100)) = bl := ⟨_, rfl⟩
  rw [hbl] at HBLt ⊢
  clear hb1 HL hbl
  cases bl
  · go_wp2_with fail
    refine (awake_any _).mono ?_
    rintro e w8 ⟨rfl, hb8⟩
    have HB8 := Lib.hid (HBW.out.trans ((HB1.out.trans (hb8.mono HB1.out.size)).mono HBW.out.size))
    clear hb8
    go_wp2_with fail
    go_ret
    exact ⟨rfl, HB8.out⟩
  · have hs3 := HBLt.out rfl
    have HY1 := Lib.hid (HY.out.below HB1.out HY.out.lt)
    have d0 := HY1.out.cell 0
    have d1 := HY1.out.cell 1
    have d2 := HY1.out.cell 2
    have d3 := HY1.out.cell 3
    simp at d0 d1 d2 d3
    have HL := Lib.hid (light_any u none 0 0 w1 (HU.out.up (Nat.le_refl _) HB1.out) (by omega))
    unfold TX.val at HL
    go_wp2_with fail
    refine (HL.out).mono ?_
    rintro e w2 ⟨rfl, hb2⟩
    have HB2 := Lib.hid (HB1.out.trans (hb2.mono HB1.out.size))
    have HBLu : Hid ((decide (wrap64 (u.plain.size : Int) ≤ 300) && decide (0 ≤ 100)) = true → u.plain.size ≤ 300) := by
      intro h
      have h1 : wrap64 (u.plain.size : Int) = (u.plain.size : Int) := IntWalk.wrap64_in _ (by omega)
      rw [h1] at h
      simp at h
      omega
    obtain ⟨bl, hbl⟩ : ∃ bl, (decide (wrap64 (u.plain.size : Int) ≤ 300) && decide (0 ≤ 100)) = bl := ⟨_, rfl⟩
    rw [hbl] at HBLu ⊢
    clear hb2 d0 d1 d2 d3 HL hbl
    cases bl
    · go_wp2_with fail
      refine (awake_any _).mono ?_
      rintro e w8 ⟨rfl, hb8⟩
      have HB8 := Lib.hid (HBW.out.trans ((HB2.out.trans (hb8.mono HB2.out.size)).mono HBW.out.size))
      clear hb8
      go_wp2_with fail
      go_ret
      exact ⟨rfl, HB8.out⟩
    · have hu3 := HBLu.out rfl
      have HX2 := Lib.hid (HX.out.below HB2.out HX.out.lt)
      have d0 := HX2.out.cell 0
      have d1 := HX2.out.cell 1
      have d2 := HX2.out.cell 2
      have d3 := HX2.out.cell 3
      simp at d0 d1 d2 d3
      have HA := Lib.hid (paths_anyC t w2 (HT.out.up (Nat.le_refl _) HB2.out) (by omega))
      unfold TX.val at HA
      go_wp2_with fail
      refine (HA.out).mono ?_
      rintro e w3 ⟨A, c, xs, rfl, hpr, hpl, hb3, hcap⟩
      have HPR := Lib.hid hpr
      have HPL := Lib.hid hpl
      have HCAP := Lib.hid hcap
      have HB3 := Lib.hid (HB2.out.trans (hb3.mono HB2.out.size))
      have hlen : xs.length = t.plain.size := by rw [← paths_len t.plain [], ← hpl, List.length_map]
      have HLEN := Lib.hid hlen
      have hxl : xs.length ≤ 300 := by omega
      clear hpr hpl hb3 hcap HA d0 d1 d2 d3 hlen
      have HX3 := Lib.hid (HX.out.below HB3.out HX.out.lt)
      have d0 := HX3.out.cell 0
      have d1 := HX3.out.cell 1
      have d2 := HX3.out.cell 2
      have d3 := HX3.out.cell 3
      simp at d0 d1 d2 d3
      have HS := Lib.hid (rsize_any t w3 (HT.out.up (Nat.le_refl _) HB3.out))
      unfold SizeAt TX.val at HS
      rw [show wrap64 (t.plain.size : Int) = (xs.length : Int) from (IntWalk.wrap64_in _ (by omega)).trans (by rw [HLEN.out])] at HS
      go_wp2_with fail
      refine (HS.out).mono ?_
      rintro e w4 ⟨rfl, hb4⟩
      have HB34 := Lib.hid hb4
      have HB4 := Lib.hid (HB3.out.trans (hb4.mono HB3.out.size))
      clear hb4 d0 d1 d2 d3 HS c0 c1 c2 c3
      have HW := Lib.hid hW
      clear hW
      have e1 : ((xs.length : Int) != (xs.length : Int)) = false := by simp
      have e2 : (xs.length != xs.length) = false := by simp
      by_cases hneg : n < 0
      · have k1 : decide (n < 0) = true := by simpa using hneg
        go_wp2_with fail
        refine (awake_any _).mono ?_
        rintro e w8 ⟨rfl, hb8⟩
        have HB8 := Lib.hid (HBW.out.trans ((HB4.out.trans (hb8.mono HB4.out.size)).mono HBW.out.size))
        clear hb8
        go_wp2_with fail
        go_ret
        exact ⟨rfl, HB8.out⟩
      have k1 : decide (n < 0) = false := by simpa using hneg
      obtain ⟨m, rfl⟩ : ∃ m : Nat, n = m := ⟨n.toNat, by omega⟩
      by_cases hge : xs.length ≤ m
      · have k2 : decide (xs.length ≤ m) = true := by simpa using hge
        have k3 : decide ((xs.length : Int) ≤ (m : Int)) = true := by simpa using hge
        go_wp2_with fail
        refine (awake_any _).mono ?_
        rintro e w8 ⟨rfl, hb8⟩
        have HB8 := Lib.hid (HBW.out.trans ((HB4.out.trans (hb8.mono HB4.out.size)).mono HBW.out.size))
        clear hb8
        go_wp2_with fail
        go_ret
        exact ⟨rfl, HB8.out⟩
      have k2 : decide (xs.length ≤ m) = false := by simpa using hge
      have k3 : decide ((xs.length : Int) ≤ (m : Int)) = false := by simpa using hge
      have hlt : m < xs.length := by omega
      obtain ⟨x, hx⟩ : ∃ x, xs[m]? = some x := ⟨_, List.getElem?_eq_getElem hlt⟩
      obtain ⟨pb, po, -, rfl, hpb, -, -⟩ := HPR.out.1.at1 hlt
      have HPC : Hid (∀ (j : Nat) (z : PX), xs[j]? = some z → ∀ w', Below w4.heap.size w4 w' → w'.cell? ⟨pb, po + j, none⟩ = some (.slice z.A z.l.length z.c)) := fun j z hz w' hw => by
        obtain ⟨pb', po', v, e, hb', hv, hc⟩ := HPR.out.1.at1 (List.getElem?_eq_some_iff.1 hz).1
        injection e with e
        injection e with e5 e6
        subst e5 e6
        rw [List.getElem?_map, hz] at hv
        have hv' : v = z.head := by simpa using hv.symm
        subst hv'
        exact ((HB34.out.trans (hw.mono HB34.out.size)).cell (p := ⟨pb, po + j, none⟩) hpb).trans hc
      have HPZ : Hid (∀ (j : Nat) (z : PX), xs[j]? = some z → (∃ s, t.plain.find z.l = some s) ∧ z.l.length ≤ 1000 ∧ z.l.length ≤ z.c ∧ (∀ y ∈ z.l, -9223372036854775808 ≤ y ∧ y ≤ 9223372036854775807) ∧ ∀ w', Below w4.heap.size w4 w' → Reads w' w'.heap.size 1 z.A z.l.length (z.l.map (Value.int .i64))) := fun j z hz => by
        have hpath : (t.plain.paths [])[j]? = some z.l := by rw [← HPL.out, List.getElem?_map, hz]; rfl
        have hjl := (List.getElem?_eq_some_iff.1 hz).1
        obtain ⟨-, ⟨s, hs'⟩, hin⟩ := paths_numW t hpath (by omega)
        have hplen := paths_len_le t [] z.l (List.mem_of_getElem? hpath)
        have hf : t.plain.find z.l = some s.plain := by rw [← find_plain, hs']; rfl
        refine ⟨⟨_, hf⟩, by simp at hplen; omega, HCAP.out z (List.mem_of_getElem? hz), fun y hy => by have := hin y hy; omega, fun w' hw => ?_⟩
        exact ((HPR.out.2 z (List.mem_of_getElem? hz)).below (HB34.out.trans (hw.mono HB34.out.size))).more (HB34.out.trans (hw.mono HB34.out.size)).size
      obtain ⟨⟨s, hfs⟩, hxl2, hxc, hxb, hxr⟩ := HPZ.out m x hx
      obtain ⟨T', hT1, hT2, hT3⟩ := repl_some x.l t.plain u.plain s hfs
      have HFS := Lib.hid hfs
      have HXB := Lib.hid hxb
      have HXR := Lib.hid hxr
      have HXX := Lib.hid hx
      have HT1 := Lib.hid hT1
      have HT2 := Lib.hid hT2
      have HT3 := Lib.hid hT3
      have HTT4 := Lib.hid (HT.out.up (Nat.le_refl _) HB4.out)
      have HTU4 := Lib.hid (HU.out.up (Nat.le_refl _) HB4.out)
      have HSK : Hid (∀ w' : World, Below w4.heap.size w4 w' → w'.cell? ⟨w.heap.size, 0, none⟩ = some (.int .i64 t.kind) ∧ w'.cell? ⟨w.heap.size, 1, none⟩ = some (.string t.text) ∧ w'.cell? ⟨w.heap.size, 2, none⟩ = some (.slice t.lA t.leads.length t.lc) ∧ w'.cell? ⟨w.heap.size, 3, none⟩ = some (.slice t.kA t.kids.length t.kc) ∧ w'.cell? ⟨w.heap.size + 1, 0, none⟩ = some (.int .i64 u.kind) ∧ w'.cell? ⟨w.heap.size + 1, 1, none⟩ = some (.string u.text) ∧ w'.cell? ⟨w.heap.size + 1, 2, none⟩ = some (.slice u.lA u.leads.length u.lc) ∧ w'.cell? ⟨w.heap.size + 1, 3, none⟩ = some (.slice u.kA u.kids.length u.kc) ∧ w'.cell? ⟨pb, po + m, none⟩ = some (.slice x.A x.l.length x.c)) := fun w' hw => by
        have q1 := HX.out.below (HB4.out.trans (hw.mono HB4.out.size)) HX.out.lt
        have q2 := HY.out.below (HB4.out.trans (hw.mono HB4.out.size)) HY.out.lt
        exact ⟨by rw [q1.cell]; rfl, by rw [q1.cell]; rfl, by rw [q1.cell]; rfl, by rw [q1.cell]; rfl, by rw [q2.cell]; rfl, by rw [q2.cell]; rfl, by rw [q2.cell]; rfl, by rw [q2.cell]; rfl, HPC.out m x HXX.out w' hw⟩
      have HC8 : Hid (∀ w' : World, Below w4.heap.size w4 w' → Calls Try.prog 11 #[.agg #[.int .i64 t.kind, .string t.text, .slice t.lA t.leads.length t.lc, .slice t.kA t.kids.length t.kc], .slice x.A x.l.length x.c] w' (MidC w' s)) := fun w' hw =>
        at_mid t x.A x.c x.l w' s (HTT4.out.up (Nat.le_refl _) hw) (HXR.out w' hw) (by omega) HXB.out HFS.out
      have i0 : (0 : Int) ≤ (m : Int) := by omega
      have i1 : (m : Int) < (xs.length : Int) := by omega
      clear hx hfs hxb hxr hT1 hT2 hT3 hpb
      go_upto_region 8 with fail
      have HD : Hid (Below w4.heap.size w4 w4.drew) := below_drewN (Below.refl _ _) 1
      have HDA : Hid (Below w4.heap.size w4 (w4.drew.alloc (.cells #[.int .i64 0, .string ⟨#[]⟩, .slice none 0 0, .slice none 0 0] 25))) := HD.out.alloc HD.out.size _
      have HVB : Hid (w4.heap.size ≤ w4.heap.size) := Nat.le_refl _
      go_cut [8, 9] (fun v8 v9 wr => ∃ (bx : Nat) (x : TX), v8 = .pointer (some ⟨bx, 0, none⟩) ∧ v9 = .bool true ∧ Hid (Mid w4 s wr bx x))
      case first =>
        go_region_held3 (fun w' => w'.cell? ⟨w.heap.size, 0, none⟩ = some (.int .i64 t.kind) ∧ w'.cell? ⟨w.heap.size, 1, none⟩ = some (.string t.text) ∧ w'.cell? ⟨w.heap.size, 2, none⟩ = some (.slice t.lA t.leads.length t.lc) ∧ w'.cell? ⟨w.heap.size, 3, none⟩ = some (.slice t.kA t.kids.length t.kc) ∧ w'.cell? ⟨w.heap.size + 1, 0, none⟩ = some (.int .i64 u.kind) ∧ w'.cell? ⟨w.heap.size + 1, 1, none⟩ = some (.string u.text) ∧ w'.cell? ⟨w.heap.size + 1, 2, none⟩ = some (.slice u.lA u.leads.length u.lc) ∧ w'.cell? ⟨w.heap.size + 1, 3, none⟩ = some (.slice u.kA u.kids.length u.kc) ∧ w'.cell? ⟨pb, po + m, none⟩ = some (.slice x.A x.l.length x.c)) (first | exact HSK.out _ HD.out | exact HSK.out _ HDA.out | exact HSK.out _ HE1.out | exact HSK.out _ (HE1.out.alloc HE1.out.size _) | exact HSK.out _ (below_put4 HE1.out HVB.out y)) (first | (go_at_call 11; refine (HC8.out _ HD.out).mono ?_; rintro e w5 ⟨y, rfl, hb5, hgp, hgt⟩; have HE1 := Lib.hid (HD.out.trans (hb5.mono HD.out.size)); have HGA := Lib.hid (Mid.a HD.out hb5 hgp hgt); clear hb5 hgp hgt; unfold TX.val) | (go_at_call 11; refine (HC8.out _ HDA.out).mono ?_; rintro e w5 ⟨y, rfl, hb5, hgp, hgt⟩; have HE1 := Lib.hid (HDA.out.trans (hb5.mono HDA.out.size)); have HGB := Lib.hid (Mid.b HD.out rfl hb5 hgp hgt); have hkz := blk_laid hb5; have z0 := hkz.frozen 0; have z1 := hkz.frozen 1; have z2 := hkz.frozen 2; have z3 := hkz.frozen 3; have y0 := hkz.cell 0; have y1 := hkz.cell 1; have y2 := hkz.cell 2; have y3 := hkz.cell 3; simp at y0 y1 y2 y3; clear hkz hb5 hgp hgt; unfold TX.val))
        all_goals
          go_wp2_with fail
          go_meet
          first | exact ⟨_, _, rfl, rfl, HGA⟩ | exact ⟨_, _, rfl, rfl, HGB⟩
      case rest =>
        obtain ⟨b8, x8, rfl, rfl, HM8⟩ := hcut
        obtain ⟨w8, rfl⟩ : ∃ wo : World, wo = wc := ⟨_, rfl⟩
        clear HD HDA HVB
        have HB8 := Lib.hid HM8.out.bel
        have HSK9 : Hid (∀ w' : World, Below w8.heap.size w8 w' → w'.cell? ⟨w.heap.size, 0, none⟩ = some (.int .i64 t.kind) ∧ w'.cell? ⟨w.heap.size, 1, none⟩ = some (.string t.text) ∧ w'.cell? ⟨w.heap.size, 2, none⟩ = some (.slice t.lA t.leads.length t.lc) ∧ w'.cell? ⟨w.heap.size, 3, none⟩ = some (.slice t.kA t.kids.length t.kc) ∧ w'.cell? ⟨w.heap.size + 1, 0, none⟩ = some (.int .i64 u.kind) ∧ w'.cell? ⟨w.heap.size + 1, 1, none⟩ = some (.string u.text) ∧ w'.cell? ⟨w.heap.size + 1, 2, none⟩ = some (.slice u.lA u.leads.length u.lc) ∧ w'.cell? ⟨w.heap.size + 1, 3, none⟩ = some (.slice u.kA u.kids.length u.kc) ∧ w'.cell? ⟨pb, po + m, none⟩ = some (.slice x.A x.l.length x.c)) := fun w' hw => HSK.out w' (HB8.out.trans (hw.mono HB8.out.size))
        have HC9 : Hid (∀ w' : World, Below w8.heap.size w8 w' → Calls Try.prog 19 #[.agg #[.int .i64 t.kind, .string t.text, .slice t.lA t.leads.length t.lc, .slice t.kA t.kids.length t.kc], .slice x.A x.l.length x.c, .agg #[.int .i64 u.kind, .string u.text, .slice u.lA u.leads.length u.lc, .slice u.kA u.kids.length u.kc]] w' (MidC w' T')) := fun w' hw =>
          repl_mid t u x.A x.c x.l w' T' (HTT4.out.up (Nat.le_refl _) (HB8.out.trans (hw.mono HB8.out.size))) (HTU4.out.up (Nat.le_refl _) (HB8.out.trans (hw.mono HB8.out.size))) (HXR.out w' (HB8.out.trans (hw.mono HB8.out.size))) (by omega) HXB.out HT1.out
        go_upto_region 9 with fail
        have HD : Hid (Below w8.heap.size w8 w8.drew) := below_drewN (Below.refl _ _) 1
        have HDA : Hid (Below w8.heap.size w8 (w8.drew.alloc (.cells #[.int .i64 0, .string ⟨#[]⟩, .slice none 0 0, .slice none 0 0] 25))) := HD.out.alloc HD.out.size _
        have HVB : Hid (w8.heap.size ≤ w8.heap.size) := Nat.le_refl _
        go_cut [10, 11] (fun v8 v9 wr => ∃ (bx : Nat) (x : TX), v8 = .pointer (some ⟨bx, 0, none⟩) ∧ v9 = .bool true ∧ Hid (Mid w8 T' wr bx x))
        case first =>
          go_region_held3 (fun w' => w'.cell? ⟨w.heap.size, 0, none⟩ = some (.int .i64 t.kind) ∧ w'.cell? ⟨w.heap.size, 1, none⟩ = some (.string t.text) ∧ w'.cell? ⟨w.heap.size, 2, none⟩ = some (.slice t.lA t.leads.length t.lc) ∧ w'.cell? ⟨w.heap.size, 3, none⟩ = some (.slice t.kA t.kids.length t.kc) ∧ w'.cell? ⟨w.heap.size + 1, 0, none⟩ = some (.int .i64 u.kind) ∧ w'.cell? ⟨w.heap.size + 1, 1, none⟩ = some (.string u.text) ∧ w'.cell? ⟨w.heap.size + 1, 2, none⟩ = some (.slice u.lA u.leads.length u.lc) ∧ w'.cell? ⟨w.heap.size + 1, 3, none⟩ = some (.slice u.kA u.kids.length u.kc) ∧ w'.cell? ⟨pb, po + m, none⟩ = some (.slice x.A x.l.length x.c)) (first | exact HSK9.out _ HD.out | exact HSK9.out _ HDA.out | exact HSK9.out _ HE1.out | exact HSK9.out _ (HE1.out.alloc HE1.out.size _) | exact HSK9.out _ (below_put4 HE1.out HVB.out y)) (first | (go_at_call 19; refine (HC9.out _ HD.out).mono ?_; rintro e w5 ⟨y, rfl, hb5, hgp, hgt⟩; have HE1 := Lib.hid (HD.out.trans (hb5.mono HD.out.size)); have HGA := Lib.hid (Mid.a HD.out hb5 hgp hgt); clear hb5 hgp hgt; unfold TX.val) | (go_at_call 19; refine (HC9.out _ HDA.out).mono ?_; rintro e w5 ⟨y, rfl, hb5, hgp, hgt⟩; have HE1 := Lib.hid (HDA.out.trans (hb5.mono HDA.out.size)); have HGB := Lib.hid (Mid.b HD.out rfl hb5 hgp hgt); have hkz := blk_laid hb5; have z0 := hkz.frozen 0; have z1 := hkz.frozen 1; have z2 := hkz.frozen 2; have z3 := hkz.frozen 3; have y0 := hkz.cell 0; have y1 := hkz.cell 1; have y2 := hkz.cell 2; have y3 := hkz.cell 3; simp at y0 y1 y2 y3; clear hkz hb5 hgp hgt; unfold TX.val))
          all_goals
            go_wp2_with fail
            go_meet
            first | exact ⟨_, _, rfl, rfl, HGA⟩ | exact ⟨_, _, rfl, rfl, HGB⟩
        case rest =>
          obtain ⟨b9, x9, rfl, rfl, HM9⟩ := hcut
          obtain ⟨w9, rfl⟩ : ∃ wo : World, wo = wc := ⟨_, rfl⟩
          clear HD HDA HVB
          have HB9 := Lib.hid HM9.out.bel
          have HB49 := Lib.hid (HB8.out.trans (HB9.out.mono HB8.out.size))
          have HSK10 : Hid (∀ w' : World, Below w9.heap.size w9 w' → w'.cell? ⟨b9, 0, none⟩ = some (.int .i64 x9.kind) ∧ w'.cell? ⟨b9, 1, none⟩ = some (.string x9.text) ∧ w'.cell? ⟨b9, 2, none⟩ = some (.slice x9.lA x9.leads.length x9.lc) ∧ w'.cell? ⟨b9, 3, none⟩ = some (.slice x9.kA x9.kids.length x9.kc) ∧ w'.cell? ⟨pb, po + m, none⟩ = some (.slice x.A x.l.length x.c)) := fun w' hw => by
            have q1 := HM9.out.blk.below hw HM9.out.blk.lt
            exact ⟨by rw [q1.cell]; rfl, by rw [q1.cell]; rfl, by rw [q1.cell]; rfl, by rw [q1.cell]; rfl, HPC.out m x HXX.out w' (HB49.out.trans (hw.mono HB49.out.size))⟩
          have HC10 : Hid (∀ w' : World, Below w9.heap.size w9 w' → Calls Try.prog 11 #[.agg #[.int .i64 x9.kind, .string x9.text, .slice x9.lA x9.leads.length x9.lc, .slice x9.kA x9.kids.length x9.kc], .slice x.A x.l.length x.c] w' (MidC w' u.plain)) := fun w' hw =>
            at_mid x9 x.A x.c x.l w' u.plain (HM9.out.tr.up (Nat.le_refl _) hw) (HXR.out w' (HB49.out.trans (hw.mono HB49.out.size))) (by omega) HXB.out (by rw [HM9.out.plain]; exact HT2.out)
          go_upto_region 10 with fail
          have HD : Hid (Below w9.heap.size w9 w9.drew) := below_drewN (Below.refl _ _) 1
          have HDA : Hid (Below w9.heap.size w9 (w9.drew.alloc (.cells #[.int .i64 0, .string ⟨#[]⟩, .slice none 0 0, .slice none 0 0] 25))) := HD.out.alloc HD.out.size _
          have HVB : Hid (w9.heap.size ≤ w9.heap.size) := Nat.le_refl _
          go_cut [12, 13] (fun v8 v9 wr => ∃ (bx : Nat) (x : TX), v8 = .pointer (some ⟨bx, 0, none⟩) ∧ v9 = .bool true ∧ Hid (Mid w9 u.plain wr bx x))
          case first =>
            go_region_held3 (fun w' => w'.cell? ⟨b9, 0, none⟩ = some (.int .i64 x9.kind) ∧ w'.cell? ⟨b9, 1, none⟩ = some (.string x9.text) ∧ w'.cell? ⟨b9, 2, none⟩ = some (.slice x9.lA x9.leads.length x9.lc) ∧ w'.cell? ⟨b9, 3, none⟩ = some (.slice x9.kA x9.kids.length x9.kc) ∧ w'.cell? ⟨pb, po + m, none⟩ = some (.slice x.A x.l.length x.c)) (first | exact HSK10.out _ HD.out | exact HSK10.out _ HDA.out | exact HSK10.out _ HE1.out | exact HSK10.out _ (HE1.out.alloc HE1.out.size _) | exact HSK10.out _ (below_put4 HE1.out HVB.out y)) (first | (go_at_call 11; refine (HC10.out _ HD.out).mono ?_; rintro e w5 ⟨y, rfl, hb5, hgp, hgt⟩; have HE1 := Lib.hid (HD.out.trans (hb5.mono HD.out.size)); have HGA := Lib.hid (Mid.a HD.out hb5 hgp hgt); clear hb5 hgp hgt; unfold TX.val) | (go_at_call 11; refine (HC10.out _ HDA.out).mono ?_; rintro e w5 ⟨y, rfl, hb5, hgp, hgt⟩; have HE1 := Lib.hid (HDA.out.trans (hb5.mono HDA.out.size)); have HGB := Lib.hid (Mid.b HD.out rfl hb5 hgp hgt); have hkz := blk_laid hb5; have z0 := hkz.frozen 0; have z1 := hkz.frozen 1; have z2 := hkz.frozen 2; have z3 := hkz.frozen 3; have y0 := hkz.cell 0; have y1 := hkz.cell 1; have y2 := hkz.cell 2; have y3 := hkz.cell 3; simp at y0 y1 y2 y3; clear hkz hb5 hgp hgt; unfold TX.val))
            all_goals
              go_wp2_with fail
              go_meet
              first | exact ⟨_, _, rfl, rfl, HGA⟩ | exact ⟨_, _, rfl, rfl, HGB⟩
          case rest =>
            obtain ⟨b10, x10, rfl, rfl, HM10⟩ := hcut
            obtain ⟨w10, rfl⟩ : ∃ wo : World, wo = wc := ⟨_, rfl⟩
            clear HD HDA HVB
            have HB10 := Lib.hid HM10.out.bel
            have HB410 := Lib.hid (HB49.out.trans (HB10.out.mono HB49.out.size))
            have HTU10 := Lib.hid (HTU4.out.up (Nat.le_refl _) HB410.out)
            have HTT10 := Lib.hid (HTT4.out.up (Nat.le_refl _) HB410.out)
            have HT9 := Lib.hid (HM9.out.tr.up (Nat.le_refl _) HB10.out)
            have HT8 := Lib.hid (HM8.out.tr.up (Nat.le_refl _) (HB9.out.trans (HB10.out.mono HB9.out.size)))
            have HK8 := Lib.hid (HM8.out.blk.below (HB9.out.trans (HB10.out.mono HB9.out.size)) HM8.out.blk.lt)
            have HK9 := Lib.hid (HM9.out.blk.below HB10.out HM9.out.blk.lt)
            have HZ : Hid (∀ (y : TX) (w' : World), Tr w10 w10.heap.size y → Below w10.heap.size w10 w' → Calls Try.prog 21 #[.agg #[.int .i64 y.kind, .string y.text, .slice y.lA y.leads.length y.lc, .slice y.kA y.kids.length y.kc]] w' (Ret w' (.int .i64 (wrap64 (y.plain.size : Int))))) := fun y w' hy hw => size_any y w' (hy.up (Nat.le_refl _) hw)
            have p8 : x8.plain.size = s.size := by rw [HM8.out.plain]
            have p9 : x9.plain.size = T'.size := by rw [HM9.out.plain]
            have hT3 := HT3.out
            obtain ⟨n8, hn8⟩ : ∃ n, x8.plain.size = n := ⟨_, rfl⟩
            obtain ⟨n9, hn9⟩ : ∃ n, x9.plain.size = n := ⟨_, rfl⟩
            obtain ⟨nt, hnt⟩ : ∃ n, t.plain.size = n := ⟨_, rfl⟩
            obtain ⟨nu, hnu⟩ : ∃ n, u.plain.size = n := ⟨_, rfl⟩
            have HZ8 : Hid (∀ w' : World, Below w10.heap.size w10 w' → Calls Try.prog 21 #[.agg #[.int .i64 x8.kind, .string x8.text, .slice x8.lA x8.leads.length x8.lc, .slice x8.kA x8.kids.length x8.kc]] w' (Ret w' (.int .i64 (n8 : Int)))) := fun w' hw => by have := HZ.out x8 w' HT8.out hw; rw [show wrap64 (x8.plain.size : Int) = (n8 : Int) by rw [hn8]; exact IntWalk.wrap64_in _ (by omega)] at this; exact this
            have HZ9 : Hid (∀ w' : World, Below w10.heap.size w10 w' → Calls Try.prog 21 #[.agg #[.int .i64 x9.kind, .string x9.text, .slice x9.lA x9.leads.length x9.lc, .slice x9.kA x9.kids.length x9.kc]] w' (Ret w' (.int .i64 (n9 : Int)))) := fun w' hw => by have := HZ.out x9 w' HT9.out hw; rw [show wrap64 (x9.plain.size : Int) = (n9 : Int) by rw [hn9]; exact IntWalk.wrap64_in _ (by omega)] at this; exact this
            have HZt : Hid (∀ w' : World, Below w10.heap.size w10 w' → Calls Try.prog 21 #[.agg #[.int .i64 t.kind, .string t.text, .slice t.lA t.leads.length t.lc, .slice t.kA t.kids.length t.kc]] w' (Ret w' (.int .i64 (nt : Int)))) := fun w' hw => by have := HZ.out t w' HTT10.out hw; rw [show wrap64 (t.plain.size : Int) = (nt : Int) by rw [hnt]; exact IntWalk.wrap64_in _ (by omega)] at this; exact this
            have HZu : Hid (∀ w' : World, Below w10.heap.size w10 w' → Calls Try.prog 21 #[.agg #[.int .i64 u.kind, .string u.text, .slice u.lA u.leads.length u.lc, .slice u.kA u.kids.length u.kc]] w' (Ret w' (.int .i64 (nu : Int)))) := fun w' hw => by have := HZ.out u w' HTU10.out hw; rw [show wrap64 (u.plain.size : Int) = (nu : Int) by rw [hnu]; exact IntWalk.wrap64_in _ (by omega)] at this; exact this
            have f1 : IntKind.i64.wrap ((nt : Int) - (n8 : Int)) = (nt : Int) - (n8 : Int) := IntWalk.i64_in _ (by omega)
            have f2 : IntKind.i64.wrap ((nt : Int) - (n8 : Int) + (nu : Int)) = (nt : Int) - (n8 : Int) + (nu : Int) := IntWalk.i64_in _ (by omega)
            have f3 : ((n9 : Int) != (nt : Int) - (n8 : Int) + (nu : Int)) = false := by rw [bne_eq_false_iff_eq]; omega
            have HSK11 : Hid (∀ w' : World, Below w10.heap.size w10 w' → w'.cell? ⟨b10, 0, none⟩ = some (.int .i64 x10.kind) ∧ w'.cell? ⟨b10, 1, none⟩ = some (.string x10.text) ∧ w'.cell? ⟨b10, 2, none⟩ = some (.slice x10.lA x10.leads.length x10.lc) ∧ w'.cell? ⟨b10, 3, none⟩ = some (.slice x10.kA x10.kids.length x10.kc) ∧ w'.cell? ⟨w.heap.size + 1, 0, none⟩ = some (.int .i64 u.kind) ∧ w'.cell? ⟨w.heap.size + 1, 1, none⟩ = some (.string u.text) ∧ w'.cell? ⟨w.heap.size + 1, 2, none⟩ = some (.slice u.lA u.leads.length u.lc) ∧ w'.cell? ⟨w.heap.size + 1, 3, none⟩ = some (.slice u.kA u.kids.length u.kc) ∧ w'.cell? ⟨b9, 0, none⟩ = some (.int .i64 x9.kind) ∧ w'.cell? ⟨b9, 1, none⟩ = some (.string x9.text) ∧ w'.cell? ⟨b9, 2, none⟩ = some (.slice x9.lA x9.leads.length x9.lc) ∧ w'.cell? ⟨b9, 3, none⟩ = some (.slice x9.kA x9.kids.length x9.kc) ∧ w'.cell? ⟨w.heap.size, 0, none⟩ = some (.int .i64 t.kind) ∧ w'.cell? ⟨w.heap.size, 1, none⟩ = some (.string t.text) ∧ w'.cell? ⟨w.heap.size, 2, none⟩ = some (.slice t.lA t.leads.length t.lc) ∧ w'.cell? ⟨w.heap.size, 3, none⟩ = some (.slice t.kA t.kids.length t.kc) ∧ w'.cell? ⟨b8, 0, none⟩ = some (.int .i64 x8.kind) ∧ w'.cell? ⟨b8, 1, none⟩ = some (.string x8.text) ∧ w'.cell? ⟨b8, 2, none⟩ = some (.slice x8.lA x8.leads.length x8.lc) ∧ w'.cell? ⟨b8, 3, none⟩ = some (.slice x8.kA x8.kids.length x8.kc)) := fun w' hw => by
              have q1 := HM10.out.blk.below hw HM10.out.blk.lt
              have q2 := HY.out.below ((HB4.out.trans (HB410.out.mono HB4.out.size)).trans (hw.mono (HB4.out.trans (HB410.out.mono HB4.out.size)).size)) HY.out.lt
              have q3 := HK9.out.below hw HK9.out.lt
              have q4 := HX.out.below ((HB4.out.trans (HB410.out.mono HB4.out.size)).trans (hw.mono (HB4.out.trans (HB410.out.mono HB4.out.size)).size)) HX.out.lt
              have q5 := HK8.out.below hw HK8.out.lt
              exact ⟨by rw [q1.cell]; rfl, by rw [q1.cell]; rfl, by rw [q1.cell]; rfl, by rw [q1.cell]; rfl, by rw [q2.cell]; rfl, by rw [q2.cell]; rfl, by rw [q2.cell]; rfl, by rw [q2.cell]; rfl, by rw [q3.cell]; rfl, by rw [q3.cell]; rfl, by rw [q3.cell]; rfl, by rw [q3.cell]; rfl, by rw [q4.cell]; rfl, by rw [q4.cell]; rfl, by rw [q4.cell]; rfl, by rw [q4.cell]; rfl, by rw [q5.cell]; rfl, by rw [q5.cell]; rfl, by rw [q5.cell]; rfl, by rw [q5.cell]; rfl⟩
            have HA0 : Hid (Below w10.heap.size w10 w10.drew) := below_drewN (Below.refl _ _) 1
            clear p8 p9 hT3 hn8 hn9 hnt hnu
            go_upto_region 11 with fail
            go_region_held3 (fun w' => w'.cell? ⟨b10, 0, none⟩ = some (.int .i64 x10.kind) ∧ w'.cell? ⟨b10, 1, none⟩ = some (.string x10.text) ∧ w'.cell? ⟨b10, 2, none⟩ = some (.slice x10.lA x10.leads.length x10.lc) ∧ w'.cell? ⟨b10, 3, none⟩ = some (.slice x10.kA x10.kids.length x10.kc) ∧ w'.cell? ⟨w.heap.size + 1, 0, none⟩ = some (.int .i64 u.kind) ∧ w'.cell? ⟨w.heap.size + 1, 1, none⟩ = some (.string u.text) ∧ w'.cell? ⟨w.heap.size + 1, 2, none⟩ = some (.slice u.lA u.leads.length u.lc) ∧ w'.cell? ⟨w.heap.size + 1, 3, none⟩ = some (.slice u.kA u.kids.length u.kc) ∧ w'.cell? ⟨b9, 0, none⟩ = some (.int .i64 x9.kind) ∧ w'.cell? ⟨b9, 1, none⟩ = some (.string x9.text) ∧ w'.cell? ⟨b9, 2, none⟩ = some (.slice x9.lA x9.leads.length x9.lc) ∧ w'.cell? ⟨b9, 3, none⟩ = some (.slice x9.kA x9.kids.length x9.kc) ∧ w'.cell? ⟨w.heap.size, 0, none⟩ = some (.int .i64 t.kind) ∧ w'.cell? ⟨w.heap.size, 1, none⟩ = some (.string t.text) ∧ w'.cell? ⟨w.heap.size, 2, none⟩ = some (.slice t.lA t.leads.length t.lc) ∧ w'.cell? ⟨w.heap.size, 3, none⟩ = some (.slice t.kA t.kids.length t.kc) ∧ w'.cell? ⟨b8, 0, none⟩ = some (.int .i64 x8.kind) ∧ w'.cell? ⟨b8, 1, none⟩ = some (.string x8.text) ∧ w'.cell? ⟨b8, 2, none⟩ = some (.slice x8.lA x8.leads.length x8.lc) ∧ w'.cell? ⟨b8, 3, none⟩ = some (.slice x8.kA x8.kids.length x8.kc)) (first | exact HSK11.out _ HA0.out | exact HSK11.out _ HA1.out | exact HSK11.out _ HA2.out | exact HSK11.out _ HA3.out | exact HSK11.out _ HA4.out | exact HSK11.out _ HA5.out) (first | (go_at_call 21; refine (HZu.out _ HA4.out).mono ?_; rintro e w15 ⟨rfl, hb5⟩; have HA5 := Lib.hid (HA4.out.trans (hb5.mono HA4.out.size)); clear hb5) | (go_at_call 21; refine (HZ8.out _ HA3.out).mono ?_; rintro e w14 ⟨rfl, hb4⟩; have HA4 := Lib.hid (HA3.out.trans (hb4.mono HA3.out.size)); clear hb4) | (go_at_call 21; refine (HZt.out _ HA2.out).mono ?_; rintro e w13 ⟨rfl, hb3⟩; have HA3 := Lib.hid (HA2.out.trans (hb3.mono HA2.out.size)); clear hb3) | (go_at_call 21; refine (HZ9.out _ HA1.out).mono ?_; rintro e w12 ⟨rfl, hb2⟩; have HA2 := Lib.hid (HA1.out.trans (hb2.mono HA1.out.size)); clear hb2) | (go_at_call 16; refine (same_any x10 u _ (HM10.out.tr.up (Nat.le_refl _) HA0.out) (HTU10.out.up (Nat.le_refl _) HA0.out)).mono ?_; intro e w11 hq; obtain ⟨rfl, hb1⟩ := hq.yes HM10.out.plain; have HA1 := Lib.hid (HA0.out.trans (hb1.mono HA0.out.size)); clear hb1 hq))
            clear f1 f2 f3 HSK11 HSK10 HSK9 HSK HC8 HC9 HC10 HZ HZ8 HZ9 HZt HZu
            have HK9b := Lib.hid (HK9.out.below HA5.out HK9.out.lt)
            have HT9b := Lib.hid (HT9.out.up (Nat.le_refl _) HA5.out)
            have HB415 := Lib.hid (HB410.out.trans (HA5.out.mono HB410.out.size))
            go_wp2_with fail
            go_loopw [14] (fun i wr => ∃ j : Nat, j ≤ xs.length ∧ i = .int .i64 (j : Int) ∧ Hid (Below w15.heap.size w15 wr)) (fun i _ => xs.length - (intOf i).toNat)
            case atStart => exact ⟨0, by omega, rfl, Below.refl _ _⟩
            case round =>
              obtain ⟨j, hj, rfl, HR⟩ := hrel
              have HBR := Lib.hid (HB415.out.trans (HR.out.mono HB415.out.size))
              by_cases hjl : j < xs.length
              · obtain ⟨z, hz⟩ : ∃ z, xs[j]? = some z := ⟨_, List.getElem?_eq_getElem hjl⟩
                obtain ⟨⟨sz, hsz⟩, hzl2, hzc, hzb, hzr⟩ := HPZ.out j z hz
                have HZZ := Lib.hid hz
                have HSZ := Lib.hid hsz
                have HZB := Lib.hid hzb
                have HZR := Lib.hid hzr
                have HSK16 : Hid (∀ w' : World, Below wr.heap.size wr w' → w'.cell? ⟨pb, po + m, none⟩ = some (.slice x.A x.l.length x.c) ∧ w'.cell? ⟨pb, po + j, none⟩ = some (.slice z.A z.l.length z.c)) := fun w' hw => ⟨HPC.out m x HXX.out w' (HBR.out.trans (hw.mono HBR.out.size)), HPC.out j z HZZ.out w' (HBR.out.trans (hw.mono HBR.out.size))⟩
                have HCa : Hid (∀ w' : World, Below wr.heap.size wr w' → Calls Try.prog 28 #[.slice z.A z.l.length z.c, .slice x.A x.l.length x.c] w' (Ret w' (.bool (startsB z.l x.l)))) := fun w' hw =>
                  begins_any z.A x.A z.c x.c _ _ z.l x.l w' (HZR.out w' (HBR.out.trans (hw.mono HBR.out.size))) (HXR.out w' (HBR.out.trans (hw.mono HBR.out.size))) (by omega) (by omega) hzc
                have HCb : Hid (∀ w' : World, Below wr.heap.size wr w' → Calls Try.prog 28 #[.slice x.A x.l.length x.c, .slice z.A z.l.length z.c] w' (Ret w' (.bool (startsB x.l z.l)))) := fun w' hw =>
                  begins_any x.A z.A x.c z.c _ _ x.l z.l w' (HXR.out w' (HBR.out.trans (hw.mono HBR.out.size))) (HZR.out w' (HBR.out.trans (hw.mono HBR.out.size))) (by omega) (by omega) hxc
                have HD : Hid (Below wr.heap.size wr wr.drew) := below_drewN (Below.refl _ _) 1
                have i2 : (0 : Int) ≤ (j : Int) := by omega
                have i3 : (j : Int) < (xs.length : Int) := by omega
                clear hz hsz hzb hzr
                obtain ⟨ba, hba⟩ : ∃ ba, startsB z.l x.l = ba := ⟨_, rfl⟩
                obtain ⟨bb, hbb⟩ : ∃ bb, startsB x.l z.l = bb := ⟨_, rfl⟩
                rw [hba] at HCa
                rw [hbb] at HCb
                have HBA := Lib.hid hba
                have HBB := Lib.hid hbb
                clear hba hbb
                have HFa : Hid (∀ f : Fut wr, Calls Try.prog 28 #[.slice z.A z.l.length z.c, .slice x.A x.l.length x.c] f.to (fun e w'' => e = .returned (.bool ba) ∧ ∃ y : Fut wr, w'' = y.to)) := fun f => fut_call (HCa.out f.to f.bel)
                have HFb : Hid (∀ f : Fut wr, Calls Try.prog 28 #[.slice x.A x.l.length x.c, .slice z.A z.l.length z.c] f.to (fun e w'' => e = .returned (.bool bb) ∧ ∃ y : Fut wr, w'' = y.to)) := fun f => fut_call (HCb.out f.to f.bel)
                have fa0 := fut_cell (HSK16.out _ (Below.refl _ _)).1
                have fa1 := fut_cell (HSK16.out _ (Below.refl _ _)).2
                cases ba
                rotate_left
                · go_wp2_with fail
                  refine region_fut (by kernel_rfl) (by kernel_rfl) ?_
                  repeat (go_big_quiet_step (first | (with_reducible exact HFa.out _) | (with_reducible exact HFb.out _)))
                  refine wpQuiet_nil ?_
                  intro w22 hw22
                  obtain ⟨⟨w22x, hb22⟩, rfl⟩ := hw22
                  have HA22 := Lib.hid hb22
                  clear hb22
                  go_wp2_with fail
                  go_roundw
                  case rel => exact ⟨j + 1, by omega, by go_num, HR.out.trans (HA22.out.mono HR.out.size)⟩
                  case measure => simp [intOf]; omega
                cases bb
                rotate_left
                · go_wp2_with fail
                  refine region_fut (by kernel_rfl) (by kernel_rfl) ?_
                  repeat (go_big_quiet_step (first | (with_reducible exact HFa.out _) | (with_reducible exact HFb.out _)))
                  refine wpQuiet_nil ?_
                  intro w22 hw22
                  obtain ⟨⟨w22x, hb22⟩, rfl⟩ := hw22
                  have HA22 := Lib.hid hb22
                  clear hb22
                  go_wp2_with fail
                  go_roundw
                  case rel => exact ⟨j + 1, by omega, by go_num, HR.out.trans (HA22.out.mono HR.out.size)⟩
                  case measure => simp [intOf]; omega
                go_wp2_with fail
                refine region_fut (by kernel_rfl) (by kernel_rfl) ?_
                repeat (go_big_quiet_step (first | (with_reducible exact HFa.out _) | (with_reducible exact HFb.out _)))
                refine wpQuiet_nil ?_
                intro w22 hw22
                obtain ⟨⟨w22x, hb22⟩, rfl⟩ := hw22
                have HA22 := Lib.hid hb22
                clear hb22
                clear fa0 fa1 HFa HFb
                have HR22 : Hid (Below w15.heap.size w15 w22) := HR.out.trans (HA22.out.mono HR.out.size)
                have HB422 := Lib.hid (HB415.out.trans (HR22.out.mono HB415.out.size))
                have HSZ9 : Hid (x9.plain.find z.l = some sz) := by
                  unfold Hid
                  rw [HM9.out.plain, repl_other x.l z.l t.plain u.plain T' HT1.out (startsB_not HBA.out) (startsB_not HBB.out)]
                  exact HSZ.out
                have HSK17 : Hid (∀ w' : World, Below w22.heap.size w22 w' → w'.cell? ⟨w.heap.size, 0, none⟩ = some (.int .i64 t.kind) ∧ w'.cell? ⟨w.heap.size, 1, none⟩ = some (.string t.text) ∧ w'.cell? ⟨w.heap.size, 2, none⟩ = some (.slice t.lA t.leads.length t.lc) ∧ w'.cell? ⟨w.heap.size, 3, none⟩ = some (.slice t.kA t.kids.length t.kc) ∧ w'.cell? ⟨pb, po + j, none⟩ = some (.slice z.A z.l.length z.c)) := fun w' hw => by
                  have hw4 := HB422.out.trans (hw.mono HB422.out.size)
                  have q1 := HX.out.below (HB4.out.trans (hw4.mono HB4.out.size)) HX.out.lt
                  exact ⟨by rw [q1.cell]; rfl, by rw [q1.cell]; rfl, by rw [q1.cell]; rfl, by rw [q1.cell]; rfl, HPC.out j z HZZ.out w' hw4⟩
                have HC17 : Hid (∀ w' : World, Below w22.heap.size w22 w' → Calls Try.prog 11 #[.agg #[.int .i64 t.kind, .string t.text, .slice t.lA t.leads.length t.lc, .slice t.kA t.kids.length t.kc], .slice z.A z.l.length z.c] w' (MidC w' sz)) := fun w' hw =>
                  at_mid t z.A z.c z.l w' sz (HTT4.out.up (Nat.le_refl _) (HB422.out.trans (hw.mono HB422.out.size))) (HZR.out w' (HB422.out.trans (hw.mono HB422.out.size))) (by omega) HZB.out HSZ.out
                clear HD HSK16 HCa HCb
                go_upto_region 17 with fail
                have HD : Hid (Below w22.heap.size w22 w22.drew) := below_drewN (Below.refl _ _) 1
                have HDA : Hid (Below w22.heap.size w22 (w22.drew.alloc (.cells #[.int .i64 0, .string ⟨#[]⟩, .slice none 0 0, .slice none 0 0] 25))) := HD.out.alloc HD.out.size _
                have HVB : Hid (w22.heap.size ≤ w22.heap.size) := Nat.le_refl _
                go_cut [15, 16] (fun v8 v9 wr => ∃ (bx : Nat) (x : TX), v8 = .pointer (some ⟨bx, 0, none⟩) ∧ v9 = .bool true ∧ Hid (Mid w22 sz wr bx x))
                case first =>
                  go_region_held3 (fun w' => w'.cell? ⟨w.heap.size, 0, none⟩ = some (.int .i64 t.kind) ∧ w'.cell? ⟨w.heap.size, 1, none⟩ = some (.string t.text) ∧ w'.cell? ⟨w.heap.size, 2, none⟩ = some (.slice t.lA t.leads.length t.lc) ∧ w'.cell? ⟨w.heap.size, 3, none⟩ = some (.slice t.kA t.kids.length t.kc) ∧ w'.cell? ⟨pb, po + j, none⟩ = some (.slice z.A z.l.length z.c)) (first | exact HSK17.out _ HD.out | exact HSK17.out _ HDA.out | exact HSK17.out _ HE1.out | exact HSK17.out _ (HE1.out.alloc HE1.out.size _) | exact HSK17.out _ (below_put4 HE1.out HVB.out y)) (first | (go_at_call 11; refine (HC17.out _ HD.out).mono ?_; rintro e w5 ⟨y, rfl, hb5, hgp, hgt⟩; have HE1 := Lib.hid (HD.out.trans (hb5.mono HD.out.size)); have HGA := Lib.hid (Mid.a HD.out hb5 hgp hgt); clear hb5 hgp hgt; unfold TX.val) | (go_at_call 11; refine (HC17.out _ HDA.out).mono ?_; rintro e w5 ⟨y, rfl, hb5, hgp, hgt⟩; have HE1 := Lib.hid (HDA.out.trans (hb5.mono HDA.out.size)); have HGB := Lib.hid (Mid.b HD.out rfl hb5 hgp hgt); have hkz := blk_laid hb5; have z0 := hkz.frozen 0; have z1 := hkz.frozen 1; have z2 := hkz.frozen 2; have z3 := hkz.frozen 3; have y0 := hkz.cell 0; have y1 := hkz.cell 1; have y2 := hkz.cell 2; have y3 := hkz.cell 3; simp at y0 y1 y2 y3; clear hkz hb5 hgp hgt; unfold TX.val))
                  all_goals
                    go_wp2_with fail
                    go_meet
                    first | exact ⟨_, _, rfl, rfl, HGA⟩ | exact ⟨_, _, rfl, rfl, HGB⟩
                case rest =>
                  obtain ⟨b17, x17, rfl, rfl, HM17⟩ := hcut
                  obtain ⟨w17, rfl⟩ : ∃ wo : World, wo = wc := ⟨_, rfl⟩
                  clear HD HDA HVB
                  have HB17 := Lib.hid HM17.out.bel
                  have HR17 : Hid (Below w15.heap.size w15 w17) := HR22.out.trans (HB17.out.mono HR22.out.size)
                  have HB417 := Lib.hid (HB415.out.trans (HR17.out.mono HB415.out.size))
                  have HSK18 : Hid (∀ w' : World, Below w17.heap.size w17 w' → w'.cell? ⟨b9, 0, none⟩ = some (.int .i64 x9.kind) ∧ w'.cell? ⟨b9, 1, none⟩ = some (.string x9.text) ∧ w'.cell? ⟨b9, 2, none⟩ = some (.slice x9.lA x9.leads.length x9.lc) ∧ w'.cell? ⟨b9, 3, none⟩ = some (.slice x9.kA x9.kids.length x9.kc) ∧ w'.cell? ⟨pb, po + j, none⟩ = some (.slice z.A z.l.length z.c)) := fun w' hw => by
                    have q1 := HK9b.out.below (HR17.out.trans (hw.mono HR17.out.size)) HK9b.out.lt
                    exact ⟨by rw [q1.cell]; rfl, by rw [q1.cell]; rfl, by rw [q1.cell]; rfl, by rw [q1.cell]; rfl, HPC.out j z HZZ.out w' (HB417.out.trans (hw.mono HB417.out.size))⟩
                  have HC18 : Hid (∀ w' : World, Below w17.heap.size w17 w' → Calls Try.prog 11 #[.agg #[.int .i64 x9.kind, .string x9.text, .slice x9.lA x9.leads.length x9.lc, .slice x9.kA x9.kids.length x9.kc], .slice z.A z.l.length z.c] w' (MidC w' sz)) := fun w' hw =>
                    at_mid x9 z.A z.c z.l w' sz (HT9b.out.up (Nat.le_refl _) (HR17.out.trans (hw.mono HR17.out.size))) (HZR.out w' (HB417.out.trans (hw.mono HB417.out.size))) (by omega) HZB.out HSZ9.out
                  go_upto_region 18 with fail
                  have HD : Hid (Below w17.heap.size w17 w17.drew) := below_drewN (Below.refl _ _) 1
                  have HDA : Hid (Below w17.heap.size w17 (w17.drew.alloc (.cells #[.int .i64 0, .string ⟨#[]⟩, .slice none 0 0, .slice none 0 0] 25))) := HD.out.alloc HD.out.size _
                  have HVB : Hid (w17.heap.size ≤ w17.heap.size) := Nat.le_refl _
                  go_cut [17, 18] (fun v8 v9 wr => ∃ (bx : Nat) (x : TX), v8 = .pointer (some ⟨bx, 0, none⟩) ∧ v9 = .bool true ∧ Hid (Mid w17 sz wr bx x))
                  case first =>
                    go_region_held3 (fun w' => w'.cell? ⟨b9, 0, none⟩ = some (.int .i64 x9.kind) ∧ w'.cell? ⟨b9, 1, none⟩ = some (.string x9.text) ∧ w'.cell? ⟨b9, 2, none⟩ = some (.slice x9.lA x9.leads.length x9.lc) ∧ w'.cell? ⟨b9, 3, none⟩ = some (.slice x9.kA x9.kids.length x9.kc) ∧ w'.cell? ⟨pb, po + j, none⟩ = some (.slice z.A z.l.length z.c)) (first | exact HSK18.out _ HD.out | exact HSK18.out _ HDA.out | exact HSK18.out _ HE1.out | exact HSK18.out _ (HE1.out.alloc HE1.out.size _) | exact HSK18.out _ (below_put4 HE1.out HVB.out y)) (first | (go_at_call 11; refine (HC18.out _ HD.out).mono ?_; rintro e w5 ⟨y, rfl, hb5, hgp, hgt⟩; have HE1 := Lib.hid (HD.out.trans (hb5.mono HD.out.size)); have HGA := Lib.hid (Mid.a HD.out hb5 hgp hgt); clear hb5 hgp hgt; unfold TX.val) | (go_at_call 11; refine (HC18.out _ HDA.out).mono ?_; rintro e w5 ⟨y, rfl, hb5, hgp, hgt⟩; have HE1 := Lib.hid (HDA.out.trans (hb5.mono HDA.out.size)); have HGB := Lib.hid (Mid.b HD.out rfl hb5 hgp hgt); have hkz := blk_laid hb5; have z0 := hkz.frozen 0; have z1 := hkz.frozen 1; have z2 := hkz.frozen 2; have z3 := hkz.frozen 3; have y0 := hkz.cell 0; have y1 := hkz.cell 1; have y2 := hkz.cell 2; have y3 := hkz.cell 3; simp at y0 y1 y2 y3; clear hkz hb5 hgp hgt; unfold TX.val))
                    all_goals
                      go_wp2_with fail
                      go_meet
                      first | exact ⟨_, _, rfl, rfl, HGA⟩ | exact ⟨_, _, rfl, rfl, HGB⟩
                  case rest =>
                    obtain ⟨b18, x18, rfl, rfl, HM18⟩ := hcut
                    obtain ⟨w18, rfl⟩ : ∃ wo : World, wo = wc := ⟨_, rfl⟩
                    clear HD HDA HVB
                    have HB18 := Lib.hid HM18.out.bel
                    have HR18 : Hid (Below w15.heap.size w15 w18) := HR17.out.trans (HB18.out.mono HR17.out.size)
                    have HK17 := Lib.hid (HM17.out.blk.below HB18.out HM17.out.blk.lt)
                    have HK18 := Lib.hid HM18.out.blk
                    have d0 := HK17.out.cell 0
                    have d1 := HK17.out.cell 1
                    have d2 := HK17.out.cell 2
                    have d3 := HK17.out.cell 3
                    simp [TX.arr] at d0 d1 d2 d3
                    have e0 := HK18.out.cell 0
                    have e1 := HK18.out.cell 1
                    have e2 := HK18.out.cell 2
                    have e3 := HK18.out.cell 3
                    simp [TX.arr] at e0 e1 e2 e3
                    have HS := Lib.hid (same_any x17 x18 w18 (HM17.out.tr.up (Nat.le_refl _) HB18.out) HM18.out.tr)
                    unfold SameAt TX.val at HS
                    clear HSK17 HSK18 HC17 HC18
                    go_wp2_with fail
                    refine (HS.out).mono ?_
                    intro e w19 hq
                    obtain ⟨rfl, hb19⟩ := hq.yes (HM17.out.plain.trans HM18.out.plain.symm)
                    have HB19 := Lib.hid (HR18.out.trans (hb19.mono HR18.out.size))
                    clear hb19 hq
                    go_wp2_with fail
                    go_roundw
                    case rel => exact ⟨j + 1, by omega, by go_num, HB19⟩
                    case measure => simp [intOf]; omega
              · go_wp2_with fail
                refine (awake_any _).mono ?_
                rintro e w8' ⟨rfl, hb8⟩
                have HB8' := Lib.hid (HB4.out.trans ((HBR.out.trans (hb8.mono HBR.out.size)).mono HB4.out.size))
                clear hb8
                go_wp2_with fail
                go_ret
                exact ⟨rfl, HBW.out.trans (HB8'.out.mono HBW.out.size)⟩


theorem own : ownKnob Try.prog.godebug = none := by kernel_rfl
theorem laidOut : laidOutB Try.prog = true := by kernel_rfl
theorem specN (H : Type) (ds : List (DataW H)) (h : ds.length = 3) : Rows.treePutsSpec.fn H (ds ++ []) = { results := [.lit (.bool true)], args := ds } := by
  match ds, h with
  | [_, _, _], _ => rfl

set_option maxRecDepth 100000 in
theorem lifted (os : Os) (started : os.Started) (H : Type) (enc : TypeId × Value → H) (F : Stop.Interp) :
    ReturnsInHanded {} Try.checked os 8 .any ((Rows.OpenSpec.upto Rows.treePutsSpec).pre6 enc Try.prog Try.f8 Rows.treePutsUptoRow.domain false) (((Rows.OpenSpec.upto Rows.treePutsSpec).at F).post enc Try.prog Try.f8 false true false false) := by
  refine law_of_walk_upto (C := Try.checked) own started (by kernel_rfl) Try.func8 rfl rfl Try.underlying4 laidOut (by kernel_rfl) (fun ds h => specN H ds (h.trans (by kernel_rfl)))
    (OpenSpec.witness (enc := enc) (C := Try.checked) (s := Rows.OpenSpec.upto Rows.treePutsSpec) (k := Rows.uptoSmall) rfl false ⟨#[], #[.agg #[.int .i64 0, .string ByteArray.empty, .slice none 0 0, .slice none 0 0], .int .i64 0, .agg #[.int .i64 0, .string ByteArray.empty, .slice none 0 0, .slice none 0 0]], []⟩ 8 (by kernel_rfl) (by kernel_rfl) (by kernel_rfl) (x := ([.agg [.lit (.int .i64 0), .lit (.string []), .nil, .nil], .lit (.int .i64 0), .agg [.lit (.int .i64 0), .lit (.string []), .nil, .nil]], [], [])) (by kernel_rfl) rfl (by kernel_rfl)) ?_
  intro W base args ds p hval hA hsz hk
  have hval' : ∀ (j : Nat) t v, Try.f8.params[j]? = some t → args[j]? = some v → Value.okWide Try.prog W .any base t v := hval
  rw [Try.params8] at hval' hA hsz
  obtain ⟨v0, vs0, d0, ds0, p0, q0, hargs, rfl, rfl, h0, r0⟩ := trodAll_cons hA
  obtain ⟨v1, vs1, d1, ds1, p1, q1, rfl, rfl, rfl, h1, r1⟩ := trodAll_cons r0
  obtain ⟨v2, vs2, d2, ds2, p2, q2, rfl, rfl, rfl, h2, r2⟩ := trodAll_cons r1
  obtain ⟨rfl, rfl, rfl⟩ := trodAll_nil r2
  obtain rfl : args = #[v0, v1, v2] := by cases args; simp_all
  obtain ⟨t0, rfl, ht0, hs0⟩ := arg_treeB (hval' 0 25 v0 rfl rfl) h0 (sm_arg hsz (j := 0) rfl rfl)
  obtain ⟨a1, rfl, rfl, rfl, w1⟩ := open_int Try.underlying3 (hval' 1 3 v1 rfl rfl) h1
  obtain ⟨t2, rfl, ht2, hs2⟩ := arg_treeB (hval' 2 25 v2 rfl rfl) h2 (sm_arg hsz (j := 2) rfl rfl)
  simp only [Rows.uptoBulkAll] at hk
  exact walk t0 t2 a1 W ht0 ht2 (by omega) (by omega) (wf_i64 w1)

theorem proved : Rows.TreePutsUptoSaid :=
  OpenClaim.holds_of_cond 8 Try.f8 rfl rfl rfl rfl rfl rfl rfl ⟨rfl, rfl, rfl, rfl, rfl⟩ rfl rfl rfl rfl rfl (by kernel_rfl) Try.func8 (by kernel_rfl)
    (of_decide_eq_true (by kernel_rfl)) (by unfold Func.isWrapper; first | (rw [if_pos (by decide +kernel)]; kernel_rfl) | (rw [if_neg (by decide +kernel)]; exact ⟨rfl, rfl⟩))
    (fun os started H enc _ F => lifted os started H enc F)
end Go.Proofs.Ythaepakpeamajaa.treePuts
