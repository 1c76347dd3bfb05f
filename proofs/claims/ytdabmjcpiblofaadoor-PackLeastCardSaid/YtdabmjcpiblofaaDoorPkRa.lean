/-
  grow: the walk. No condition.
-/
import Derived.Test.YtdabmjcpiblofaaDoorPkR
namespace Go.Proofs.YtdabmjcpiblofaaDoor
open Go.RowKit
set_option linter.unusedVariables false

/-- a node of the law's, a box of it -/
def GrowPost (w : World) (r : T × Nat) (e : Ending) (w' : World) : Prop := ∃ t : TX, e = .returned (.tuple #[t.val, .int .i64 (r.2 : Int)]) ∧ t.plain = r.1 ∧ Tr w' w'.heap.size t ∧ InS (w.heap.size ≤ ·) t ∧ Fine t ∧ Below w.heap.size w w'
/-- behind the literal: boxes of the node, of the tree -/
def GB (w wk : World) (g8 g : Nat) (x : ND) : Prop := Below w.heap.size w wk ∧ Blk wk w.heap.size 42 zeroT ∧ Blk wk g8 96 #[.int .i64 x.1, .int .i64 x.2.1, .int .i64 x.2.2] ∧ Blk wk g 42 #[.int .i64 (x.1 % 3), .string (ndText x), .slice none 0 0, .slice none 0 0] ∧ w.heap.size < g ∧ g8 ≠ g ∧ w.heap.size < g8
def gCnt (d : Nat) (x : ND) : Nat := if d = 0 then 0 else (x.2.2 % 4).toNat
def gRes (f : Nat → T × Nat) (n a d : Nat) (x : ND) : T × Nat := (.node (x.1 % 3) (ndText x) (ndLeads x) (kst f n (a + 1) (gCnt d x)).1, (kst f n (a + 1) (gCnt d x)).2)
set_option maxRecDepth 100000 in
set_option maxHeartbeats 8000000 in
theorem grow_core (A : Option Addr) (c : Nat) (l : List ND) (hl60 : l.length ≤ 60) (hli : ∀ x ∈ l, i64 x.1 ∧ i64 x.2.1 ∧ i64 x.2.2) (d : Nat) (hd : d ≤ 5) (f : Nat → T × Nat) (hfi : ∀ a, a < l.length → a < (f a).2 ∧ (f a).2 ≤ l.length ∧ (f a).1.size + a ≤ (f a).2 ∧ tiny (f a).1)
    (ih : 0 < d → ∀ (a : Nat) (w : World), a < l.length → Reads w w.heap.size 3 A l.length (l.flatMap ndCells) → Calls Tryd.prog 35 #[.slice A l.length c, .int .i64 (a : Int), .int .i64 ((d : Int) - 1)] w (GrowPost w (f a)))
    (a : Nat) (w : World) (ha : a < l.length) (hr : Reads w w.heap.size 3 A l.length (l.flatMap ndCells)) (x : ND) (hx : l[a]? = some x) :
    Calls Tryd.prog 35 #[.slice A l.length c, .int .i64 (a : Int), .int .i64 (d : Int)] w (GrowPost w (gRes f l.length a d x)) := by
  obtain ⟨n, hn⟩ : ∃ n, l.length = n := ⟨_, rfl⟩
  rw [hn] at hl60 ha hr ih hfi ⊢
  have HFI := Lib.hid hfi
  have HN := Lib.hid hn
  obtain ⟨hi1, hi2, hi3⟩ := hli x (List.mem_of_getElem? hx)
  obtain ⟨ab, ao, hA, hab, hcell⟩ := hr.head (by omega) (by omega)
  subst hA
  have e0 := hcell (a * 3) _ (flat_at ndCells_len l a 0 x hx (by omega))
  have e1 := hcell (a * 3 + 1) _ (flat_at ndCells_len l a 1 x hx (by omega))
  have e2 := hcell (a * 3 + 2) _ (flat_at ndCells_len l a 2 x hx (by omega))
  rw [← Nat.add_assoc] at e1 e2
  have HIH := Lib.hid ih
  have HX := Lib.hid hx
  have HR := Lib.hid hr
  obtain ⟨wA, hwA⟩ : ∃ wA, w.alloc (.cells zeroT 42) = wA := ⟨_, rfl⟩
  have hBA : Below w.heap.size w wA := by subst hwA; exact bal (Below.refl _ _) _
  have hB0 : Blk wA w.heap.size 42 zeroT := by subst hwA; exact Blk.new _ _ _
  obtain ⟨wB, hwB⟩ : ∃ wB, wA.alloc (.cells #[.int .i64 x.1, .int .i64 x.2.1, .int .i64 x.2.2] 96) = wB := ⟨_, rfl⟩
  have HB8 : Hid (Blk wB wA.heap.size 96 #[.int .i64 x.1, .int .i64 x.2.1, .int .i64 x.2.2]) := by subst hwB; exact Blk.new _ _ _
  have HBB : Hid (Below w.heap.size w wB) := by subst hwB; exact bal hBA _
  have HB0 : Hid (Blk wB w.heap.size 42 zeroT) := by subst hwB; exact hB0.alloc _
  have HZA : Hid (w.heap.size < wA.heap.size) := hB0.lt
  have hlt8 := HB8.out.lt
  have e0' := (hBA.cell (p := ⟨ab, ao + a * 3, none⟩) hab).trans e0
  have e1' := (hBA.cell (p := ⟨ab, ao + a * 3 + 1, none⟩) hab).trans e1
  have e2' := (hBA.cell (p := ⟨ab, ao + a * 3 + 2, none⟩) hab).trans e2
  have i0 : (0 : Int) ≤ (a : Int) := by omega
  have i1 : (a : Int) < (n : Int) := by omega
  have HM3 := Lib.hid (fun W : World => mod_any x.1 3 W (by omega) (by omega) hi1.1 hi1.2)
  have HM2 := Lib.hid (fun W : World => mod_any x.2.1 2 W (by omega) (by omega) hi2.1 hi2.2)
  have hC8 : ∀ w', Below wB.heap.size wB w' → w'.cell? ⟨wA.heap.size, 0, none⟩ = some (.int .i64 x.1) ∧ w'.cell? ⟨wA.heap.size, 1, none⟩ = some (.int .i64 x.2.1) ∧ w'.cell? ⟨wA.heap.size, 2, none⟩ = some (.int .i64 x.2.2) := fun w' hb => by
    have h1 := HB8.out.below hb hlt8
    exact ⟨by rw [h1.cell]; rfl, by rw [h1.cell]; rfl, by rw [h1.cell]; rfl⟩
  have HC8 := Lib.hid hC8
  unfold zeroT at hwA
  clear hn hx hcell hr ih hBA hB0 hC8 hfi
  go_enter Tryd.func35, Tryd.ntmps35
  go_wp2_with fail
  go_upto_region 3 with fail
  go_cut [9] (fun s wk => ∃ g, s = .pointer (some ⟨g, 0, none⟩) ∧ Hid (GB w wk wA.heap.size g x))
  case first =>
    refine wp_region_inv (by kernel_rfl) (GI wB ab ao n c a w.heap.size wA.heap.size (d : Int) x) ?_ ?_ ?_
    · refine ⟨by simp, fun h => ?_, fun _ => undef, rfl, below_drewN (Below.refl _ _) 1, fun i hi hl => ?_⟩
      · simp [Array.getD] at h
      · simp [Array.getD] at hl
    · intro listed act wr i hi hI
      obtain ⟨hs, h12, v, rfl, hb0, hf⟩ := hI
      have hi13 := (ready_unrun hi).1
      have ST := Lib.hid (fun (wr' : World) (u : Value) => GI.step (wB := wB) (w' := wr') (u := u) (ab := ab) (ao := ao) (n := n) (c := c) (a := a) (w0 := w.heap.size) (g8 := wA.heap.size) (D := (d : Int)) (x := x) (i := i) hs h12 hb0 hf)
      obtain ⟨q0, q1, q2⟩ := HC8.out wr hb0
      simp at hi13
      have hc : i = 0 ∨ i = 1 ∨ i = 2 ∨ i = 3 ∨ i = 4 ∨ i = 5 ∨ i = 6 ∨ i = 7 ∨ i = 8 ∨ i = 9 ∨ i = 10 ∨ i = 11 ∨ i = 12 := by omega
      clear e0 e1 e2 e0' e1' e2'
      rcases hc with rfl | rfl | rfl | rfl | rfl | rfl | rfl | rfl | rfl | rfl | rfl | rfl | rfl
      · refine wpOp_do rfl rfl (wp_yield (v := .pointer (some ⟨wA.heap.size, 0, none⟩)) (w' := wr) ?_ ?_)
        · simp only [gAct]
          go_simp
        · exact ST.out wr _ (by omega) (Below.refl _ _) rfl
      · have hon := ready_on hi rfl
        simp [Region.binds] at hon
        have e1 : v 0 = .pointer (some ⟨wA.heap.size, 0, none⟩) := hf 0 (by omega) (by simpa using hon)
        refine wpOp_do rfl rfl (wp_yield (v := .int .i64 x.1) (w' := wr) ?_ ?_)
        · simp only [gAct, e1]
          go_simp
        · exact ST.out wr _ (by omega) (Below.refl _ _) rfl
      · have hon := ready_on hi rfl
        simp [Region.binds] at hon
        have e1 : v 1 = .int .i64 x.1 := hf 1 (by omega) (by simpa using hon)
        refine wpOp_do rfl rfl (wp_call_go 26 _ _ rfl Tryd.func26 (by kernel_rfl) (by kernel_rfl) #[.int .i64 x.1, .int .i64 3] (by simp [gAct, Act.eval, e1]) (HM3.out wr) ?_)
        rintro e w' ⟨rfl, rfl⟩
        exact ⟨_, rfl, ST.out wr _ (by omega) (Below.refl _ _) rfl⟩
      · refine wpOp_do rfl rfl (wp_yield (v := .pointer (some ⟨wA.heap.size, 1, none⟩)) (w' := wr) ?_ ?_)
        · simp only [gAct]
          go_simp
        · exact ST.out wr _ (by omega) (Below.refl _ _) rfl
      · have hon := ready_on hi rfl
        simp [Region.binds] at hon
        have e1 : v 3 = .pointer (some ⟨wA.heap.size, 1, none⟩) := hf 3 (by omega) (by simpa using hon)
        refine wpOp_do rfl rfl (wp_yield (v := .int .i64 x.2.1) (w' := wr) ?_ ?_)
        · simp only [gAct, e1]
          go_simp
        · exact ST.out wr _ (by omega) (Below.refl _ _) rfl
      · have hon := ready_on hi rfl
        simp [Region.binds] at hon
        have e1 : v 4 = .int .i64 x.2.1 := hf 4 (by omega) (by simpa using hon.1)
        refine wpOp_do rfl rfl (wp_call_go 26 _ _ rfl Tryd.func26 (by kernel_rfl) (by kernel_rfl) #[.int .i64 x.2.1, .int .i64 2] (by simp [gAct, Act.eval, e1]) (HM2.out wr) ?_)
        rintro e w' ⟨rfl, rfl⟩
        exact ⟨_, rfl, ST.out wr _ (by omega) (Below.refl _ _) rfl⟩
      · have hon := ready_on hi rfl
        simp [Region.binds] at hon
        have e1 : v 5 = .int .i64 (x.2.1 % 2) := hf 5 (by omega) (by simpa using hon)
        have hw : IntKind.i64.wrap (97 + x.2.1 % 2) = 97 + x.2.1 % 2 := IntWalk.i64_in _ (by omega)
        refine wpOp_do rfl rfl (wp_yield (v := .int .i64 (97 + x.2.1 % 2)) (w' := wr) ?_ ?_)
        · simp only [gAct, e1]
          go_simp
        · exact ST.out wr _ (by omega) (Below.refl _ _) rfl
      · have hon := ready_on hi rfl
        simp [Region.binds] at hon
        have e1 : v 6 = .int .i64 (97 + x.2.1 % 2) := hf 6 (by omega) (by simpa using hon)
        have hw := u8_char (x.2.1 % 2) (by omega) (by omega)
        refine wpOp_do rfl rfl (wp_yield (v := .int .u8 (97 + x.2.1 % 2)) (w' := wr) ?_ ?_)
        · simp only [gAct, e1]
          go_simp
        · exact ST.out wr _ (by omega) (Below.refl _ _) rfl
      · have hon := ready_on hi rfl
        simp [Region.binds] at hon
        have e1 : v 7 = .int .u8 (97 + x.2.1 % 2) := hf 7 (by omega) (by simpa using hon)
        refine wpOp_do rfl rfl (wp_yield (v := .slice (some ⟨wr.heap.size, 0, none⟩) 1 1) (w' := wr.alloc (.cells #[.int .u8 (97 + x.2.1 % 2)] 5)) ?_ ?_)
        · simp only [gAct, e1]
          go_simp
        · exact ST.out _ _ (by omega) (bal (Below.refl _ _) _) ⟨_, rfl, Blk.new _ _ _, hb0.size⟩
      · have hon := ready_on hi rfl
        simp [Region.binds] at hon
        obtain ⟨g5, e1, hk5, hg5⟩ := hf 8 (by omega) (by simpa using hon)
        have hcv := conv_text hk5
        refine wpOp_do rfl rfl (wp_yield (v := .string (ndText x)) (w' := wr) ?_ ?_)
        · simp [execOp, gAct, Act.eval, e1, hcv]
        · exact ST.out wr _ (by omega) (Below.refl _ _) rfl
      · have hon := ready_on hi rfl
        simp [Region.binds] at hon
        have e1 : v 2 = .int .i64 (x.1 % 3) := hf 2 (by omega) (by simpa using hon.1)
        have e2 : v 9 = .string (ndText x) := hf 9 (by omega) (by simpa using hon.2)
        refine wpOp_do rfl rfl (wp_yield (v := .agg (finT x)) (w' := wr) ?_ ?_)
        · simp only [gAct, e1, e2, finT]
          go_simp
        · exact ST.out wr _ (by omega) (Below.refl _ _) rfl
      · have hl11 := (ready_unrun hi).2
        have hn12 : listed.getD 12 false = false := by
          cases hq : listed.getD 12 false with
          | false => rfl
          | true =>
            have h1 := h12 hq
            simp [Array.getD, hs] at h1 hl11
            rw [h1] at hl11; cases hl11
        refine wpOp_do rfl rfl (wp_yield (v := .pointer (some ⟨wr.heap.size, 0, none⟩)) (w' := wr.alloc (.cells zeroT 42)) ?_ ?_)
        · simp only [gAct, zeroT]
          go_simp
        · refine ST.out _ _ (by omega) (bal (Below.refl _ _) _) ⟨_, rfl, hb0.size, ?_⟩
          rw [hn12]
          exact Blk.new _ _ _
      · have hon := ready_on hi rfl
        simp [Region.binds] at hon
        have hl11 : listed.getD 11 false = true := by simpa using hon.1
        obtain ⟨g, e1, hgb, hkg⟩ := hf 11 (by omega) hl11
        have e2 : v 10 = .agg (finT x) := hf 10 (by omega) (by simpa using hon.2.1)
        obtain ⟨p0, p1, p2, p3, hkg'⟩ : ∃ p0 p1 p2 p3, Blk wr g 42 #[p0, p1, p2, p3] := by
          cases hq : listed.getD 12 false with
          | false => rw [hq] at hkg; exact ⟨_, _, _, _, hkg⟩
          | true => rw [hq] at hkg; exact ⟨_, _, _, _, hkg⟩
        have s0 := hkg'.cell 0
        have s1 := hkg'.cell 1
        have s2 := hkg'.cell 2
        have s3 := hkg'.cell 3
        simp at s0 s1 s2 s3
        have t0 := hkg'.frozen 0
        have t1 := hkg'.frozen 1
        have t2 := hkg'.frozen 2
        have t3 := hkg'.frozen 3
        have hnew := put4_blk hkg' (.int .i64 (x.1 % 3)) (.string (ndText x)) (.slice none 0 0) (.slice none 0 0)
        have hch := put4_chg wr g (.int .i64 (x.1 % 3)) (.string (ndText x)) (.slice none 0 0) (.slice none 0 0)
        obtain ⟨wF, hwF⟩ : ∃ wF, ((((wr.setCell ⟨g, 0, none⟩ (.int .i64 (x.1 % 3))).setCell ⟨g, 1, none⟩ (.string (ndText x))).setCell ⟨g, 2, none⟩ (.slice none 0 0)).setCell ⟨g, 3, none⟩ (.slice none 0 0)) = wF := ⟨_, rfl⟩
        rw [hwF] at hnew hch
        have HNEW := Lib.hid hnew
        have HCH := Lib.hid hch
        have HWF := Lib.hid hwF
        clear hnew hch hwF
        have hfin : GI wB ab ao n c a w.heap.size wA.heap.size (d : Int) x (listed.setIfInBounds 12 true) (gAct ab ao n c a w.heap.size wA.heap.size (d : Int) x v) wF := by
          refine ⟨by simpa using hs, fun _ => by rw [getD_set _ _ _ _ (by omega), if_neg (by omega)]; exact hl11, v, rfl, hb0.trans (HCH.out.below hb0.size (fun i hi => by omega)), fun j hj hl => ?_⟩
          have e12 : (listed.setIfInBounds 12 true).getD 12 false = true := by rw [getD_set _ _ _ _ (by omega), if_pos rfl]
          rw [e12]
          rw [getD_set _ _ _ _ (by omega), if_neg (by omega)] at hl
          have hold := hf j hj hl
          rcases Nat.lt_or_ge j 11 with h1 | h1
          · by_cases h8 : j = 8
            · subst h8
              obtain ⟨g5, a1, a2, a3⟩ := hold
              exact ⟨g5, a1, a2.chg HCH.out (a2.ne_ hkg' (by decide)), a3⟩
            · revert hold
              have hj' : j = 0 ∨ j = 1 ∨ j = 2 ∨ j = 3 ∨ j = 4 ∨ j = 5 ∨ j = 6 ∨ j = 7 ∨ j = 9 ∨ j = 10 := by omega
              rcases hj' with rfl | rfl | rfl | rfl | rfl | rfl | rfl | rfl | rfl | rfl <;> exact fun h => h
          · obtain rfl : j = 11 := by omega
            exact ⟨g, e1, hgb, HNEW.out⟩
        have HFIN := Lib.hid hfin
        clear hfin hf hkg
        refine wpOp_do rfl rfl ?_
        unfold Oper.wp
        simp only [gAct, e1, e2, finT]
        go_simp
        have hh := HFIN.out
        simp only [gAct, e1, e2, finT] at hh
        rw [HWF.out]
        exact hh
    · intro listed act wr hr' hI
      obtain ⟨hs, h12, v, rfl, hb0, hf⟩ := hI
      have l0 : listed[0]?.getD false = true := by simpa using ready_nil (i := 0) hr' rfl (by omega) (by simp)
      have l1 : listed[1]?.getD false = true := by simpa using ready_nil (i := 1) hr' rfl (by omega) (by simp [l0])
      have l2 : listed[2]?.getD false = true := by simpa using ready_nil (i := 2) hr' rfl (by omega) (by simp [l1])
      have l3 : listed[3]?.getD false = true := by simpa using ready_nil (i := 3) hr' rfl (by omega) (by simp)
      have l4 : listed[4]?.getD false = true := by simpa using ready_nil (i := 4) hr' rfl (by omega) (by simp [l3])
      have l5 : listed[5]?.getD false = true := by simpa using ready_nil (i := 5) hr' rfl (by omega) (by simp [l4, l2])
      have l6 : listed[6]?.getD false = true := by simpa using ready_nil (i := 6) hr' rfl (by omega) (by simp [l5])
      have l7 : listed[7]?.getD false = true := by simpa using ready_nil (i := 7) hr' rfl (by omega) (by simp [l6])
      have l8 : listed[8]?.getD false = true := by simpa using ready_nil (i := 8) hr' rfl (by omega) (by simp [l7])
      have l9 : listed[9]?.getD false = true := by simpa using ready_nil (i := 9) hr' rfl (by omega) (by simp [l8])
      have l10 : listed[10]?.getD false = true := by simpa using ready_nil (i := 10) hr' rfl (by omega) (by simp [l2, l9])
      have l11 : listed[11]?.getD false = true := by simpa using ready_nil (i := 11) hr' rfl (by omega) (by simp)
      have l12 : listed[12]?.getD false = true := by simpa using ready_nil (i := 12) hr' rfl (by omega) (by simp [l11, l10, l5, l0, l1, l2, l3, l4, l6, l7, l8, l9])
      obtain ⟨g, ev, hgb, hkg⟩ := hf 11 (by omega) (by simpa using l11)
      have q12 : listed.getD 12 false = true := by simpa using l12
      rw [q12] at hkg
      have HKG : Hid (Blk wr g 42 #[.int .i64 (x.1 % 3), .string (ndText x), .slice none 0 0, .slice none 0 0]) := hkg
      have HB2 := Lib.hid hb0
      have hHB8 := HB8.out.below hb0 hlt8
      have HB8' := Lib.hid hHB8
      have HB0' : Hid (Blk wr w.heap.size 42 zeroT) := HB0.out.below hb0 HB0.out.lt
      have HBW : Hid (Below w.heap.size w wr) := HBB.out.trans (hb0.mono HBB.out.size)
      have c80 := hHB8.cell 0
      have c82 := hHB8.cell 2
      simp at c80 c82
      simp only [gAct, ev]
      go_wp2_with fail
      go_meet
      exact ⟨g, rfl, HBW.out, HB0'.out, HB8'.out, HKG.out, by have := HZA.out; omega, by omega, HZA.out⟩
  case rest =>
    obtain ⟨g, rfl, HGG⟩ := hcut
    obtain ⟨wq, rfl⟩ : ∃ wq : World, wq = wc := ⟨_, rfl⟩
    have HBW := Lib.hid HGG.out.1
    have HB0' := Lib.hid HGG.out.2.1
    have HB8' := Lib.hid HGG.out.2.2.1
    have HKG := Lib.hid HGG.out.2.2.2.1
    have hgw := HGG.out.2.2.2.2.1
    have hg8 : wA.heap.size ≠ g := HGG.out.2.2.2.2.2.1
    have c80 := HB8'.out.cell 0
    have c82 := HB8'.out.cell 2
    simp at c80 c82
    clear e0 e1 e2 e0' e1' e2'
    have HM4 := Lib.hid (fun W : World => mod_any x.1 4 W (by omega) (by omega) hi1.1 hi1.2)
    have HMK := Lib.hid (fun W : World => mod_any x.2.2 4 W (by omega) (by omega) hi3.1 hi3.2)
    obtain ⟨r4, hr4⟩ : ∃ r4, x.1 % 4 = r4 := ⟨_, rfl⟩
    rw [hr4] at HM4
    have HR4 := Lib.hid hr4
    clear hr4
    go_upto_if 30 with (go_at_call 26; refine (HM4.out _).mono ?_; rintro e w5 ⟨rfl, rfl⟩)
    go_cut [9] (fun s wk => s = .pointer (some ⟨g, 0, none⟩) ∧ ∃ (A5 : Option Addr) (c5 : Nat), Hid (GR w wk g wk.heap.size (x.1 % 3) (ndText x) (ndLeads x) A5 c5 [] (.slice none 0 0) [] ∧ Blk wk wA.heap.size 96 #[.int .i64 x.1, .int .i64 x.2.1, .int .i64 x.2.2]))
    case first =>
      by_cases h3 : r4 = 3
      · have d3 : (r4 == 3) = true := by simpa using h3
        have HL : Hid (ndLeads x = [bS]) := by unfold Hid ndLeads; rw [if_pos (HR4.out.trans h3)]
        obtain ⟨wl, hwl⟩ : ∃ wl, wq.alloc (.cells #[.string ⟨#[32]⟩] 9) = wl := ⟨_, rfl⟩
        have hbl : Below wq.heap.size wq wl := by subst hwl; exact bal (Below.refl _ _) _
        have hkl : Blk wl wq.heap.size 9 #[.string bS] := by subst hwl; exact Blk.new _ _ _
        have hkg := HKG.out.below hbl HKG.out.lt
        have s2 := hkg.cell 2
        simp at s2
        have t2 := hkg.frozen 2
        have hlq := HKG.out.lt
        have hzl := hbl.size
        have hch : Chg wl (wl.setCell ⟨g, 2, none⟩ (.slice (some ⟨wq.heap.size, 0, none⟩) 1 1)) (fun i => i = g) := (Chg.refl wl (fun i => i = g)).setCell (p := ⟨g, 2, none⟩) (.inl rfl) _
        have h8 := HB8'.out.lt
        have HE : Hid (GR w (wl.setCell ⟨g, 2, none⟩ (.slice (some ⟨wq.heap.size, 0, none⟩) 1 1)) g (wl.setCell ⟨g, 2, none⟩ (.slice (some ⟨wq.heap.size, 0, none⟩) 1 1)).heap.size (x.1 % 3) (ndText x) (ndLeads x) (some ⟨wq.heap.size, 0, none⟩) 1 [] (.slice none 0 0) [] ∧ Blk (wl.setCell ⟨g, 2, none⟩ (.slice (some ⟨wq.heap.size, 0, none⟩) 1 1)) wA.heap.size 96 #[.int .i64 x.1, .int .i64 x.2.1, .int .i64 x.2.2]) := by
          have hss : (wl.setCell ⟨g, 2, none⟩ (.slice (some ⟨wq.heap.size, 0, none⟩) 1 1)).heap.size = wl.heap.size := by simp [World.setCell]
          have hkl2 := hkl.chg hch (fun e => by omega)
          have hll := hkl.lt
          have hbw := HBW.out.size
          refine ⟨⟨(HBW.out.trans (hbl.mono HBW.out.size)).trans (hch.below (by omega) (fun i hi => by omega)), (HB0'.out.below hbl HB0'.out.lt).chg hch (fun e => by omega), ?_, ?_, hgw, by omega, Nat.le_refl _, TL.nil _ _ _, rfl⟩, (HB8'.out.below hbl h8).chg hch (fun e => by omega)⟩
          · rw [HL.out]
            exact hkg.set_ 2 _
          · rw [HL.out]
            exact ⟨rfl, fun _ => ⟨wq.heap.size, 0, rfl, ⟨by omega, by omega, by omega, by omega⟩, by omega, fun j u hu => by
              rw [Nat.zero_add, hkl2.cell]; simpa using hu⟩⟩
        clear h3 hkl hkg hch
        go_wp2_with fail
        go_meet
        exact ⟨rfl, _, _, HE⟩
      · have d3 : (r4 == 3) = false := by simpa using h3
        have HL : Hid (ndLeads x = []) := by unfold Hid ndLeads; rw [if_neg (fun e => h3 (HR4.out.symm.trans e))]
        have HE : Hid (GR w wq g wq.heap.size (x.1 % 3) (ndText x) (ndLeads x) none 0 [] (.slice none 0 0) [] ∧ Blk wq wA.heap.size 96 #[.int .i64 x.1, .int .i64 x.2.1, .int .i64 x.2.2]) := by
          refine ⟨⟨HBW.out, HB0'.out, ?_, ?_, hgw, HKG.out.lt, Nat.le_refl _, TL.nil _ _ _, rfl⟩, HB8'.out⟩
          · rw [HL.out]; exact HKG.out
          · rw [HL.out]; exact ⟨rfl, fun h => absurd h (by simp)⟩
        clear h3
        go_wp2_with fail
        go_meet
        exact ⟨rfl, _, _, HE⟩
    case rest =>
      obtain ⟨rfl, A5, c5, HGB⟩ := hcut
      obtain ⟨w8, rfl⟩ : ∃ wo : World, wo = wc := ⟨_, rfl⟩
      obtain ⟨HB, hHB⟩ : ∃ HB, w8.heap.size = HB := ⟨_, rfl⟩
      have HGR : Hid (GR w w8 g HB (x.1 % 3) (ndText x) (ndLeads x) A5 c5 [] (.slice none 0 0) []) := by rw [← hHB]; exact HGB.out.1
      have HB88 := Lib.hid HGB.out.2
      have h8lt : wA.heap.size < HB := by rw [← hHB]; exact HGB.out.2.lt
      obtain ⟨cm, hcm⟩ : ∃ cm : Nat, x.2.2 % 4 = (cm : Int) := ⟨(x.2.2 % 4).toNat, by omega⟩
      have hcm4 : cm ≤ 3 := by omega
      have HCM : Hid (gCnt d x = if d = 0 then 0 else cm) := by unfold Hid gCnt; rw [hcm]; simp
      rw [hcm] at HMK
      obtain ⟨i0', hi', hz0, hz1, hz2⟩ := info_parts tree_info
      have HI := Lib.hid hi'
      have HZ0 := Lib.hid hz0
      have HZ1 := Lib.hid hz1
      have HZ2 := Lib.hid hz2
      have HKI := Lib.hid (kst_inv (f := f) (n := n) (by have := HFI.out; exact this) (a + 1) (by omega))
      clear hHB HGB hcm HM4 hi' hz0 hz1 hz2 c80 c82
      go_wp2_with fail
      have HIHH := HIH
      go_loopw [1, 10] (fun av iv wr => ∃ (i at_ : Nat) (kA : Option Addr) (kc : Nat) (rs : List TX), i ≤ cm ∧ (d = 0 → i = 0) ∧ iv = .int .i64 (i : Int) ∧ av = .int .i64 (at_ : Int) ∧ at_ ≤ n ∧ Hid (at_ = (kst f n (a + 1) i).2) ∧ Hid (GR w wr g HB (x.1 % 3) (ndText x) (ndLeads x) A5 c5 (kst f n (a + 1) i).1 (.slice kA rs.length kc) rs) ∧ Hid (Blk wr wA.heap.size 96 #[.int .i64 x.1, .int .i64 x.2.1, .int .i64 x.2.2])) (fun _ i _ => cm - (intOf i).toNat)
      case atStart => exact ⟨0, a + 1, none, 0, [], by omega, (fun _ => rfl), rfl, by go_num, by omega, rfl, HGR, HB88⟩
      case round =>
        obtain ⟨i, at_, kA, kc, rs, hi, hdi, rfl, rfl, hatn, HAT, HG, HN8⟩ := hrel
        have c82 := HN8.out.cell 2
        simp at c82
        have hzr := HG.out.bel.size
        by_cases hgo : i < cm ∧ at_ < n ∧ 0 < d
        · obtain ⟨g1, g2, g3⟩ := hgo
          have d1 : decide (i < cm) = true := decide_eq_true g1
          have d2 : decide (at_ < n) = true := decide_eq_true g2
          have d3 : decide ((0 : Int) < (d : Int)) = true := decide_eq_true (by omega)
          have d4 : decide (0 < d) = true := decide_eq_true g3
          have hrl : rs.length ≤ 60 := by
            have h1 := HG.out.pl
            obtain ⟨-, k2, k3, -⟩ := HKI.out i
            have h2 := len_sizes (kst f n (a + 1) i).1
            rw [← h1, List.length_map] at h2
            rw [h1] at h2
            omega
          obtain ⟨wz, hwz⟩ : ∃ wz, wr.alloc (.cells #[.int .i64 0, .string ⟨#[]⟩, .slice none 0 0, .slice none 0 0] 42) = wz := ⟨_, rfl⟩
          have HBZ : Hid (Below wr.heap.size wr wz) := by subst hwz; exact bal (Below.refl _ _) _
          have HZB : Hid (Blk wz wr.heap.size 42 zeroT) := by subst hwz; exact Blk.new _ _ _
          have hzz : wr.heap.size < wz.heap.size := HZB.out.lt
          have HWZ : Hid (wr.heap.size + 1 ≤ wz.heap.size) := hzz
          have HC := Lib.hid (HIH.out g3 at_ wz g2 ((HR.out.below (HG.out.bel.trans (HBZ.out.mono hzr))).more (by omega)))
          have HNX : Hid (kst f n (a + 1) (i + 1) = ((kst f n (a + 1) i).1 ++ [(f at_).1], (f at_).2)) := by
            unfold Hid
            rw [kst]
            rw [← HAT.out]
            exact if_pos g2
          have hfb := (HFI.out at_ g2)
          have hf2 : (f at_).2 ≤ n := hfb.2.1
          obtain ⟨fa, hfa⟩ : ∃ fa, (f at_).2 = fa := ⟨_, rfl⟩
          rw [hfa] at hf2
          have HFA := Lib.hid hfa
          clear hfb hfa
          go_wp2_with (go_at_call 26; refine (HMK.out _).mono ?_; rintro e w5 ⟨rfl, rfl⟩)
          refine (HC.out).mono ?_
          rintro e w5 ⟨r5, rfl, hp5, ht5, hi5, hf5, hb5⟩
          rw [HFA.out]
          unfold TX.val
          have hzb5 := HZB.out.below hb5 HZB.out.lt
          have hz5 := hb5.size
          have y0 := hzb5.cell 0
          have y1 := hzb5.cell 1
          have y2 := hzb5.cell 2
          have y3 := hzb5.cell 3
          simp [zeroT] at y0 y1 y2 y3
          have z0 := hzb5.frozen 0
          have z1 := hzb5.frozen 1
          have z2 := hzb5.frozen 2
          have z3 := hzb5.frozen 3
          have hblk := put4_blk hzb5 (.int .i64 r5.kind) (.string r5.text) (.slice r5.lA r5.leads.length r5.lc) (.slice r5.kA r5.kids.length r5.kc)
          have hch := put4_chg w5 wr.heap.size (.int .i64 r5.kind) (.string r5.text) (.slice r5.lA r5.leads.length r5.lc) (.slice r5.kA r5.kids.length r5.kc)
          obtain ⟨wS, hwS⟩ : ∃ wS, ((((w5.setCell ⟨wr.heap.size, 0, none⟩ (.int .i64 r5.kind)).setCell ⟨wr.heap.size, 1, none⟩ (.string r5.text)).setCell ⟨wr.heap.size, 2, none⟩ (.slice r5.lA r5.leads.length r5.lc)).setCell ⟨wr.heap.size, 3, none⟩ (.slice r5.kA r5.kids.length r5.kc)) = wS := ⟨_, rfl⟩
          rw [hwS] at hblk hch
          have HBS : Hid (Below wr.heap.size wr wS) := (HBZ.out.trans (hb5.mono HBZ.out.size)).trans (hch.below (by omega) (fun i hi => by omega))
          have HTS : Hid (Tr wS wS.heap.size r5) := (ht5.chgS hi5 hch (Nat.le_refl _) (fun i hi e => by omega)).more hch.size
          have HIS : Hid (InS (wr.heap.size ≤ ·) r5) := hi5.mono (fun b hb => by omega)
          have HFS := Lib.hid hf5
          have HPS := Lib.hid hp5
          have u0 := hblk.cell 0
          have u1 := hblk.cell 1
          have u2 := hblk.cell 2
          have u3 := hblk.cell 3
          simp at u0 u1 u2 u3
          have hg1 := HG.out.b1.below HBS.out HG.out.b1.lt
          have v3 := hg1.cell 3
          simp at v3
          have HG1 := Lib.hid hg1
          have HOW : Hid (wS.ownsRow HB 42 4 (.slice kA rs.length kc) rs.length (rs.flatMap TX.cells)) := owns_below HG.out.tl.row HBS.out (own_lt HG.out.tl.row)
          have hzS := HBS.out.size
          have hHBr := HG.out.hb
          clear hp5 ht5 hi5 hf5 hb5 hzb5 hblk hch hg1 hwz
          go_wp2_with (at_builtin; refine wpList_append_row _ rfl (.tmp 61) (.tmp 63) 23 23 rfl HB 42 i0' (.agg #[.int .i64 0, .string ⟨#[]⟩, .slice none 0 0, .slice none 0 0]) 4 72 Tryd.underlying23 HI.out HZ0.out HZ1.out HZ2.out rfl (by decide) (.slice kA rs.length kc) rs.length (rs.flatMap TX.cells) rfl (HOW.out.alloc _) (.slice (some ⟨wS.heap.size, 0, none⟩) 1 1) 1 r5.cells rfl (src_new wS Tryd.underlying23 r5.cells 4 1 1 42 rfl (tree_one r5)) ?c1 ?c2 ?c3 ?_)
          case c1 => unfold maxLen; omega
          case c2 => omega
          case c3 => simp; omega
          intro v6 w6 ho6 hg6
          obtain ⟨A6, c6, rfl, -, -⟩ := reads_of_owns ho6
          have hb16 := hg6.blk (HG1.out.alloc (.cells r5.cells.toArray 42)) (fun e => by have := own_from HOW.out _ e; have := HG.out.gh; omega)
          have q3 := hb16.cell 3
          simp at q3
          have s3 := hb16.frozen 3
          have hln2 : (rs ++ [r5]).length = rs.length + 1 := by simp
          have HGN : Hid (GR w (w6.setCell ⟨g, 3, none⟩ (.slice A6 (rs.length + 1) c6)) g HB (x.1 % 3) (ndText x) (ndLeads x) A5 c5 (kst f n (a + 1) (i + 1)).1 (.slice A6 (rs ++ [r5]).length c6) (rs ++ [r5])) := by
            have h1 := HG.out.step HBS.out HTS.out HIS.out HFS.out _ ho6 hg6
            rw [HPS.out] at h1
            unfold Hid
            rw [HNX.out, hln2]
            exact h1
          have HATN : Hid (fa = (kst f n (a + 1) (i + 1)).2) := by unfold Hid; rw [HNX.out]; exact HFA.out.symm
          have HN8N : Hid (Blk (w6.setCell ⟨g, 3, none⟩ (.slice A6 (rs.length + 1) c6)) wA.heap.size 96 #[.int .i64 x.1, .int .i64 x.2.1, .int .i64 x.2.2]) :=
            (hg6.blk ((HN8.out.below HBS.out HN8.out.lt).alloc _) (fun e => by have := own_from HOW.out _ e; omega)).far (p := ⟨g, 3, none⟩) hg8 _
          have hd0 : d = 0 → i + 1 = 0 := fun h => by omega
          have HD0 := Lib.hid hd0
          clear ho6 hg6 hb16 hd0 hdi
          go_wp2_with fail
          go_roundw
          case rel => exact ⟨i + 1, fa, A6, c6, rs ++ [r5], by omega, HD0.out, by go_num, rfl, hf2, HATN, HGN, HN8N⟩
          case measure => simp [intOf]; omega
        · have HKF : Hid (kst f n (a + 1) (gCnt d x) = kst f n (a + 1) i) := by
            unfold Hid
            rw [HCM.out]
            by_cases hd0 : d = 0
            · rw [if_pos hd0, hdi hd0]
            · rw [if_neg hd0]
              rcases Nat.lt_or_ge i cm with h1 | h1
              · have h2 : ¬ at_ < n := fun h => hgo ⟨h1, h, by omega⟩
                exact kst_stop hi (by rw [← HAT.out]; exact h2)
              · have : i = cm := by omega
                rw [this]
          have hql : (kst f n (a + 1) i).1.length ≤ 1000000 := by
            obtain ⟨-, k2, k3, -⟩ := HKI.out i
            have h2 := len_sizes (kst f n (a + 1) i).1
            omega
          obtain ⟨n1, n2, n3, n4, n5⟩ := nd_tiny x
          obtain ⟨r, hrv, hrp, hrt, hri, hrf, hrb⟩ := HG.out.done ⟨by omega, by omega⟩ n1 n2 n3 hql
          have HD : Hid (GrowPost w (gRes f n a d x) (.returned (.tuple #[.agg #[.int .i64 (x.1 % 3), .string (ndText x), .slice A5 (ndLeads x).length c5, .slice kA rs.length kc], .int .i64 (at_ : Int)])) ((((wr.setCell ⟨w.heap.size, 0, none⟩ (.int .i64 (x.1 % 3))).setCell ⟨w.heap.size, 1, none⟩ (.string (ndText x))).setCell ⟨w.heap.size, 2, none⟩ (.slice A5 (ndLeads x).length c5)).setCell ⟨w.heap.size, 3, none⟩ (.slice kA rs.length kc))) := by
            refine ⟨r, ?_, ?_, hrt, hri, hrf, hrb⟩
            · rw [hrv]; unfold gRes; rw [HKF.out, ← HAT.out]
            · rw [hrp]; unfold gRes; rw [HKF.out]
          obtain ⟨ln, hln⟩ : ∃ ln, (ndLeads x).length = ln := ⟨_, rfl⟩
          rw [hln] at HD
          have hb1 := HG.out.b1
          rw [hln] at hb1
          have b0 := hb1.cell 0
          have b1 := hb1.cell 1
          have b2 := hb1.cell 2
          have b3 := hb1.cell 3
          simp at b0 b1 b2 b3
          have HB00 : Hid (Blk wr w.heap.size 42 #[.int .i64 0, .string ⟨#[]⟩, .slice none 0 0, .slice none 0 0]) := HG.out.b0
          have z0 := HB00.out.frozen 0
          have z1 := HB00.out.frozen 1
          have z2 := HB00.out.frozen 2
          have z3 := HB00.out.frozen 3
          have y0 := HB00.out.cell 0
          have y1 := HB00.out.cell 1
          have y2 := HB00.out.cell 2
          have y3 := HB00.out.cell 3
          simp at y0 y1 y2 y3
          have HXE := Lib.hid (put4_blk HB00.out (.int .i64 (x.1 % 3)) (.string (ndText x)) (.slice A5 ln c5) (.slice kA rs.length kc))
          have x0 := HXE.out.cell 0
          have x1 := HXE.out.cell 1
          have x2 := HXE.out.cell 2
          have x3 := HXE.out.cell 3
          simp at x0 x1 x2 x3
          clear hrv hrp hrt hri hrf hrb hln hb1 n1 n2 n3 n4 n5 hql hdi
          by_cases k1 : i < cm
          · have d1 : decide (i < cm) = true := decide_eq_true k1
            by_cases k2 : at_ < n
            · have d2 : decide (at_ < n) = true := decide_eq_true k2
              have k3 : d = 0 := by
                rcases Nat.eq_zero_or_pos d with h | h
                · exact h
                · exact absurd ⟨k1, k2, h⟩ hgo
              have d3 : decide ((0 : Int) < (d : Int)) = false := decide_eq_false (by omega)
              have d4 : decide (0 < d) = false := decide_eq_false (by omega)
              clear hgo k3
              go_wp2_with (go_at_call 26; refine (HMK.out _).mono ?_; rintro e w5 ⟨rfl, rfl⟩)
              refine bodyPost_ret (v := .tuple #[.agg #[.int .i64 (x.1 % 3), .string (ndText x), .slice A5 ln c5, .slice kA rs.length kc], .int .i64 (at_ : Int)]) (by simp [results, Tryd.results35, go_sem, x0, x1, x2, x3]) rfl ?_
              exact HD.out
            · have d2 : decide (at_ < n) = false := decide_eq_false k2
              clear hgo
              go_wp2_with (go_at_call 26; refine (HMK.out _).mono ?_; rintro e w5 ⟨rfl, rfl⟩)
              refine bodyPost_ret (v := .tuple #[.agg #[.int .i64 (x.1 % 3), .string (ndText x), .slice A5 ln c5, .slice kA rs.length kc], .int .i64 (at_ : Int)]) (by simp [results, Tryd.results35, go_sem, x0, x1, x2, x3]) rfl ?_
              exact HD.out
          · have d1 : decide (i < cm) = false := decide_eq_false k1
            clear hgo
            go_wp2_with (go_at_call 26; refine (HMK.out _).mono ?_; rintro e w5 ⟨rfl, rfl⟩)
            refine bodyPost_ret (v := .tuple #[.agg #[.int .i64 (x.1 % 3), .string (ndText x), .slice A5 ln c5, .slice kA rs.length kc], .int .i64 (at_ : Int)]) (by simp [results, Tryd.results35, go_sem, x0, x1, x2, x3]) rfl ?_
            exact HD.out
end Go.Proofs.YtdabmjcpiblofaaDoor
