/-
  PackAdds: for every input the law returns true, and its arguments are as they were. No condition beside the given statement's own.
-/
import Derived.Test.YtdabmjcpiblofaaDoorPkLaws
import Derived.Test.YtdabmjcpiblofaaDoorPkKr
import Derived.Test.YtdabmjcpiblofaaDoorPkAe
namespace Go.Proofs.YtdabmjcpiblofaaDoor.packAdds
open Go.ChangeShapes Go.WideShapes Go.ChangeAt Go.RowKit
open Go.ChangeMaps (open_string shut_string)
set_option linter.unusedVariables false

structure BX (W wx : World) (g : Nat) (u : PkV) : Prop where
  bel : Below W.heap.size W wx
  blk : Blk wx g 29 #[.slice u.nA u.ps.length u.nc, .slice u.rA u.rs.length u.rc]
  ok : u.ok wx wx.heap.size
theorem BX.lit {W w6 : World} {u : PkV} (hb : Below W.heap.size W w6) (hk : u.ok w6 w6.heap.size) : BX W (w6.alloc (.cells #[.slice u.nA u.ps.length u.nc, .slice u.rA u.rs.length u.rc] 29)) w6.heap.size u :=
  ⟨bal hb _, Blk.new _ _ _, hk.up (Nat.le_refl _) (bal (Below.refl _ _) _)⟩
theorem bst2 {W w6 : World} {g : Nat} (hb : Below W.heap.size W w6) (hg : W.heap.size ≤ g) (a b : Value) : Below W.heap.size W ((w6.setCell ⟨g, 0, none⟩ a).setCell ⟨g, 1, none⟩ b) := (hb.setCell (p := ⟨g, 0, none⟩) hg a).setCell (p := ⟨g, 1, none⟩) hg b
theorem BX.set_ {W w6 : World} {u : PkV} {g : Nat} (hb : Below W.heap.size W w6) (hk : u.ok w6 w6.heap.size) (hq : Blk w6 g 29 #[.slice none 0 0, .slice none 0 0]) (hg : W.heap.size ≤ g) : BX W ((w6.setCell ⟨g, 0, none⟩ (.slice u.nA u.ps.length u.nc)).setCell ⟨g, 1, none⟩ (.slice u.rA u.rs.length u.rc)) g u :=
  ⟨bst2 hb hg _ _, (hq.set_ 0 _).set_ 1 _, boxed hk hq⟩

set_option maxRecDepth 100000 in
set_option maxHeartbeats 8000000 in
theorem walk (A : Option Addr) (c n : Nat) (l : List ND) (hnl : l.length = n) (hnc : n ≤ c) (hcm : n ≤ 140737488351232) (hli : ∀ x ∈ l, i64 x.1 ∧ i64 x.2.1 ∧ i64 x.2.2) (A' : Option Addr) (c' n' : Nat) (l' : List ND) (hnl' : l'.length = n') (hnc' : n' ≤ c') (hcm' : n' ≤ 140737488351232) (hli' : ∀ x ∈ l', i64 x.1 ∧ i64 x.2.1 ∧ i64 x.2.2) (Z : Option Addr) (zn zc : Nat) (zs : List Int) (w : World) (hr : Reads w w.heap.size 3 A n (l.flatMap ndCells)) (hr' : Reads w w.heap.size 3 A' n' (l'.flatMap ndCells)) (hzm : zn ≤ maxLen) (hrz : Reads w w.heap.size 1 Z zn (zs.map (Value.int .i64))) (hz64 : ∀ z ∈ zs, i64 z) (ht : Tab w) :
    Calls Tryd.prog 7 #[.slice A n c, .slice A' n' c', .slice Z zn zc] w fun e w' => e = .returned (.bool true) ∧ Below w.heap.size w w' := by
  have H1 := Lib.hid (lawTrees_any A c n l hnl hnc hcm hli w hr)
  have HSZ := Lib.hid (treesL_inv (l.take 60) (by rw [List.length_take]; omega))
  have HSZ' := Lib.hid (treesL_inv (l'.take 60) (by rw [List.length_take]; omega))
  have HTR : Hid (∀ w', Below w.heap.size w w' → Calls Tryd.prog 11 #[.slice A' n' c'] w' (TLPost w' (treesL (l'.take 60)))) := fun w' hb => lawTrees_any A' c' n' l' hnl' hnc' hcm' hli' w' ((hr'.below hb).more hb.size)
  have HRZ : Hid (∀ w', Below w.heap.size w w' → Reads w' w.heap.size 1 Z zn (zs.map (Value.int .i64))) := fun w' hb => hrz.below hb
  have HZ64 := Lib.hid hz64
  have HZL : Hid (zs.length = zn) := by have := hrz.1; unfold Hid; simpa using this
  have HT := Lib.hid ht
  clear hr hr' hrz hz64 ht hli hli' hnl hnl'
  go_enter Tryd.func7, Tryd.ntmps7
  go_wp2_with fail
  refine (H1.out).mono ?_
  rintro e w1 ⟨A1, c1, rs, rfl, hpl, htl, hb1⟩
  have hsz : T.sizes (rs.map TX.plain) ≤ 60 := by rw [hpl]; exact HSZ.out.1
  have H2 := Lib.hid (refMake_any A1 c1 rs w1 htl.lt (by omega))
  have HB1 := Lib.hid hb1
  have hrl : rs.length ≤ 60 := by have := len_sizes (rs.map TX.plain); rw [List.length_map] at this; omega
  have hpr : (T.puts (rs.map TX.plain) []).2.length = rs.length := by have := puts_len (rs.map TX.plain) []; simpa using this
  clear hpl htl hb1 hsz H1
  go_wp2_with fail
  refine (H2.out).mono ?_
  rintro e w2 ⟨p, rfl, hun, hur, huk, hb2⟩
  have hpn : p.rs.length ≤ 60 := by rw [hur, hpr]; exact hrl
  obtain ⟨W2, hW2⟩ : ∃ W, w2.alloc (.cells #[.slice p.nA p.ps.length p.nc, .slice p.rA p.rs.length p.rc] 29) = W := ⟨_, rfl⟩
  have HX2 : Hid (Blk W2 w2.heap.size 29 #[.slice p.nA p.ps.length p.nc, .slice p.rA p.rs.length p.rc]) := by
    rw [← hW2]; exact Blk.new w2 _ _
  have HD2 : Hid (Below w2.heap.size w2 W2) := by
    rw [← hW2]; exact bal (Below.refl _ w2) _
  have HB2 : Hid (Below w.heap.size w W2) := HB1.out.trans ((hb2.trans (HD2.out.mono hb2.size)).mono HB1.out.size)
  have HU : Hid (p.ok W2 W2.heap.size) := huk.up (Nat.le_refl _) HD2.out
  obtain ⟨ml, hml⟩ : ∃ x, treesL (l'.take 60) = x := ⟨_, rfl⟩
  have HML : Hid (T.sizes ml ≤ 60) := by rw [← hml]; exact HSZ'.out.1
  rw [hml] at HTR
  obtain ⟨ea, hea⟩ : ∃ x, addE p.ns p.rs ml = x := ⟨_, rfl⟩
  have HEA := Lib.hid hea
  have HTR2 : Hid (∀ w', Below W2.heap.size W2 w' → Calls Tryd.prog 11 #[.slice A' n' c'] w' (TLPost w' ml)) := fun w' hb => HTR.out w' (HB2.out.trans (hb.mono HB2.out.size))
  have HAD : Hid (∀ w' L lc ls, Below W2.heap.size W2 w' → LT w' L ls → ls.map TX.plain = ml → Calls Tryd.prog 29 #[.agg #[.slice p.nA p.ps.length p.nc, .slice p.rA p.rs.length p.rc], .slice L ls.length lc] w' (AddPost w' p ml)) := fun w' L lc ls hb hl hp => by
    have := add_any p L lc ls w' (HU.out.up (Nat.le_refl _) hb) (HT.out.below (HB2.out.trans (hb.mono HB2.out.size))) hl (by rw [hp]; have := HML.out; omega)
    rw [hp] at this
    exact this
  have HCB : Hid (∀ w', Below W2.heap.size W2 w' → w'.cell? ⟨w2.heap.size, 0, none⟩ = some (.slice p.nA p.ps.length p.nc) ∧ w'.cell? ⟨w2.heap.size, 1, none⟩ = some (.slice p.rA p.rs.length p.rc)) := fun w' hb => by
    have h1 := HX2.out.below hb HX2.out.lt
    exact ⟨by rw [h1.cell]; rfl, by rw [h1.cell]; rfl⟩
  have c20 := (HCB.out _ (Below.refl _ _)).1
  have c21 := (HCB.out _ (Below.refl _ _)).2
  have HPN := Lib.hid hpn
  unfold PkV.val
  clear hun hur huk hb2 H2 hml hea hrl hpr hpn
  go_upto_region 2 with fail
  have B0 : Hid (Below W2.heap.size W2 W2.drew) := below_drewN (Below.refl _ W2) 1
  have B0A : Hid (∀ o, Below W2.heap.size W2 (W2.alloc o).drew) := fun o => below_drewN (bal (Below.refl _ W2) o) 1
  go_cut [8, 9] (fun s er wx => ∃ g u, s = .pointer (some ⟨g, 0, none⟩) ∧ er = .int .i64 ea ∧ Hid (BX W2 wx g u) ∧ Hid ((u.ns, u.rs) = addP p.ns p.rs ml))
  case first =>
    go_region_held3 (fun w' => w'.cell? ⟨w2.heap.size, 0, none⟩ = some (.slice p.nA p.ps.length p.nc) ∧ w'.cell? ⟨w2.heap.size, 1, none⟩ = some (.slice p.rA p.rs.length p.rc))
      (first | (with_reducible exact HCB.out _ B0.out) | (with_reducible exact HCB.out _ (B0A.out _)) | (with_reducible exact HCB.out _ B5.out) | (with_reducible exact HCB.out _ (bal B5.out _)) | (with_reducible exact HCB.out _ B6.out) | (with_reducible exact HCB.out _ (bal B6.out _)) | (with_reducible exact HCB.out _ (bst2 B6.out G6.out _ _)))
      (first
        | (go_at_call 29; have hq5 := Q5.out; refine (HAD.out _ A5 c5 t5 B5.out L5.out P5.out).mono ?_; rintro e w6 ⟨u6, rfl, hu6, hk6, hb6⟩; unfold PkV.val; have B6 := Lib.hid (B5.out.trans (hb6.mono B5.out.size)); have U6 := Lib.hid hu6; have K6 := Lib.hid hk6; have q := hq5.below hb6 hq5.lt; have Q6 := Lib.hid q; have G6 : Hid (W2.heap.size ≤ W2.heap.size) := Nat.le_refl _; have q0 := q.cell 0; have q1 := q.cell 1; simp at q0 q1; have z0 := q.frozen 0; have z1 := q.frozen 1; rw [HEA.out]; clear hq5 q hu6 hk6 hb6)
        | (go_at_call 29; refine (HAD.out _ A5 c5 t5 (bal B5.out _) (L5.out.up (bal (Below.refl _ _) _)) P5.out).mono ?_; rintro e w6 ⟨u6, rfl, hu6, hk6, hb6⟩; unfold PkV.val; have B6 := Lib.hid ((bal B5.out _).trans (hb6.mono (bal B5.out _).size)); have U6 := Lib.hid hu6; have K6 := Lib.hid hk6; have q := Blk.below (Blk.new _ _ _) hb6 (by simp); have Q6 := Lib.hid q; have G6 := Lib.hid B5.out.size; have q0 := q.cell 0; have q1 := q.cell 1; simp at q0 q1; have z0 := q.frozen 0; have z1 := q.frozen 1; rw [HEA.out]; clear q hu6 hk6 hb6)
        | (go_at_call 29; refine (HAD.out _ A5 c5 t5 B5.out L5.out P5.out).mono ?_; rintro e w6 ⟨u6, rfl, hu6, hk6, hb6⟩; unfold PkV.val; have B6 := Lib.hid (B5.out.trans (hb6.mono B5.out.size)); have U6 := Lib.hid hu6; have K6 := Lib.hid hk6; rw [HEA.out]; clear hu6 hk6 hb6)
        | (go_at_call 11; refine (HTR2.out _ (B0A.out _)).mono ?_; rintro e w5 ⟨A5, c5, t5, rfl, hp5, htl5, hb5⟩; have B5 := Lib.hid ((B0A.out _).trans (hb5.mono (B0A.out _).size)); have L5 := Lib.hid htl5.lt; have P5 := Lib.hid hp5; have Q5 := Lib.hid (Blk.below (Blk.drew (Blk.new _ _ _)) hb5 (by simp)); clear hp5 htl5 hb5)
        | (go_at_call 11; refine (HTR2.out _ B0.out).mono ?_; rintro e w5 ⟨A5, c5, t5, rfl, hp5, htl5, hb5⟩; have B5 := Lib.hid (B0.out.trans (hb5.mono B0.out.size)); have L5 := Lib.hid htl5.lt; have P5 := Lib.hid hp5; clear hp5 htl5 hb5))
    all_goals
      go_wp2_with fail
      go_meet
      first
        | exact ⟨_, u6, rfl, rfl, BX.lit B6.out K6.out, U6⟩
        | exact ⟨_, u6, rfl, rfl, BX.set_ B6.out K6.out Q6.out G6.out, U6⟩
  case rest =>
    obtain ⟨w4, rfl⟩ : ∃ wo : World, wo = wc := ⟨_, rfl⟩
    obtain ⟨g8, ua, rfl, rfl, HXA, HUA⟩ := hcut
    clear B0 B0A c20 c21
    have HBL4 : Hid (Below W2.heap.size W2 w4) := HXA.out.bel
    have HTR4 : Hid (∀ w', Below w4.heap.size w4 w' → Calls Tryd.prog 11 #[.slice A' n' c'] w' (TLPost w' ml)) := fun w' hb => HTR2.out w' (HBL4.out.trans (hb.mono HBL4.out.size))
    have HRAD : Hid (∀ w' L lc ls, Below w4.heap.size w4 w' → LT w' L ls → ls.map TX.plain = ml → Calls Tryd.prog 30 #[.agg #[.slice p.nA p.ps.length p.nc, .slice p.rA p.rs.length p.rc], .slice L ls.length lc] w' (AddPost w' p ml)) := fun w' L lc ls hb hl hp => by
      have := radd_any p L lc ls w' (HU.out.up (Nat.le_refl _) (HBL4.out.trans (hb.mono HBL4.out.size))) hl (by rw [hp]; have := HML.out; omega)
      rw [hp] at this
      exact this
    have HCB4 : Hid (∀ w', Below w4.heap.size w4 w' → w'.cell? ⟨w2.heap.size, 0, none⟩ = some (.slice p.nA p.ps.length p.nc) ∧ w'.cell? ⟨w2.heap.size, 1, none⟩ = some (.slice p.rA p.rs.length p.rc)) := fun w' hb => HCB.out w' (HBL4.out.trans (hb.mono HBL4.out.size))
    have c20 := (HCB4.out _ (Below.refl _ _)).1
    have c21 := (HCB4.out _ (Below.refl _ _)).2
    go_upto_region 3 with fail
    have B0 : Hid (Below w4.heap.size w4 w4.drew) := below_drewN (Below.refl _ w4) 1
    have B0A : Hid (∀ o, Below w4.heap.size w4 (w4.alloc o).drew) := fun o => below_drewN (bal (Below.refl _ w4) o) 1
    go_cut [10, 11] (fun s er wx => ∃ g u, s = .pointer (some ⟨g, 0, none⟩) ∧ er = .int .i64 ea ∧ Hid (BX w4 wx g u) ∧ Hid ((u.ns, u.rs) = addP p.ns p.rs ml))
    case first =>
      go_region_held3 (fun w' => w'.cell? ⟨w2.heap.size, 0, none⟩ = some (.slice p.nA p.ps.length p.nc) ∧ w'.cell? ⟨w2.heap.size, 1, none⟩ = some (.slice p.rA p.rs.length p.rc))
        (first | (with_reducible exact HCB4.out _ B0.out) | (with_reducible exact HCB4.out _ (B0A.out _)) | (with_reducible exact HCB4.out _ B5.out) | (with_reducible exact HCB4.out _ (bal B5.out _)) | (with_reducible exact HCB4.out _ B6.out) | (with_reducible exact HCB4.out _ (bal B6.out _)) | (with_reducible exact HCB4.out _ (bst2 B6.out G6.out _ _)))
        (first
          | (go_at_call 30; have hq5 := Q5.out; refine (HRAD.out _ A5 c5 t5 B5.out L5.out P5.out).mono ?_; rintro e w6 ⟨u6, rfl, hu6, hk6, hb6⟩; unfold PkV.val; have B6 := Lib.hid (B5.out.trans (hb6.mono B5.out.size)); have U6 := Lib.hid hu6; have K6 := Lib.hid hk6; have q := hq5.below hb6 hq5.lt; have Q6 := Lib.hid q; have G6 : Hid (w4.heap.size ≤ w4.heap.size) := Nat.le_refl _; have q0 := q.cell 0; have q1 := q.cell 1; simp at q0 q1; have z0 := q.frozen 0; have z1 := q.frozen 1; rw [HEA.out]; clear hq5 q hu6 hk6 hb6)
          | (go_at_call 30; refine (HRAD.out _ A5 c5 t5 (bal B5.out _) (L5.out.up (bal (Below.refl _ _) _)) P5.out).mono ?_; rintro e w6 ⟨u6, rfl, hu6, hk6, hb6⟩; unfold PkV.val; have B6 := Lib.hid ((bal B5.out _).trans (hb6.mono (bal B5.out _).size)); have U6 := Lib.hid hu6; have K6 := Lib.hid hk6; have q := Blk.below (Blk.new _ _ _) hb6 (by simp); have Q6 := Lib.hid q; have G6 := Lib.hid B5.out.size; have q0 := q.cell 0; have q1 := q.cell 1; simp at q0 q1; have z0 := q.frozen 0; have z1 := q.frozen 1; rw [HEA.out]; clear q hu6 hk6 hb6)
          | (go_at_call 30; refine (HRAD.out _ A5 c5 t5 B5.out L5.out P5.out).mono ?_; rintro e w6 ⟨u6, rfl, hu6, hk6, hb6⟩; unfold PkV.val; have B6 := Lib.hid (B5.out.trans (hb6.mono B5.out.size)); have U6 := Lib.hid hu6; have K6 := Lib.hid hk6; rw [HEA.out]; clear hu6 hk6 hb6)
          | (go_at_call 11; refine (HTR4.out _ (B0A.out _)).mono ?_; rintro e w5 ⟨A5, c5, t5, rfl, hp5, htl5, hb5⟩; have B5 := Lib.hid ((B0A.out _).trans (hb5.mono (B0A.out _).size)); have L5 := Lib.hid htl5.lt; have P5 := Lib.hid hp5; have Q5 := Lib.hid (Blk.below (Blk.drew (Blk.new _ _ _)) hb5 (by simp)); clear hp5 htl5 hb5)
          | (go_at_call 11; refine (HTR4.out _ B0.out).mono ?_; rintro e w5 ⟨A5, c5, t5, rfl, hp5, htl5, hb5⟩; have B5 := Lib.hid (B0.out.trans (hb5.mono B0.out.size)); have L5 := Lib.hid htl5.lt; have P5 := Lib.hid hp5; clear hp5 htl5 hb5))
      all_goals
        go_wp2_with fail
        go_meet
        first
          | exact ⟨_, u6, rfl, rfl, BX.lit B6.out K6.out, U6⟩
          | exact ⟨_, u6, rfl, rfl, BX.set_ B6.out K6.out Q6.out G6.out, U6⟩
    case rest =>
      obtain ⟨w5, rfl⟩ : ∃ wo : World, wo = wc := ⟨_, rfl⟩
      obtain ⟨g10, ub, rfl, rfl, HXB, HUB⟩ := hcut
      clear B0 B0A c20 c21
      have HBL5 : Hid (Below W2.heap.size W2 w5) := HBL4.out.trans (HXB.out.bel.mono HBL4.out.size)
      have HB5 : Hid (Below w.heap.size w w5) := HB2.out.trans (HBL5.out.mono HB2.out.size)
      obtain ⟨j0, hj0, gz0, gz1, gz2⟩ := info_parts int_info
      have HJ0 := Lib.hid hj0
      have HG0 := Lib.hid gz0
      have HG1 := Lib.hid gz1
      have HG2 := Lib.hid gz2
      clear hj0 gz0 gz1 gz2
      go_wp2_with fail
      go_loopw [12, 13] (fun r i wr => ∃ (j : Nat) (lA : Option Addr) (lc : Nat) (ks : List Int), j ≤ 6 ∧ j ≤ zn ∧ i = .int .i64 (j : Int) ∧ r = .slice lA j lc ∧ Hid (wr.ownsRow w5.heap.size 3 1 (.slice lA j lc) j (ks.map (Value.int .i64))) ∧ Hid (ks.length = j) ∧ Hid (∀ k ∈ ks, i64 k) ∧ Hid (Below w5.heap.size w5 wr)) (fun _ i _ => 6 - (intOf i).toNat)
      case atStart => exact ⟨0, none, 0, [], by omega, by omega, rfl, rfl, ⟨rfl, .inl ⟨rfl, rfl⟩⟩, rfl, (fun k hk => by cases hk), Below.refl _ _⟩
      case round =>
        obtain ⟨j, lA, lc, ks, hj6, hjz, rfl, rfl, HOW, HKL, HKI, HQ⟩ := hrel
        have hzr := HQ.out.size
        by_cases hlt : j < zn ∧ j < 6
        · obtain ⟨z, hz⟩ : ∃ z, zs[j]? = some z := ⟨_, List.getElem?_eq_getElem (by rw [HZL.out]; exact hlt.1)⟩
          obtain ⟨b1, o1, u1, rfl, hb1, hu1, g1⟩ := (HRZ.out _ HB5.out).at1 hlt.1
          obtain rfl : u1 = .int .i64 z := by rw [List.getElem?_map, hz] at hu1; simpa using hu1.symm
          have hz64 := HZ64.out z (List.mem_of_getElem? hz)
          obtain ⟨qn, hqn⟩ : ∃ qn : Nat, z % 9 = (qn : Int) := ⟨(z % 9).toNat, by have := Int.emod_nonneg z (show (9 : Int) ≠ 0 by decide); omega⟩
          have hq9 : qn < 9 := by have := Int.emod_lt_of_pos z (show (0 : Int) < 9 by decide); omega
          obtain ⟨dn, hdn⟩ : ∃ dn : Nat, qn / 8 = dn := ⟨_, rfl⟩
          have hd1 : dn ≤ 1 := by omega
          have hquo : Int.tdiv (qn : Int) 8 = (dn : Int) := by rw [← hdn]; exact Int.ofNat_tdiv qn 8
          have hpn := HPN.out
          obtain ⟨pn, hpnl⟩ : ∃ pn, p.rs.length = pn := ⟨_, rfl⟩
          have HMA : Hid (∀ w', Calls Tryd.prog 26 #[.int .i64 z, .int .i64 9] w' fun e w2 => e = .returned (.int .i64 (qn : Int)) ∧ Below w'.heap.size w' w2) := fun w' => by
            refine (mod_any z 9 w' (by omega) (by omega) hz64.1 hz64.2).mono ?_
            rintro e w2 ⟨rfl, rfl⟩
            exact ⟨by rw [hqn], Below.refl _ _⟩
          obtain ⟨kk, hkk⟩ : ∃ kk, z % ((pn : Int) + 1 + (dn : Int)) = kk := ⟨_, rfl⟩
          have hkk64 : i64 kk := by
            have h1 := Int.emod_nonneg z (show ((pn : Int) + 1 + (dn : Int)) ≠ 0 by omega)
            have h2 := Int.emod_lt_of_pos z (show (0 : Int) < ((pn : Int) + 1 + (dn : Int)) by omega)
            unfold i64; omega
          have HMB : Hid (∀ w', Calls Tryd.prog 26 #[.int .i64 z, .int .i64 ((pn : Int) + 1 + (dn : Int))] w' fun e w2 => e = .returned (.int .i64 kk) ∧ Below w'.heap.size w' w2) := fun w' => by
            refine (mod_any z ((pn : Int) + 1 + (dn : Int)) w' (by omega) (by omega) hz64.1 hz64.2).mono ?_
            rintro e w2 ⟨rfl, rfl⟩
            exact ⟨by rw [hkk], Below.refl _ _⟩
          have HK64 := Lib.hid hkk64
          have hb15 : b1 < w5.heap.size := by have := HB5.out.size; omega
          have HG1' : Hid (w5.cell? ⟨b1, o1 + j, none⟩ = some (.int .i64 z)) := g1
          have HPL : Hid (p.rs.length = pn) := hpnl
          have HC8 : Hid (∀ w', Below w5.heap.size w5 w' → w'.cell? ⟨b1, o1 + j, none⟩ = some (.int .i64 z) ∧ w'.cell? ⟨w2.heap.size, 1, none⟩ = some (.slice p.rA pn p.rc)) := fun w' hb => by
            have h1 := (HCB.out w' (HBL5.out.trans (hb.mono HBL5.out.size))).2
            rw [HPL.out] at h1
            exact ⟨(hb.cell hb15).trans HG1'.out, h1⟩
          have dl1 : decide ((j : Int) < (zn : Int)) = true := decide_eq_true (by omega)
          have dl2 : decide ((j : Int) < 6) = true := decide_eq_true (by omega)
          have k0 : (0 : Int) ≤ (j : Int) := by omega
          have k1 : (j : Int) < (zn : Int) := by omega
          have hpn60 : pn ≤ 60 := by omega
          have hw1 : IntKind.i64.wrap ((pn : Int) + 1) = (pn : Int) + 1 := IntWalk.i64_in _ (by omega)
          have hw2 : IntKind.i64.wrap (dn : Int) = (dn : Int) := IntWalk.i64_in _ (by omega)
          have hw3 : IntKind.i64.wrap ((pn : Int) + 1 + (dn : Int)) = (pn : Int) + 1 + (dn : Int) := IntWalk.i64_in _ (by omega)
          have B0 : Hid (Below w5.heap.size w5 wr.drew) := below_drewN HQ.out 1
          have HOW7 : Hid (∀ w', Below wr.heap.size wr w' → w'.ownsRow w5.heap.size 3 1 (.slice lA j lc) j (ks.map (Value.int .i64))) := fun w' hb => owns_below HOW.out hb (own_lt HOW.out)
          have BR0 : Hid (Below wr.heap.size wr wr.drew) := below_drewN (Below.refl _ _) 1
          have HM1 : Hid (j + 1 ≤ maxLen) := by unfold Hid maxLen; omega
          have HM2 : Hid ((j + 1) * 8 ≤ 140737488355328) := by unfold Hid; omega
          have HZW : Hid (∀ w8 o, Below wr.heap.size wr w8 → w5.heap.size ≤ (w8.alloc o).heap.size) := fun w8 o hb => by have := hb.size; simp; omega
          clear hz hu1 g1 hqn hdn hkk hpnl hpn hz64 hkk64
          go_wp2_with fail
          go_region_held3 (fun w' => w'.cell? ⟨b1, o1 + j, none⟩ = some (.int .i64 z) ∧ w'.cell? ⟨w2.heap.size, 1, none⟩ = some (.slice p.rA pn p.rc))
            (first | (with_reducible exact HC8.out _ B0.out) | (with_reducible exact HC8.out _ B7.out) | (with_reducible exact HC8.out _ B8.out) | (with_reducible exact HC8.out _ (bal B8.out _)) | (with_reducible exact HC8.out _ B9.out))
            (first
              | (refine step_append_row _ rfl (.tmp 45) (.tmp 62) 27 27 rfl w5.heap.size 3 j0 (.int .i64 0) 1 8 Tryd.underlying27 HJ0.out HG0.out HG1.out HG2.out rfl (by decide) (.slice lA j lc) j (ks.map (Value.int .i64)) rfl ((HOW7.out _ R8.out).alloc _) (.slice (some ⟨w8.heap.size, 0, none⟩) 1 1) 1 [.int .i64 kk] rfl (src_new w8 Tryd.underlying27 [.int .i64 kk] 1 1 1 3 rfl (one_i64 _)) HM1.out HM2.out (HZW.out _ _ R8.out) ?_; intro v9 w9 ho9 hg9; obtain ⟨A9, c9, rfl, -, -⟩ := reads_of_owns ho9; have HO9 := Lib.hid ho9; have B9 : Hid (Below w5.heap.size w5 w9) := (bal B8.out _).grown hg9.grown (bal B8.out _).size (fun g hg => own_from HOW.out g hg); clear ho9 hg9)
              | (go_at_call 26; have m7 := R7.out; refine (HMB.out _).mono ?_; rintro e w8 ⟨rfl, hb8⟩; have R8 := Lib.hid (R7.out.trans (hb8.mono R7.out.size)); have B8 := Lib.hid (B7.out.trans (hb8.mono B7.out.size)); clear hb8 m7)
              | (go_at_call 26; refine (HMA.out _).mono ?_; rintro e w7 ⟨rfl, hb7⟩; have R7 := Lib.hid (BR0.out.trans (hb7.mono BR0.out.size)); have B7 := Lib.hid (B0.out.trans (hb7.mono B0.out.size)); clear hb7))
          all_goals
            have HKI9 : Hid (∀ k ∈ ks ++ [kk], i64 k) := fun k hk => by
              rcases List.mem_append.1 hk with hk | hk
              · exact HKI.out k hk
              · simp at hk; subst hk; exact HK64.out
            have HKL9 : Hid ((ks ++ [kk]).length = j + 1) := by unfold Hid; rw [List.length_append, HKL.out]; rfl
            have HO9' : Hid (w9.ownsRow w5.heap.size 3 1 (.slice A9 (j + 1) c9) (j + 1) ((ks ++ [kk]).map (Value.int .i64))) := by unfold Hid; rw [List.map_append]; exact HO9.out
            go_wp2_with fail
            go_roundw
            case rel => exact ⟨j + 1, A9, c9, ks ++ [kk], by omega, by omega, by go_num, rfl, HO9', HKL9, HKI9, B9⟩
            case measure => simp [intOf] <;> omega
        · have hrow : Reads wr wr.heap.size 1 lA ks.length (ks.map (Value.int .i64)) := by have := Reads.of_own HOW.out; rw [HKL.out]; exact this
          have HB6 : Hid (Below w.heap.size w wr) := HB5.out.trans (HQ.out.mono HB5.out.size)
          have HBL6 : Hid (Below W2.heap.size W2 wr) := HBL5.out.trans (HQ.out.mono HBL5.out.size)
          have HP6 : Hid (p.ok wr wr.heap.size) := HU.out.up (Nat.le_refl _) HBL6.out
          have H5 := Lib.hid (keep_any p lA lc ks wr HP6.out (HT.out.below HB6.out) hrow (by rw [HKL.out]; omega) HKI.out)
          obtain ⟨ek, hek⟩ : ∃ ek, keepE p.ns p.rs ks = ek := ⟨_, rfl⟩
          have HEK := Lib.hid hek
          have HKEEP : Hid (∀ w', Below wr.heap.size wr w' → Calls Tryd.prog 28 #[p.val, .slice lA j lc] w' (KeepPost w' p ks)) := fun w' hb => by
            have := rkeep_any p lA lc ks w' (HP6.out.up (Nat.le_refl _) hb) ((hrow.below hb).more hb.size) (by rw [HKL.out]; omega) HKI.out
            rw [HKL.out] at this
            exact this
          rw [HKL.out] at H5
          unfold PkV.val at H5 HKEEP
          have c60 := (HCB.out _ HBL6.out).1
          have c61 := (HCB.out _ HBL6.out).2
          have HXA6 : Hid (Blk wr g8 29 #[.slice ua.nA ua.ps.length ua.nc, .slice ua.rA ua.rs.length ua.rc]) := (HXA.out.blk.below HXB.out.bel HXA.out.blk.lt).below HQ.out (by have := HXA.out.blk.lt; have := HXB.out.bel.size; omega)
          have HXB6 : Hid (Blk wr g10 29 #[.slice ub.nA ub.ps.length ub.nc, .slice ub.rA ub.rs.length ub.rc]) := HXB.out.blk.below HQ.out HXB.out.blk.lt
          have HUA6 : Hid (ua.ok wr wr.heap.size) := (HXA.out.ok.up (Nat.le_refl _) HXB.out.bel).up (Nat.le_refl _) HQ.out
          have HUB6 : Hid (ub.ok wr wr.heap.size) := HXB.out.ok.up (Nat.le_refl _) HQ.out
          have HEQ1 : Hid (eqPk ua ub) := by
            have h := HUA.out.trans HUB.out.symm
            injection h with h1 h2
            exact ⟨h1, h2⟩
          have d1 : (ea == ea) = true := by simp
          have d2 : (ek == ek) = true := by simp
          clear hrow hek
          rcases Nat.lt_or_ge j zn with hjz' | hjz'
          rotate_left
          · have dl1 : decide ((j : Int) < (zn : Int)) = false := decide_eq_false (by omega)
            go_wp2_with fail
            refine (H5.out).mono ?_
            rintro e w6 ⟨ux, rfl, hux, hkx, hb6⟩
            rw [HEK.out]
            obtain ⟨W6, hW6⟩ : ∃ W, w6.alloc (.cells #[.slice ux.nA ux.ps.length ux.nc, .slice ux.rA ux.rs.length ux.rc] 29) = W := ⟨_, rfl⟩
            have HX6 : Hid (Blk W6 w6.heap.size 29 #[.slice ux.nA ux.ps.length ux.nc, .slice ux.rA ux.rs.length ux.rc]) := by rw [← hW6]; exact Blk.new w6 _ _
            have hd6 : Below w6.heap.size w6 W6 := by rw [← hW6]; exact bal (Below.refl _ w6) _
            have HBR6 : Hid (Below wr.heap.size wr W6) := hb6.trans (hd6.mono hb6.size)
            have HUX : Hid (ux.ok W6 W6.heap.size) := hkx.up (Nat.le_refl _) hd6
            have HPX := Lib.hid hux
            have H6 := Lib.hid (HKEEP.out W6 HBR6.out)
            have c70 := (HCB.out _ (HBL6.out.trans (HBR6.out.mono HBL6.out.size))).1
            have c71 := (HCB.out _ (HBL6.out.trans (HBR6.out.mono HBL6.out.size))).2
            unfold PkV.val
            clear hux hkx hb6 hd6 H5 c60 c61
            go_wp2_with fail
            refine (H6.out).mono ?_
            rintro e w7 ⟨uy, rfl, huy, hky, hb7⟩
            rw [HEK.out]
            obtain ⟨W7, hW7⟩ : ∃ W, w7.alloc (.cells #[.slice uy.nA uy.ps.length uy.nc, .slice uy.rA uy.rs.length uy.rc] 29) = W := ⟨_, rfl⟩
            have HX7 : Hid (Blk W7 w7.heap.size 29 #[.slice uy.nA uy.ps.length uy.nc, .slice uy.rA uy.rs.length uy.rc]) := by rw [← hW7]; exact Blk.new w7 _ _
            have hd7 : Below w7.heap.size w7 W7 := by rw [← hW7]; exact bal (Below.refl _ w7) _
            have HBR7 : Hid (Below W6.heap.size W6 W7) := hb7.trans (hd7.mono hb7.size)
            have HUY : Hid (uy.ok W7 W7.heap.size) := hky.up (Nat.le_refl _) hd7
            have HBRR : Hid (Below wr.heap.size wr W7) := HBR6.out.trans (HBR7.out.mono HBR6.out.size)
            have HXA7 := Lib.hid (HXA6.out.below HBRR.out HXA6.out.lt)
            have HXB7 := Lib.hid (HXB6.out.below HBRR.out HXB6.out.lt)
            have HX6' := Lib.hid (HX6.out.below HBR7.out HX6.out.lt)
            have HEQ2 : Hid (eqPk ux uy) := by
              have h := HPX.out.trans huy.symm
              injection h with h1 h2
              exact ⟨h1, h2⟩
            have HB7 : Hid (Below w.heap.size w W7) := HB6.out.trans (HBRR.out.mono HB6.out.size)
            have H7 := Lib.hid (refSame_any ua ub W7 (HUA6.out.up (Nat.le_refl _) HBRR.out) (HUB6.out.up (Nat.le_refl _) HBRR.out))
            have a0 := HXA7.out.cell 0
            have a1 := HXA7.out.cell 1
            have b0 := HXB7.out.cell 0
            have b1 := HXB7.out.cell 1
            simp at a0 a1 b0 b1
            unfold PkV.val at H7 ⊢
            have HW6 := Lib.hid hW6
            clear huy hky hb7 hd7 H6 c70 c71 hW6
            go_wp2_with fail
            refine (H7.out).mono ?_
            rintro e w8 ⟨bv, hbv, rfl, hb8⟩
            obtain rfl : bv = true := hbv.2 HEQ1.out
            have HB8 : Hid (Below w.heap.size w w8) := HB7.out.trans (hb8.mono HB7.out.size)
            have HX68 := Lib.hid (HX6'.out.below hb8 HX6'.out.lt)
            have HX78 := Lib.hid (HX7.out.below hb8 HX7.out.lt)
            have H8 := Lib.hid (refSame_any ux uy w8 ((HUX.out.up (Nat.le_refl _) HBR7.out).up (Nat.le_refl _) hb8) (HUY.out.up (Nat.le_refl _) hb8))
            have HW7 := Lib.hid hW7
            have x0 := HX68.out.cell 0
            have x1 := HX68.out.cell 1
            have y0 := HX78.out.cell 0
            have y1 := HX78.out.cell 1
            simp at x0 x1 y0 y1
            unfold PkV.val at H8
            clear hbv hb8 H7 hW7 a0 a1 b0 b1
            go_wp2_with fail
            refine (H8.out).mono ?_
            rintro e w9 ⟨bv, hbv, rfl, hb9⟩
            obtain rfl : bv = true := hbv.2 HEQ2.out
            have HB9 : Hid (Below w.heap.size w w9) := HB8.out.trans (hb9.mono HB8.out.size)
            have H9 := Lib.hid (awake_any w9 (HT.out.below HB9.out))
            clear hbv hb9 H8 x0 x1 y0 y1
            go_wp2_with fail
            refine (H9.out).mono ?_
            rintro e w10 ⟨rfl, hb10⟩
            have HB10 : Hid (Below w.heap.size w w10) := HB9.out.trans (hb10.mono HB9.out.size)
            clear hb10 H9
            go_wp2_with fail
            go_ret
            exact ⟨rfl, HB10.out⟩
          · have dl1 : decide ((j : Int) < (zn : Int)) = true := decide_eq_true (by omega)
            have dl2 : decide ((j : Int) < 6) = false := decide_eq_false (by omega)
            go_wp2_with fail
            refine (H5.out).mono ?_
            rintro e w6 ⟨ux, rfl, hux, hkx, hb6⟩
            rw [HEK.out]
            obtain ⟨W6, hW6⟩ : ∃ W, w6.alloc (.cells #[.slice ux.nA ux.ps.length ux.nc, .slice ux.rA ux.rs.length ux.rc] 29) = W := ⟨_, rfl⟩
            have HX6 : Hid (Blk W6 w6.heap.size 29 #[.slice ux.nA ux.ps.length ux.nc, .slice ux.rA ux.rs.length ux.rc]) := by rw [← hW6]; exact Blk.new w6 _ _
            have hd6 : Below w6.heap.size w6 W6 := by rw [← hW6]; exact bal (Below.refl _ w6) _
            have HBR6 : Hid (Below wr.heap.size wr W6) := hb6.trans (hd6.mono hb6.size)
            have HUX : Hid (ux.ok W6 W6.heap.size) := hkx.up (Nat.le_refl _) hd6
            have HPX := Lib.hid hux
            have H6 := Lib.hid (HKEEP.out W6 HBR6.out)
            have c70 := (HCB.out _ (HBL6.out.trans (HBR6.out.mono HBL6.out.size))).1
            have c71 := (HCB.out _ (HBL6.out.trans (HBR6.out.mono HBL6.out.size))).2
            unfold PkV.val
            clear hux hkx hb6 hd6 H5 c60 c61
            go_wp2_with fail
            refine (H6.out).mono ?_
            rintro e w7 ⟨uy, rfl, huy, hky, hb7⟩
            rw [HEK.out]
            obtain ⟨W7, hW7⟩ : ∃ W, w7.alloc (.cells #[.slice uy.nA uy.ps.length uy.nc, .slice uy.rA uy.rs.length uy.rc] 29) = W := ⟨_, rfl⟩
            have HX7 : Hid (Blk W7 w7.heap.size 29 #[.slice uy.nA uy.ps.length uy.nc, .slice uy.rA uy.rs.length uy.rc]) := by rw [← hW7]; exact Blk.new w7 _ _
            have hd7 : Below w7.heap.size w7 W7 := by rw [← hW7]; exact bal (Below.refl _ w7) _
            have HBR7 : Hid (Below W6.heap.size W6 W7) := hb7.trans (hd7.mono hb7.size)
            have HUY : Hid (uy.ok W7 W7.heap.size) := hky.up (Nat.le_refl _) hd7
            have HBRR : Hid (Below wr.heap.size wr W7) := HBR6.out.trans (HBR7.out.mono HBR6.out.size)
            have HXA7 := Lib.hid (HXA6.out.below HBRR.out HXA6.out.lt)
            have HXB7 := Lib.hid (HXB6.out.below HBRR.out HXB6.out.lt)
            have HX6' := Lib.hid (HX6.out.below HBR7.out HX6.out.lt)
            have HEQ2 : Hid (eqPk ux uy) := by
              have h := HPX.out.trans huy.symm
              injection h with h1 h2
              exact ⟨h1, h2⟩
            have HB7 : Hid (Below w.heap.size w W7) := HB6.out.trans (HBRR.out.mono HB6.out.size)
            have H7 := Lib.hid (refSame_any ua ub W7 (HUA6.out.up (Nat.le_refl _) HBRR.out) (HUB6.out.up (Nat.le_refl _) HBRR.out))
            have a0 := HXA7.out.cell 0
            have a1 := HXA7.out.cell 1
            have b0 := HXB7.out.cell 0
            have b1 := HXB7.out.cell 1
            simp at a0 a1 b0 b1
            unfold PkV.val at H7 ⊢
            have HW6 := Lib.hid hW6
            clear huy hky hb7 hd7 H6 c70 c71 hW6
            go_wp2_with fail
            refine (H7.out).mono ?_
            rintro e w8 ⟨bv, hbv, rfl, hb8⟩
            obtain rfl : bv = true := hbv.2 HEQ1.out
            have HB8 : Hid (Below w.heap.size w w8) := HB7.out.trans (hb8.mono HB7.out.size)
            have HX68 := Lib.hid (HX6'.out.below hb8 HX6'.out.lt)
            have HX78 := Lib.hid (HX7.out.below hb8 HX7.out.lt)
            have H8 := Lib.hid (refSame_any ux uy w8 ((HUX.out.up (Nat.le_refl _) HBR7.out).up (Nat.le_refl _) hb8) (HUY.out.up (Nat.le_refl _) hb8))
            have HW7 := Lib.hid hW7
            have x0 := HX68.out.cell 0
            have x1 := HX68.out.cell 1
            have y0 := HX78.out.cell 0
            have y1 := HX78.out.cell 1
            simp at x0 x1 y0 y1
            unfold PkV.val at H8
            clear hbv hb8 H7 hW7 a0 a1 b0 b1
            go_wp2_with fail
            refine (H8.out).mono ?_
            rintro e w9 ⟨bv, hbv, rfl, hb9⟩
            obtain rfl : bv = true := hbv.2 HEQ2.out
            have HB9 : Hid (Below w.heap.size w w9) := HB8.out.trans (hb9.mono HB8.out.size)
            have H9 := Lib.hid (awake_any w9 (HT.out.below HB9.out))
            clear hbv hb9 H8 x0 x1 y0 y1
            go_wp2_with fail
            refine (H9.out).mono ?_
            rintro e w10 ⟨rfl, hb10⟩
            have HB10 : Hid (Below w.heap.size w w10) := HB9.out.trans (hb10.mono HB9.out.size)
            clear hb10 H9
            go_wp2_with fail
            go_ret
            exact ⟨rfl, HB10.out⟩
theorem own : ownKnob Tryd.prog.godebug = none := by kernel_rfl
theorem laidOut : laidOutB Tryd.prog = true := by kernel_rfl
theorem specN (H : Type) (ds : List (DataW H)) (h : ds.length = 3) : Rows.packAddsSpec.fn H (ds ++ []) = { results := [.lit (.bool true)], args := ds } := by
  match ds, h with
  | [_, _, _], _ => rfl
theorem reads (os : Os) {H : Type} (enc : TypeId × Value → H) : ∃ places, DataW.whole enc Tryd.prog ((laidWorld os).forCall (fun _ _ => 0) ⟨#[], #[.slice none 0 0, .slice none 0 0, .slice none 0 0], []⟩).memory Tryd.f7.params.toList Rows.packAddsSpec.vars false (#[.slice none 0 0, .slice none 0 0, .slice none 0 0] : Array Value).toList 8 = some ([.nil, .nil, .nil], [], places) :=
  ⟨[], by kernel_rfl⟩

set_option maxRecDepth 100000 in
theorem lifted (os : Os) (started : os.Started) (H : Type) (enc : TypeId × Value → H) (F : Stop.Interp) :
    ReturnsInHanded {} Tryd.checked os 7 .any ((OpenSpec.ofChange Rows.packAddsSpec).preRow enc Tryd.prog Tryd.f7 Rows.packAddsRow.domain false Rows.packAddsRow.laid) (((OpenSpec.ofChange Rows.packAddsSpec).at F).post enc Tryd.prog Tryd.f7 false true false false) := by
  obtain ⟨places, hx⟩ := reads os enc
  refine law_of_walk_laid (C := Tryd.checked) own started (by kernel_rfl) Tryd.func7 rfl rfl Tryd.underlying4 laidOut (by kernel_rfl) (fun ds h => specN H ds (h.trans (by kernel_rfl)))
    (witness_row_at (enc := enc) (C := Tryd.checked) false (laidWorld os) #[.slice none 0 0, .slice none 0 0, .slice none 0 0] rfl (by kernel_rfl) (by kernel_rfl) (by kernel_rfl)
      (OpenSpec.preRow_of_cond 8 hx (by kernel_rfl) (fun k hk => by cases hk) (by kernel_rfl) (laid_met os #[.slice none 0 0, .slice none 0 0, .slice none 0 0]))) ?_
  intro W base args ds p hval hA hsz hL
  have hval' : ∀ (j : Nat) t v, Tryd.f7.params[j]? = some t → args[j]? = some v → Value.okWide Tryd.prog W .any base t v := hval
  rw [Tryd.params7] at hval' hA hsz
  obtain ⟨v0, vs0, d0, ds0, p0, q0, hargs, rfl, rfl, h0, r0⟩ := trodAll_cons hA
  obtain ⟨v1, vs1, d1, ds1, p1, q1, rfl, rfl, rfl, h1, r1⟩ := trodAll_cons r0
  obtain ⟨v2, vs2, d2, ds2, p2, q2, rfl, rfl, rfl, h2, r2⟩ := trodAll_cons r1
  obtain ⟨rfl, rfl, rfl⟩ := trodAll_nil r2
  obtain rfl : args = #[v0, v1, v2] := by cases args; simp_all
  obtain ⟨a0, len0, cap0, rfl⟩ := okWide_slice Tryd.underlying22 (hval' 0 22 v0 rfl rfl)
  obtain ⟨nc0, nm0, l0, nl0, nr0, ni0⟩ := open_nodes h0 (sm_arg hsz (j := 0) (t := 22) rfl rfl)
  obtain ⟨a1, len1, cap1, rfl⟩ := okWide_slice Tryd.underlying22 (hval' 1 22 v1 rfl rfl)
  obtain ⟨nc1, nm1, l1, nl1, nr1, ni1⟩ := open_nodes h1 (sm_arg hsz (j := 1) (t := 22) rfl rfl)
  obtain ⟨a2, len2, cap2, rfl⟩ := okWide_slice Tryd.underlying27 (hval' 2 27 v2 rfl rfl)
  obtain ⟨hw2, hc2, hm2, l2, hr2, hl2⟩ := open_i64s Tryd.underlying27 Tryd.underlying3 (by kernel_rfl) h2
  exact walk a0 cap0 len0 l0 nl0 nc0 nm0 ni0 a1 cap1 len1 l1 nl1 nc1 nm1 ni1 a2 len2 cap2 l2 W nr0 nr1 (Nat.le_trans hc2 hm2) hr2 hl2 (tab_of_laid hL)

theorem said : Rows.PackAddsSaid :=
  OpenClaim.holds_of_cond 7 Tryd.f7 rfl rfl rfl rfl rfl rfl rfl ⟨rfl, rfl, rfl, rfl, rfl⟩ rfl rfl rfl rfl rfl (by kernel_rfl) Tryd.func7 (by kernel_rfl)
    (of_decide_eq_true (by kernel_rfl)) (by unfold Func.isWrapper; first | (rw [if_pos (by decide +kernel)]; kernel_rfl) | (rw [if_neg (by decide +kernel)]; exact ⟨rfl, rfl⟩))
    (fun os started H enc _ F => by rw [OpenClaim.pre_eq_preRow]; exact lifted os started H enc F)

theorem plain (f : FuncId) (fn : Func) (hf : Tryd.pinned.checked.prog.funcNamed Rows.packAddsRow.func = some f) (hfn : Tryd.pinned.checked.prog.funcs[f]? = some fn) :
    false = Tryd.pinned.checked.prog.looks [] ∧ ∀ (j : Nat) t, fn.params[j]? = some t → Tryd.pinned.checked.prog.wantsStandIn t = false := by
  obtain rfl : f = 7 := Option.some.inj ((show Tryd.prog.funcNamed Rows.packAddsRow.func = some 7 by kernel_rfl).symm.trans hf) |>.symm
  obtain rfl : fn = Tryd.f7 := (Option.some.inj (Tryd.func7.symm.trans hfn)).symm
  refine ⟨by kernel_rfl, fun j t ht => ?_⟩
  have hall : Tryd.f7.params.toList.all (fun t => Tryd.prog.wantsStandIn t == false) = true := by kernel_rfl
  have hm := List.all_eq_true.1 hall t (by rw [Array.mem_toList_iff]; exact Array.mem_of_getElem? ht)
  have hm' : Tryd.prog.wantsStandIn t = false := by simpa using hm
  exact hm'

theorem proved : Rows.PackAddsCardSaid :=
  Claim7.holds_tied_plain_at .later [] _ _ _ _ said (fun _ h => by cases h) (by kernel_rfl) (fun _ h => by cases h) packAdds_row_tie rfl ⟨rfl, rfl⟩ (by kernel_rfl) rfl plain (by kernel_rfl)
end Go.Proofs.YtdabmjcpiblofaaDoor.packAdds
