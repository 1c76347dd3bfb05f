/-
  The reference's Trees. The reference's Valid. No condition.
-/
import Derived.Test.YtdabmjcpiblofaaDoorPkT
import Derived.BigQuiet
import Derived.Test.YtdabmjcpiblofaaDoorPkO
import Derived.Test.YtdabmjcpiblofaaDoorPkSd
namespace Go.Proofs.YtdabmjcpiblofaaDoor
open Go.RowKit
set_option linter.unusedVariables false

def RTreesPost (w : World) (v : PkV) (e : Ending) (w' : World) : Prop :=
  ∃ (A : Option Addr) (c : Nat) (ts : List TX), e = .returned (.tuple #[.slice A ts.length c, .int .i64 (errP v.ns v.rs)]) ∧ TL w' 0 w.heap.size (.slice A ts.length c) ts ∧ (errP v.ns v.rs = 0 → ts.map TX.plain = treesP v.ns v.rs) ∧ (errP v.ns v.rs ≠ 0 → ts = []) ∧ Below w.heap.size w w'
theorem RTreesPost.no {w wr : World} {v : PkV} {e : Int} (he : errP v.ns v.rs = e) (h : e ≠ 0) (hb : Below w.heap.size w wr) : RTreesPost w v (.returned (.tuple #[.slice none 0 0, .int .i64 e])) wr := by
  subst he
  exact ⟨none, 0, [], rfl, TL.nil _ _ _, fun e => absurd e h, fun _ => rfl, hb⟩
structure RT (w wr : World) (v : PkV) : Prop where
  bel : Below w.heap.size w wr
  box : Blk wr w.heap.size 29 v.arr
theorem RT.drew {w wr : World} {v : PkV} (h : RT w wr v) (q : Nat) : RT w (wr.drewN q) v := ⟨below_drewN h.bel q, h.box.below (below_drewN (Below.refl _ wr) q) h.box.lt⟩
theorem RT.below {w wr w' : World} {v : PkV} (h : RT w wr v) (hb : Below wr.heap.size wr w') : RT w w' v := ⟨h.bel.trans (hb.mono h.bel.size), h.box.below hb h.box.lt⟩
structure TRel0 (w wr : World) (v : PkV) (HB j : Nat) (lv : Value) (ts : List TX) : Prop where
  rt : RT w wr v
  tl : TL wr 0 HB lv ts
  len : ts.length = j
  pl : ts.map TX.plain = (v.rs.take j).map fun r => trA v.ns r.toNat
  hb : w.heap.size < HB
  hr : HB ≤ wr.heap.size
theorem TRel0.step {w wr w1 w3 : World} {v : PkV} {HB j : Nat} {lv v3 : Value} {ts : List TX} {y : Int} {r : TX} (h : TRel0 w wr v HB j lv ts) (hy : v.rs[j]? = some y) (hb : Below wr.heap.size wr w1) (hp : r.plain = trA v.ns y.toNat) (hr : Tr w1 w1.heap.size r) (hi : InS (fun b => b < w.heap.size ∨ wr.heap.size ≤ b) r) (hf : Fine r) (o : Obj)
    (ho : w3.ownsRow HB 42 4 v3 (j + 1) (ts.flatMap TX.cells ++ r.cells)) (hg : Grows (w1.alloc o) w3 lv v3) : TRel0 w w3 v HB (j + 1) v3 (ts ++ [r]) := by
  have hz1 := hb.size
  have hz := h.rt.bel.size
  have hvg := own_from h.tl.row
  have hvl := own_lt h.tl.row
  have hgs := hg.size
  have hsz : (w1.alloc o).heap.size = w1.heap.size + 1 := by simp
  have hbo : Below wr.heap.size wr (w1.alloc o) := hb.alloc hz1 _
  have hln := h.len
  have h1 := h.hb
  have h2 := h.hr
  refine ⟨⟨?_, ?_⟩, ?_, by simp [hln], ?_, h1, by omega⟩
  · exact (h.rt.bel.trans (hbo.mono hz)).grown hg.grown (by omega) (fun g hg' => by have := hvg g hg'; omega)
  · exact hg.blk (h.rt.box.below hbo h.rt.box.lt) (fun e => by have := hvg _ e; omega)
  · refine (h.tl.below hb).step hr (hi.mono (fun b hb' => ⟨by omega, fun e => by have := hvl b e; have := hvg b e; omega⟩)) hf o ?_ hg
    rw [hln]; exact ho
  · rw [List.map_append, h.pl, take_snoc' hy]
    simp [hp]

set_option maxRecDepth 100000 in
set_option maxHeartbeats 8000000 in
theorem rtrees_any (v : PkV) (w : World) (h : v.ok w w.heap.size) : Calls Tryd.prog 19 #[v.val] w (RTreesPost w v) := by
  obtain ⟨n, hn⟩ : ∃ n, v.ps.length = n := ⟨_, rfl⟩
  obtain ⟨m, hm⟩ : ∃ m, v.rs.length = m := ⟨_, rfl⟩
  obtain ⟨nA, hnA⟩ : ∃ a, v.nA = a := ⟨_, rfl⟩
  obtain ⟨rA, hrA⟩ : ∃ a, v.rA = a := ⟨_, rfl⟩
  have hnl := h.nl
  have hrl := h.rl
  rw [hn] at hnl
  rw [hm] at hrl
  have hval : v.val = .agg #[.slice nA n v.nc, .slice rA m v.rc] := by unfold PkV.val; rw [hn, hm, hnA, hrA]
  have harr : v.arr = #[.slice nA n v.nc, .slice rA m v.rc] := by unfold PkV.arr; rw [hn, hm, hnA, hrA]
  obtain ⟨W, hW⟩ : ∃ W, w.alloc (.cells #[.slice nA n v.nc, .slice rA m v.rc] 29) = W := ⟨_, rfl⟩
  have HR0 : Hid (RT w W v) := by
    subst hW
    exact ⟨(Below.refl _ w).alloc (Nat.le_refl _) _, by rw [harr]; exact Blk.new w _ _⟩
  rw [hval]
  have H := Lib.hid h
  have HN := Lib.hid hn
  have HM := Lib.hid hm
  have HNA := Lib.hid hnA
  have HRA := Lib.hid hrA
  have HARR := Lib.hid harr
  have HVAL := Lib.hid hval
  have HBOX : Hid (∀ wr, RT w wr v → Blk wr w.heap.size 29 #[.slice nA n v.nc, .slice rA m v.rc]) := fun wr hr => by have := hr.box; rw [harr] at this; exact this
  clear h hn hm hnA hrA harr hval
  have c0 := (HBOX.out _ HR0.out).cell 0
  have c1 := (HBOX.out _ HR0.out).cell 1
  simp at c0 c1
  go_enter Tryd.func19, Tryd.ntmps19
  go_wp2_with fail
  have HW := Lib.hid hW
  clear hW
  go_loop [4] (fun i => ∃ j : Nat, j ≤ n ∧ i = .int .i64 (j : Int) ∧ Hid (preF v.ns j)) (fun i => n - (intOf i).toNat)
  case atStart => exact ⟨0, by omega, rfl, (fun i x hi => by omega)⟩
  case round =>
    obtain ⟨j, hj, rfl, HF⟩ := hrel
    by_cases hlt : j < n
    · obtain ⟨p, hp⟩ : ∃ p, v.ps[j]? = some p := ⟨_, List.getElem?_eq_getElem (by rw [HN.out]; exact hlt)⟩
      obtain ⟨ab, ao, hA, hab, e0, e1, e2, e3⟩ := (H.out.low HR0.out.bel).at_ hp
      obtain rfl : nA = some ⟨ab, ao, none⟩ := HNA.out.symm.trans hA
      have HPO := Lib.hid (H.out.each p (List.mem_of_getElem? hp))
      have hkl := HPO.out.kl
      obtain ⟨kn, hkn⟩ : ∃ kn, p.kids.length = kn := ⟨_, rfl⟩
      rw [hkn] at hkl e3
      have HKN := Lib.hid hkn
      have HP := Lib.hid hp
      clear hA hp hkn e0 e1 e2
      go_wp2_with fail
      go_loop [5] (fun i => ∃ k : Nat, k ≤ kn ∧ i = .int .i64 (k : Int) ∧ Hid (∀ y ∈ p.kids.take k, 0 ≤ y ∧ y < (j : Int))) (fun i => kn - (intOf i).toNat)
      case atStart => exact ⟨0, by omega, rfl, (fun y hy => by simp at hy)⟩
      case round =>
        obtain ⟨k, hk, rfl, HY⟩ := hrel
        by_cases hlk : k < kn
        · obtain ⟨y, hy⟩ : ∃ y, p.kids[k]? = some y := ⟨_, List.getElem?_eq_getElem (by rw [HKN.out]; exact hlk)⟩
          have hkr := (HPO.out.kids.below HR0.out.bel)
          rw [HKN.out] at hkr
          obtain ⟨b1, o1, u1, hkA, -, hu1, g1⟩ := hkr.at1 hlk
          obtain rfl : u1 = .int .i64 y := by rw [List.getElem?_map, hy] at hu1; simpa using hu1.symm
          rw [hkA] at e3
          by_cases hyj : 0 ≤ y ∧ y < (j : Int)
          · have d1 : decide (y < 0) = false := decide_eq_false (by omega)
            have d2 : decide ((j : Int) ≤ y) = false := decide_eq_false (by omega)
            have HY3 : Hid (∀ y ∈ p.kids.take (k + 1), 0 ≤ y ∧ y < (j : Int)) := by
              rw [take_snoc' hy]
              intro y' hy'
              rcases List.mem_append.1 hy' with h' | h'
              · exact HY.out y' h'
              · simp at h'; omega
            clear hy hu1 hkA hkr hyj
            go_wp2_with fail
            go_round
            case rel => exact ⟨k + 1, by omega, by go_num, HY3⟩
            case measure => simp [intOf]; omega
          · have HE : Hid (RTreesPost w v (.returned (.tuple #[.slice none 0 0, .int .i64 13])) W) :=
              RTreesPost.no (errP_form (fun hf => hyj (hf.1 j p.plain (v.ns_at HP.out) y (List.mem_of_getElem? hy)))) (by decide) HR0.out.bel
            by_cases hy0 : y < 0
            · have d1 : decide (y < 0) = true := decide_eq_true hy0
              clear hy hu1 hyj hkA hkr
              go_wp2_with fail
              go_ret2
              exact HE.out
            · have d1 : decide (y < 0) = false := decide_eq_false hy0
              have d2 : decide ((j : Int) ≤ y) = true := decide_eq_true (by omega)
              clear hy hu1 hyj hkA hkr
              go_wp2_with fail
              go_ret2
              exact HE.out
        · obtain rfl : k = kn := by omega
          have HF4 : Hid (preF v.ns (j + 1)) := fun i x hi hx y hy => by
            rcases Nat.lt_or_ge i j with h1 | h1
            · exact HF.out i x h1 hx y hy
            · obtain rfl : i = j := by omega
              rw [v.ns_at HP.out] at hx
              injection hx with hx
              subst hx
              have := HY.out
              rw [List.take_of_length_le (by rw [HKN.out]; exact Nat.le_refl _)] at this
              exact this y hy
          go_wp2_with fail
          go_round
          case rel => exact ⟨j + 1, by omega, by go_num, HF4⟩
          case measure => simp [intOf]; omega
    · obtain rfl : j = n := by omega
      have HFN : Hid (formN v.ns) := fun i x hx => HF.out i x (by
        have := (List.getElem?_eq_some_iff.1 hx).1
        rw [v.ns_len, HN.out] at this
        exact this) hx
      go_wp2_with fail
      clear c0 c1
      go_loopw [7] (fun i wr => ∃ k : Nat, k ≤ m ∧ i = .int .i64 (k : Int) ∧ Hid (∀ r ∈ v.rs.take k, 0 ≤ r ∧ r < (j : Int)) ∧ Hid (RT w wr v)) (fun i _ => m - (intOf i).toNat)
      case atStart => exact ⟨0, by omega, rfl, (fun r hr => by simp at hr), HR0⟩
      case round =>
        obtain ⟨k, hk, rfl, HRR, HR⟩ := hrel
        have q0 := (HBOX.out _ HR.out).cell 0
        have q1 := (HBOX.out _ HR.out).cell 1
        simp at q0 q1
        by_cases hlk : k < m
        · obtain ⟨r, hr⟩ : ∃ r, v.rs[k]? = some r := ⟨_, List.getElem?_eq_getElem (by rw [HM.out]; exact hlk)⟩
          have hrr := (H.out.roots.below HR.out.bel)
          rw [HM.out] at hrr
          obtain ⟨b1, o1, u1, hrA', -, hu1, g1⟩ := hrr.at1 hlk
          obtain rfl : u1 = .int .i64 r := by rw [List.getElem?_map, hr] at hu1; simpa using hu1.symm
          obtain rfl : rA = some ⟨b1, o1, none⟩ := HRA.out.symm.trans hrA'
          have j0 : (0 : Int) ≤ (k : Int) := by omega
          have j1 : (k : Int) < (m : Int) := by omega
          by_cases hrj : 0 ≤ r ∧ r < (j : Int)
          · have d1 : decide (r < 0) = false := decide_eq_false (by omega)
            have d2 : decide ((j : Int) ≤ r) = false := decide_eq_false (by omega)
            have HY3 : Hid (∀ y ∈ v.rs.take (k + 1), 0 ≤ y ∧ y < (j : Int)) := by
              rw [take_snoc' hr]
              intro y' hy'
              rcases List.mem_append.1 hy' with h' | h'
              · exact HRR.out y' h'
              · simp at h'; omega
            have HRD := Lib.hid (fun q => HR.out.drew q)
            clear hr hu1 hrr hrj hrA'
            go_wp2_with fail
            go_quiet (fail)
            go_wp2_with fail
            go_roundw
            case rel => exact ⟨k + 1, by omega, by go_num, HY3, HRD.out _⟩
            case measure => simp [intOf]; omega
          · have HE : Hid (∀ q, RTreesPost w v (.returned (.tuple #[.slice none 0 0, .int .i64 13])) (wr.drewN q)) := fun q => by
              refine RTreesPost.no (errP_form (fun hf => ?_)) (by decide) (HR.out.drew q).bel
              have := hf.2 r (List.mem_of_getElem? hr)
              rw [v.ns_len, HN.out] at this
              exact hrj this
            by_cases hy0 : r < 0
            · have d1 : decide (r < 0) = true := decide_eq_true hy0
              clear hr hu1 hrr hrj hrA'
              go_wp2_with fail
              go_quiet (fail)
              go_wp2_with fail
              go_ret2
              exact HE.out _
            · have d1 : decide (r < 0) = false := decide_eq_false hy0
              have d2 : decide ((j : Int) ≤ r) = true := decide_eq_true (by omega)
              clear hr hu1 hrr hrj hrA'
              go_wp2_with fail
              go_quiet (fail)
              go_wp2_with fail
              go_ret2
              exact HE.out _
        · obtain rfl : k = m := by omega
          have HRN : Hid (rootsN v.ns v.rs) := by
            have h2 := HRR.out
            rw [List.take_of_length_le (by rw [HM.out]; exact Nat.le_refl _)] at h2
            exact fun r hr => by rw [v.ns_len, HN.out]; exact h2 r hr
          have HC := Lib.hid (rsizes_any v wr (H.out.up (Nat.le_refl _) HR.out.bel) HFN.out)
          rw [HVAL.out] at HC
          go_wp2_with fail
          refine (HC.out).mono ?_
          rintro e w1 ⟨A, c, rfl, hA, hb⟩
          have HR1 := Lib.hid (HR.out.below hb)
          have HA := Lib.hid hA
          rw [HN.out] at HA ⊢
          clear hA hb q0 q1
          have q0 := (HBOX.out _ HR1.out).cell 0
          have q1 := (HBOX.out _ HR1.out).cell 1
          simp at q0 q1
          have HSR : Hid ((rootSz v.ns v.rs).length = k) := by unfold Hid rootSz; rw [List.length_map, HM.out]
          have HSE := Lib.hid (sizes_roots HFN.out HRN.out)
          go_wp2_with fail
          go_loop [8, 10] (fun s i => ∃ a : Nat, a ≤ k ∧ i = .int .i64 (a : Int) ∧ s = .int .i64 (capSum ((rootSz v.ns v.rs).take a) : Int)) (fun _ i => k - (intOf i).toNat)
          case atStart => exact ⟨0, by omega, rfl, by simp [capSum]⟩
          case round =>
            obtain ⟨a, ha, rfl, rfl⟩ := hrel
            have hc0 := capSum_le ((rootSz v.ns v.rs).take a)
            by_cases hla : a < k
            · obtain ⟨r, hr⟩ : ∃ r, v.rs[a]? = some r := ⟨_, List.getElem?_eq_getElem (by rw [HM.out]; exact hla)⟩
              have hrr := (H.out.roots.below HR1.out.bel)
              rw [HM.out] at hrr
              obtain ⟨b1, o1, u1, hrA', -, hu1, g1⟩ := hrr.at1 hla
              obtain rfl : u1 = .int .i64 r := by rw [List.getElem?_map, hr] at hu1; simpa using hu1.symm
              obtain rfl : rA = some ⟨b1, o1, none⟩ := HRA.out.symm.trans hrA'
              have hrb := HRN.out r (List.mem_of_getElem? hr)
              rw [v.ns_len, HN.out] at hrb
              obtain ⟨rn, rfl⟩ : ∃ rn : Nat, r = (rn : Int) := ⟨r.toNat, by omega⟩
              have hsz := szA_le v.ns rn
              have hrs : (rootSz v.ns v.rs)[a]? = some ((szA v.ns).getD rn 0) := by unfold rootSz; rw [List.getElem?_map, hr]; simp
              have HNX : Hid (capSum ((rootSz v.ns v.rs).take (a + 1)) = min (capSum ((rootSz v.ns v.rs).take a) + (szA v.ns).getD rn 0) 20001) := capSum_take hrs
              obtain ⟨b2, o2, u2, hoA, -, hu2, g2⟩ := HA.out.at1 (k := rn) (by omega)
              have hns : rn < (szA v.ns).length := by rw [szA_len, v.ns_len, HN.out]; omega
              obtain rfl : u2 = natV ((szA v.ns).getD rn 0) := by
                rw [List.getElem?_map] at hu2
                rw [List.getElem?_eq_getElem hns] at hu2
                simp [List.getD, List.getElem?_eq_getElem hns] at hu2 ⊢
                exact hu2.symm
              obtain ⟨sy, hsy⟩ : ∃ s, (szA v.ns).getD rn 0 = s := ⟨_, rfl⟩
              obtain ⟨sk, hsk⟩ : ∃ s, capSum ((rootSz v.ns v.rs).take a) = s := ⟨_, rfl⟩
              rw [hsy] at g2 HNX hsz
              rw [hsk] at HNX hc0 ⊢
              unfold natV at g2
              have j0 : (0 : Int) ≤ (rn : Int) := by omega
              have j1 : (rn : Int) < (j : Int) := by omega
              subst hoA
              clear hr hu1 hu2 hrr hsy hsk hrb hrs hrA' hns
              go_wp2_with fail
              go_round
              case rel => exact ⟨a + 1, by omega, by go_num, by rw [HNX.out]; first | rfl | (congr 1; omega)⟩
              case measure => simp [intOf]; omega
            · have HCS : Hid (capSum ((rootSz v.ns v.rs).take a) = capS (T.sizes (treesP v.ns v.rs))) := by
                unfold Hid
                rw [List.take_of_length_le (by rw [HSR.out]; omega)]
                exact HSE.out
              by_cases hlong : T.sizes (treesP v.ns v.rs) ≤ 20000
              · have he : capS (T.sizes (treesP v.ns v.rs)) = T.sizes (treesP v.ns v.rs) := by unfold capS; omega
                obtain ⟨sz, hsz⟩ : ∃ s, T.sizes (treesP v.ns v.rs) = s := ⟨_, rfl⟩
                have hcs2 : capSum ((rootSz v.ns v.rs).take a) = sz := by rw [HCS.out, he, hsz]
                rw [hcs2]
                have d0 : decide ((20000 : Int) < (sz : Int)) = false := decide_eq_false (by omega)
                have HE0 := Lib.hid (errP_ok ⟨HFN.out, HRN.out⟩ hlong)
                obtain ⟨i0', hi', hz0, hz1, hz2⟩ := info_parts tree_info
                have HI := Lib.hid hi'
                have HZ0 := Lib.hid hz0
                have HZ1 := Lib.hid hz1
                have HZ2 := Lib.hid hz2
                have HT0 : Hid (TRel0 w w1 v w1.heap.size 0 (.slice none 0 0) []) := ⟨HR1.out, TL.nil _ _ _, rfl, by simp, HR1.out.box.lt, Nat.le_refl _⟩
                obtain ⟨HB, hHB⟩ : ∃ HB, w1.heap.size = HB := ⟨_, rfl⟩
                rw [hHB] at HT0
                clear he hsz hcs2 hlong hi' hz0 hz1 hz2 hHB
                go_wp2_with fail
                clear q0 q1
                go_loopw [11, 12] (fun l i wr => ∃ (j : Nat) (lA : Option Addr) (lc : Nat) (ts : List TX), j ≤ k ∧ i = .int .i64 (j : Int) ∧ l = .slice lA j lc ∧ Hid (TRel0 w wr v HB j (.slice lA j lc) ts)) (fun _ i _ => k - (intOf i).toNat)
                case atStart => exact ⟨0, none, 0, [], by omega, rfl, rfl, HT0⟩
                case round =>
                  obtain ⟨i, lA, lc, ts, hi, rfl, rfl, HT⟩ := hrel
                  obtain ⟨wo, rfl⟩ : ∃ wo : World, wo = wr := ⟨_, rfl⟩
                  by_cases hlt2 : i < k
                  · obtain ⟨y, hy⟩ : ∃ y, v.rs[i]? = some y := ⟨_, List.getElem?_eq_getElem (by rw [HM.out]; exact hlt2)⟩
                    have hrr := H.out.roots.below HT.out.rt.bel
                    rw [HM.out] at hrr
                    obtain ⟨b1, o1, u1, hrA', hb1, hu1, g1⟩ := hrr.at1 hlt2
                    obtain rfl : u1 = .int .i64 y := by rw [List.getElem?_map, hy] at hu1; simpa using hu1.symm
                    obtain rfl : rA = some ⟨b1, o1, none⟩ := HRA.out.symm.trans hrA'
                    have hyr := HRN.out y (List.mem_of_getElem? hy)
                    rw [v.ns_len, HN.out] at hyr
                    obtain ⟨yn, rfl⟩ : ∃ yn : Nat, y = (yn : Int) := ⟨y.toNat, by omega⟩
                    have HG1 : Hid (wo.cell? ⟨b1, o1 + i, none⟩ = some (.int .i64 (yn : Int))) := g1
                    have HBX := Lib.hid (HBOX.out _ HT.out.rt)
                    have HU : Hid (∀ w', Below wo.heap.size wo w' → Calls Tryd.prog 45 #[.agg #[.slice nA j v.nc, .slice (some ⟨b1, o1, none⟩) k v.rc], .int .i64 (yn : Int)] w' (NewT0 w.heap.size w' (trA v.ns yn))) := fun w' hb => by
                      have hbw := HT.out.rt.bel.trans (hb.mono HT.out.rt.bel.size)
                      have := build_any v HFN.out w.heap.size yn w' (H.out.low hbw) hbw.size (by rw [HN.out]; omega)
                      rw [HVAL.out] at this
                      exact this
                    have HLN := Lib.hid HT.out.len
                    have HY := Lib.hid hy
                    have hhr := HT.out.hr
                    have hbs : b1 < wo.heap.size := by have := HT.out.rt.bel.size; omega
                    have HC3 : Hid (∀ w', Below wo.heap.size wo w' → w'.cell? ⟨w.heap.size, 0, none⟩ = some (.slice nA j v.nc) ∧ w'.cell? ⟨w.heap.size, 1, none⟩ = some (.slice (some ⟨b1, o1, none⟩) k v.rc) ∧ w'.cell? ⟨b1, o1 + i, none⟩ = some (.int .i64 (yn : Int))) := fun w' hb => by
                      have h1 := HBX.out.below hb HBX.out.lt
                      exact ⟨by rw [h1.cell]; rfl, by rw [h1.cell]; rfl, (hb.cell hbs).trans HG1.out⟩
                    have HG6 : Hid (∀ (w5 w6 : World) (v6 : Value) (o : Obj), Below wo.heap.size wo w5 → Grows (w5.alloc o) w6 (.slice lA i lc) v6 → w6.cell? ⟨w.heap.size, 0, none⟩ = some (.slice nA j v.nc) ∧ w6.cell? ⟨w.heap.size, 1, none⟩ = some (.slice (some ⟨b1, o1, none⟩) k v.rc) ∧ w6.cell? ⟨b1, o1 + i, none⟩ = some (.int .i64 (yn : Int))) := fun w5 w6 v6 o hb hg => by
                      have hvg := own_from HT.out.tl.row
                      have hhb := HT.out.hb
                      have hq : ∀ q : Addr, q.block < HB → w6.cell? q = (w5.alloc o).cell? q := fun q hq => by
                        have hbo : Below wo.heap.size wo (w5.alloc o) := bal hb _
                        exact World.cell?_of_block (hg.grown.block q.block (by have := hbo.size; omega) (fun e => by have := hvg _ e.symm; omega))
                      obtain ⟨h1, h2, h3⟩ := HC3.out _ (bal hb o)
                      exact ⟨(hq _ (by show w.heap.size < _; omega)).trans h1, (hq _ (by show w.heap.size < _; omega)).trans h2, (hq _ (by show b1 < _; omega)).trans h3⟩
                    have HOW : Hid (∀ w', Below wo.heap.size wo w' → w'.ownsRow HB 42 4 (.slice lA i lc) i (ts.flatMap TX.cells)) := fun w' hb => by
                      have := owns_below HT.out.tl.row hb (own_lt HT.out.tl.row)
                      rw [HLN.out] at this
                      exact this
                    have B0' : Hid (Below wo.heap.size wo wo.drew) := below_drewN (Below.refl _ wo) 1
                    have HZ5 : Hid (∀ w5 o, Below wo.heap.size wo w5 → HB ≤ (w5.alloc o).heap.size) := fun w5 o hb => by have := hb.size; simp; omega
                    have HM1 : Hid (i + 1 ≤ maxLen) := by unfold Hid maxLen; omega
                    have HM2 : Hid ((i + 1) * 72 ≤ 140737488355328) := by unfold Hid; omega
                    have q0 := (HC3.out _ (Below.refl _ _)).1
                    have q1 := (HC3.out _ (Below.refl _ _)).2.1
                    have j0 : (0 : Int) ≤ (i : Int) := by omega
                    have j1 : (i : Int) < (k : Int) := by omega
                    clear hy hu1 hrA' hyr hrr hb1
                    go_wp2_with fail
                    go_region_held3 (fun w' => w'.cell? ⟨w.heap.size, 0, none⟩ = some (.slice nA j v.nc) ∧ w'.cell? ⟨w.heap.size, 1, none⟩ = some (.slice (some ⟨b1, o1, none⟩) k v.rc) ∧ w'.cell? ⟨b1, o1 + i, none⟩ = some (.int .i64 (yn : Int)))
                      (first | (with_reducible exact HC3.out _ B0'.out) | (with_reducible exact HC3.out _ B5.out) | (with_reducible exact HC3.out _ (bal B5.out _)) | (with_reducible exact HG7.out))
                      (first
                        | (refine step_append_row _ rfl (.tmp 100) (.tmp 108) 23 23 rfl HB 42 i0' (.agg #[.int .i64 0, .string ⟨#[]⟩, .slice none 0 0, .slice none 0 0]) 4 72 Tryd.underlying23 HI.out HZ0.out HZ1.out HZ2.out rfl (by decide) (.slice lA i lc) i (ts.flatMap TX.cells) rfl (HOW.out _ (bal B5.out _)) (.slice (some ⟨w5.heap.size, 0, none⟩) 1 1) 1 r5.cells rfl (src_new w5 Tryd.underlying23 r5.cells 4 1 1 42 rfl (tree_one r5)) HM1.out HM2.out (HZ5.out _ _ B5.out) ?_; intro v6 w6 ho6 hg6; obtain ⟨A6, c6, rfl, -, -⟩ := reads_of_owns ho6; have HO6 := Lib.hid ho6; have HGR := Lib.hid hg6; have HG7 := Lib.hid (HG6.out _ _ _ _ B5.out hg6); clear ho6 hg6)
                        | (go_at_call 45; refine (HU.out _ B0'.out).mono ?_; rintro e w5 ⟨r5, rfl, hp5, ht5, hi5, hf5, hb5⟩; unfold TX.val; have B5 := Lib.hid (B0'.out.trans (hb5.mono B0'.out.size)); have P5 := Lib.hid hp5; have T5 := Lib.hid ht5; have I5 := Lib.hid hi5; have F5 := Lib.hid hf5; clear hp5 ht5 hi5 hf5 hb5))
                    all_goals
                      have HS6 := Lib.hid (HT.out.step HY.out B5.out P5.out T5.out I5.out F5.out _ HO6.out HGR.out)
                      clear q0 q1 g1
                      go_wp2_with fail
                      go_roundw
                      case rel => exact ⟨i + 1, _, _, _, by omega, by go_num, rfl, HS6⟩
                      case measure => simp [intOf]; omega
                  · obtain rfl : i = k := by omega
                    have HE : Hid (RTreesPost w v (.returned (.tuple #[.slice lA i lc, .int .i64 0])) wo) := by
                      have hln := HT.out.len
                      refine ⟨lA, lc, ts, by rw [HE0.out, hln], ?_, fun _ => ?_, fun h => absurd HE0.out h, HT.out.rt.bel⟩
                      · rw [hln]
                        have := HT.out.tl
                        have h0 := HT.out.hb
                        exact ⟨owns_up this.row (fun g hg => by have := own_from this.row g hg; omega), this.kid⟩
                      · rw [HT.out.pl, List.take_of_length_le (by rw [HM.out]; exact Nat.le_refl _)]; rfl
                    have q0 := (HBOX.out _ HT.out.rt).cell 0
                    have q1 := (HBOX.out _ HT.out.rt).cell 1
                    simp at q0 q1
                    go_wp2_with fail
                    go_ret2
                    exact HE.out
              · have he : capS (T.sizes (treesP v.ns v.rs)) = 20001 := by unfold capS; omega
                have hcs2 : capSum ((rootSz v.ns v.rs).take a) = 20001 := by rw [HCS.out, he]
                rw [hcs2]
                have HE : Hid (RTreesPost w v (.returned (.tuple #[.slice none 0 0, .int .i64 3])) w1) :=
                  RTreesPost.no (errP_long ⟨HFN.out, HRN.out⟩ hlong) (by decide) HR1.out.bel
                clear he hcs2 hlong
                go_wp2_with fail
                go_ret2
                exact HE.out
end Go.Proofs.YtdabmjcpiblofaaDoor

namespace Go.Proofs.YtdabmjcpiblofaaDoor
open Go.RowKit
set_option linter.unusedVariables false

set_option maxRecDepth 100000 in
set_option maxHeartbeats 3200000 in
theorem rvalid_any (v : PkV) (w : World) (h : v.ok w w.heap.size) : Calls Tryd.prog 22 #[v.val] w (RetB w (validP v.ns v.rs)) := by
  obtain ⟨n, hn⟩ : ∃ n, v.ps.length = n := ⟨_, rfl⟩
  obtain ⟨m, hm⟩ : ∃ m, v.rs.length = m := ⟨_, rfl⟩
  have hval : v.val = .agg #[.slice v.nA n v.nc, .slice v.rA m v.rc] := by unfold PkV.val; rw [hn, hm]
  have HV := Lib.hid hval
  have H := Lib.hid h
  rw [hval]
  obtain ⟨W, hW⟩ : ∃ W, w.alloc (.cells #[.slice v.nA n v.nc, .slice v.rA m v.rc] 29) = W := ⟨_, rfl⟩
  have HBX : Hid (Blk W w.heap.size 29 #[.slice v.nA n v.nc, .slice v.rA m v.rc]) := by subst hW; exact Blk.new w _ _
  have HBW : Hid (Below w.heap.size w W) := by subst hW; exact bal (Below.refl _ w) _
  have c0 := HBX.out.cell 0
  have c1 := HBX.out.cell 1
  simp at c0 c1
  have HC := Lib.hid (rtrees_any v W (h.up (Nat.le_refl _) HBW.out))
  rw [hval] at HC
  clear h hn hm hval
  go_enter Tryd.func22, Tryd.ntmps22
  go_wp2_with fail
  refine (HC.out).mono ?_
  rintro e w1 ⟨A, c, ts, rfl, htl, hpl, hno, hb⟩
  have HW := Lib.hid hW
  have HB1 : Hid (Below w.heap.size w w1) := HBW.out.trans (hb.mono HBW.out.size)
  have HBX1 : Hid (Blk w1 w.heap.size 29 #[.slice v.nA n v.nc, .slice v.rA m v.rc]) := HBX.out.below hb HBX.out.lt
  by_cases h0 : errP v.ns v.rs = 0
  · have HPL := Lib.hid (hpl h0)
    have HLT := Lib.hid htl.lt
    have HIFF := Lib.hid (valid_iff h0)
    have HSZ : Hid (T.sizes (ts.map TX.plain) ≤ 1000000) := by
      unfold Hid
      rw [hpl h0]
      have := (errP_zero h0).2.2
      omega
    rw [h0]
    have HCM : Hid (∀ w', Below w1.heap.size w1 w' → Calls Tryd.prog 14 #[.slice A ts.length c] w' (MakePost w' (T.puts (treesP v.ns v.rs) []).1 (T.puts (treesP v.ns v.rs) []).2)) := fun w' hb' => by
      have := refMake_any A c ts w' (HLT.out.up hb') HSZ.out
      rw [HPL.out] at this
      exact this
    have HCS : Hid (∀ (w' : World) (u : PkV), Below w1.heap.size w1 w' → u.ok w' w'.heap.size → Calls Tryd.prog 12 #[.agg #[.slice u.nA u.ps.length u.nc, .slice u.rA u.rs.length u.rc], .agg #[.slice v.nA n v.nc, .slice v.rA m v.rc]] w' (RetB w' (eqPk u v))) := fun w' u hb' hu => by
      have := refSame_any u v w' hu (H.out.up (Nat.le_refl _) (HB1.out.trans (hb'.mono HB1.out.size)))
      rw [HV.out] at this
      exact this
    have HCB : Hid (∀ w', Below w1.heap.size w1 w' → w'.cell? ⟨w.heap.size, 0, none⟩ = some (.slice v.nA n v.nc) ∧ w'.cell? ⟨w.heap.size, 1, none⟩ = some (.slice v.rA m v.rc)) := fun w' hb' => by
      have h1 := HBX1.out.below hb' HBX1.out.lt
      exact ⟨by rw [h1.cell]; rfl, by rw [h1.cell]; rfl⟩
    have B0 : Hid (Below w1.heap.size w1 w1.drew) := below_drewN (Below.refl _ w1) 1
    clear htl hpl hno hb hW c0 c1 h0
    go_wp2_with fail
    go_region_held3 (fun w' => w'.cell? ⟨w.heap.size, 0, none⟩ = some (.slice v.nA n v.nc) ∧ w'.cell? ⟨w.heap.size, 1, none⟩ = some (.slice v.rA m v.rc))
      (first | (with_reducible exact HCB.out _ B0.out) | (with_reducible exact HCB.out _ B5.out) | (with_reducible exact HCB.out _ B6.out))
      (first
        | (go_at_call 12; refine (HCS.out _ u5 B5.out U5.out).mono ?_; rintro e w6 ⟨bv, hv, rfl, hb6⟩; have B6 := Lib.hid (B5.out.trans (hb6.mono B5.out.size)); have HV6 := Lib.hid hv; clear hv hb6)
        | (go_at_call 14; refine (HCM.out _ B0.out).mono ?_; rintro e w5 ⟨u5, rfl, hn5, hr5, hu5, hb5⟩; unfold PkV.val; have B5 := Lib.hid (B0.out.trans (hb5.mono B0.out.size)); have U5 := Lib.hid hu5; have N5 := Lib.hid hn5; have R5 := Lib.hid hr5; clear hn5 hr5 hu5 hb5))
    all_goals
      go_wp2_with fail
      go_ret
      refine ⟨bv, ?_, rfl, HB1.out.trans (B6.out.mono HB1.out.size)⟩
      rw [HV6.out, HIFF.out]
      unfold eqPk
      rw [N5.out, R5.out]
      exact ⟨fun h => Prod.ext h.1 h.2, fun h => ⟨congrArg Prod.fst h, congrArg Prod.snd h⟩⟩
  · have HNV := Lib.hid (valid_err h0)
    obtain ⟨er, her⟩ : ∃ er, errP v.ns v.rs = er := ⟨_, rfl⟩
    rw [her] at h0 ⊢
    have d1 : (er == 0) = false := by simpa using h0
    clear htl hpl hno hb hW c0 c1 h0 her
    go_wp2_with fail
    go_quiet (fail)
    go_wp2_with fail
    go_ret
    exact ⟨false, ⟨(fun h => by cases h), fun h => absurd h HNV.out⟩, rfl, below_drewN HB1.out _⟩
end Go.Proofs.YtdabmjcpiblofaaDoor
