/-
  sizes: how large a pack's trees are. No condition.
-/
import Derived.Test.YtdabmjcpiblofaaDoorPkH
import Derived.WalkSpells
import Derived.WalkLawsBesides
import Derived.Deep.RegionHeld3
import Derived.Deep.DeepCutAuto
namespace Go.Proofs.YtdabmjcpiblofaaDoor
open Go.RowKit
set_option linter.unusedVariables false

def szF (ns : List PN) (j : Nat) (i : Nat) : Int := if i < j then ((szA ns).getD i 0 : Int) else 0
def szK (ns : List PN) (ks : List Int) (k : Nat) : Nat := (ks.take k).foldl (fun n y => min (n + (szA ns).getD y.toNat 0) 20001) 1
theorem szA_le (ns : List PN) (i : Nat) : (szA ns).getD i 0 ≤ 20001 := by
  have key : ∀ x ∈ szA ns, x ≤ 20001 := by
    refine snoc_ind (P := fun ns => ∀ x ∈ szA ns, x ≤ 20001) (fun x hx => by simp [szA] at hx) (fun l y h x hx => ?_) ns
    rw [szA_snoc] at hx
    rcases List.mem_append.1 hx with hx | hx
    · exact h x hx
    · simp at hx
      subst hx
      unfold szN
      refine snoc_ind (P := fun ks : List Int => ks.foldl (fun n k => min (n + (szA l).getD k.toNat 0) 20001) 1 ≤ 20001) (by simp) (fun ks k _ => ?_) y.2.2.2
      rw [List.foldl_append]
      simp only [List.foldl_cons, List.foldl_nil]
      omega
  rcases h : (szA ns)[i]? with _ | x
  · simp [List.getD, h]
  · have := key x (List.mem_of_getElem? h)
    simpa [List.getD, h] using this
theorem szK_le (ns : List PN) (ks : List Int) (k : Nat) : szK ns ks k ≤ 20001 := by
  unfold szK
  refine snoc_ind (P := fun ks : List Int => ks.foldl (fun n k => min (n + (szA ns).getD k.toNat 0) 20001) 1 ≤ 20001) (by simp) (fun ks k _ => ?_) (ks.take k)
  rw [List.foldl_append]
  simp only [List.foldl_cons, List.foldl_nil]
  omega
theorem szK_succ {ns : List PN} {ks : List Int} {k : Nat} {y : Int} (h : ks[k]? = some y) : szK ns ks (k + 1) = min (szK ns ks k + (szA ns).getD y.toNat 0) 20001 := by
  unfold szK
  rw [take_snoc' h, List.foldl_append]
  rfl
theorem szA_get {ns : List PN} {j : Nat} {x : PN} (hx : ns[j]? = some x) (hk : ∀ k ∈ x.2.2.2, 0 ≤ k ∧ k < (j : Int)) : (szA ns).getD j 0 = szK ns x.2.2.2 x.2.2.2.length := by
  have hi := (List.getElem?_eq_some_iff.1 hx).1
  have hl : (ns.take j).length = j := by rw [List.length_take]; omega
  have h1 : (szA ns).getD j 0 = (szA (ns.take (j + 1))).getD j 0 := getD_pre (szA_pre (List.take_prefix _ _)) (by rw [szA_len, List.length_take]; omega) 0
  rw [h1, take_snoc' hx, szA_snoc]
  have h2 : (szA (ns.take j) ++ [szN (szA (ns.take j)) x]).getD j 0 = szN (szA (ns.take j)) x := by
    have : (szA (ns.take j)).length = j := by rw [szA_len, hl]
    simp [List.getD, this]
  rw [h2]
  unfold szN szK
  rw [List.take_length]
  have key : ∀ (ks : List Int) (n : Nat), (∀ k ∈ ks, 0 ≤ k ∧ k < (j : Int)) → ks.foldl (fun n k => min (n + (szA (ns.take j)).getD k.toNat 0) 20001) n = ks.foldl (fun n k => min (n + (szA ns).getD k.toNat 0) 20001) n := by
    intro ks
    induction ks with
    | nil => intro n _; rfl
    | cons y ys ih =>
      intro n hy
      have hyj := hy y List.mem_cons_self
      have e : (szA (ns.take j)).getD y.toNat 0 = (szA ns).getD y.toNat 0 := (getD_pre (szA_pre (List.take_prefix j ns)) (by rw [szA_len, hl]; omega) 0).symm
      rw [List.foldl_cons, List.foldl_cons, e]
      exact ih _ (fun k hk => hy k (List.mem_cons_of_mem _ hk))
  exact key _ _ hk
theorem szF_next {ns : List PN} {j : Nat} {v : Int} (hv : v = ((szA ns).getD j 0 : Int)) : ∀ i, upd (szF ns j) j v i = szF ns (j + 1) i := fun i => by
  unfold upd szF
  by_cases h : i = j
  · subst h; simp [hv]
  · rw [if_neg h]
    by_cases h1 : i < j
    · rw [if_pos h1, if_pos (by omega)]
    · rw [if_neg h1, if_neg (by omega)]

/-- good so far: the nodes before j have kids before them -/
def preF (ns : List PN) (j : Nat) : Prop := ∀ (i : Nat) (x : PN), i < j → ns[i]? = some x → ∀ k ∈ x.2.2.2, 0 ≤ k ∧ k < (i : Int)
structure SzR (w wr : World) (v : PkV) (g : Nat) (f : Nat → Int) : Prop where
  bel : Below w.heap.size w wr
  box : Blk wr w.heap.size 29 v.arr
  vec : IVec wr g v.ps.length f
  ge : w.heap.size < g
theorem SzR.below {w wr w' : World} {v : PkV} {g : Nat} {f : Nat → Int} (h : SzR w wr v g f) (hb : Below wr.heap.size wr w') : SzR w w' v g f :=
  ⟨h.bel.trans (hb.mono h.bel.size), h.box.below hb h.box.lt, h.vec.below hb (Vec.lt h.vec), h.ge⟩
theorem SzR.set_ {w wr : World} {v : PkV} {g : Nat} {f : Nat → Int} (h : SzR w wr v g f) (i : Nat) (x : Int) : SzR w (wr.setCell ⟨g, i, none⟩ (.int .i64 x)) v g (upd f i x) :=
  ⟨h.bel.setCell (p := ⟨g, i, none⟩) (by have := h.ge; show w.heap.size ≤ g; omega) _, h.box.far (p := ⟨g, i, none⟩) (by have := h.ge; show w.heap.size ≠ g; omega) _, IVec.set_ h.vec i x, h.ge⟩
theorem SzR.congr {w wr : World} {v : PkV} {g : Nat} {f f' : Nat → Int} (h : SzR w wr v g f) (e : ∀ i, f i = f' i) : SzR w wr v g f' := ⟨h.bel, h.box, IVec.congr h.vec (fun i _ => (e i).symm), h.ge⟩

def rootSz (ns : List PN) (rs : List Int) : List Nat := rs.map fun r => (szA ns).getD r.toNat 0
def SizesPost (w : World) (v : PkV) (e : Ending) (w' : World) : Prop :=
  (formN v.ns ∧ rootsN v.ns v.rs ∧ ∃ A c, e = .returned (.tuple #[.slice A v.rs.length c, .int .i64 0]) ∧ Reads w' w'.heap.size 1 A v.rs.length ((rootSz v.ns v.rs).map natV) ∧ Below w.heap.size w w') ∨
  (¬ (formN v.ns ∧ rootsN v.ns v.rs) ∧ e = .returned (.tuple #[.slice none 0 0, .int .i64 13]) ∧ Below w.heap.size w w')

set_option maxRecDepth 100000 in
set_option maxHeartbeats 3200000 in
theorem sizes_any (v : PkV) (w : World) (h : v.ok w w.heap.size) : Calls Tryd.prog 41 #[v.val] w (SizesPost w v) := by
  unfold PkV.val
  obtain ⟨n, hn⟩ : ∃ n, v.ps.length = n := ⟨_, rfl⟩
  obtain ⟨m, hm⟩ : ∃ m, v.rs.length = m := ⟨_, rfl⟩
  obtain ⟨nA, hnA⟩ : ∃ a, v.nA = a := ⟨_, rfl⟩
  obtain ⟨rA, hrA⟩ : ∃ a, v.rA = a := ⟨_, rfl⟩
  have hnl := h.nl
  have hrl := h.rl
  rw [hn] at hnl
  rw [hm] at hrl
  have H := Lib.hid h
  have HN := Lib.hid hn
  have HM := Lib.hid hm
  have HNA := Lib.hid hnA
  have HRA := Lib.hid hrA
  rw [hn, hm, hnA, hrA]
  have mk1 := make_ints n hnl
  obtain ⟨W, hW⟩ : ∃ W, w.alloc (.cells #[.slice nA n v.nc, .slice rA m v.rc] 29) = W := ⟨_, rfl⟩
  have HBX : Hid (Blk W w.heap.size 29 #[.slice nA n v.nc, .slice rA m v.rc]) := by subst hW; exact Blk.new w _ _
  have HBW : Hid (Below w.heap.size w W) := by subst hW; exact (Below.refl _ w).alloc (Nat.le_refl _) _
  have harr : v.arr = #[.slice nA n v.nc, .slice rA m v.rc] := by unfold PkV.arr; rw [hn, hm, hnA, hrA]
  have HARR := Lib.hid harr
  have hsW : W.heap.size = w.heap.size + 1 := by subst hW; simp
  have HSW := Lib.hid hsW
  have c0 := HBX.out.cell 0
  have c1 := HBX.out.cell 1
  simp at c0 c1
  obtain ⟨W1, hW1⟩ : ∃ W1, W.alloc (.cells (Array.replicate n (Value.int .i64 0)) 3) = W1 := ⟨_, rfl⟩
  have HR1 : Hid (SzR w W1 v W.heap.size (szF v.ns 0)) := by
    subst hW1
    refine ⟨bal HBW.out _, by rw [harr]; exact HBX.out.alloc _, ?_, by omega⟩
    rw [hn]
    exact IVec.congr (f := fun _ => 0) (Vec.new W _ n (.int .i64 0)) (fun i _ => by simp [szF])
  obtain ⟨g, hg⟩ : ∃ g, W.heap.size = g := ⟨_, rfl⟩
  have c0' := (show Blk W1 w.heap.size 29 #[.slice nA n v.nc, .slice rA m v.rc] by rw [← harr]; exact HR1.out.box).cell 0
  simp at c0'
  clear h hn hm hnA hrA harr hsW
  go_enter Tryd.func41, Tryd.ntmps41
  go_wp2_with fail
  have HW := Lib.hid hW
  have HW1 := Lib.hid hW1
  have HG := Lib.hid hg
  have HR1' : Hid (SzR w W1 v g (szF v.ns 0)) := by rw [← hg]; exact HR1.out
  clear hW hW1 HR1 mk1
  obtain ⟨i0, hi, hz0, hz1, hz2⟩ := info_parts int_info
  have HI := Lib.hid hi
  have HZ0 := Lib.hid hz0
  have HZ1 := Lib.hid hz1
  have HZ2 := Lib.hid hz2
  have hgw : w.heap.size < g := HR1'.out.ge
  clear hi hz0 hz1 hz2 hg c0 c1 c0'
  go_loopw [19] (fun i wr => ∃ j : Nat, j ≤ n ∧ i = .int .i64 (j : Int) ∧ Hid (preF v.ns j) ∧ Hid (SzR w wr v g (szF v.ns j))) (fun i _ => n - (intOf i).toNat)
  case atStart => exact ⟨0, by omega, rfl, (fun i x hi => by omega), HR1'⟩
  case round =>
    obtain ⟨j, hj, rfl, HF, HS⟩ := hrel
    obtain ⟨wo, rfl⟩ : ∃ wo : World, wo = wr := ⟨_, rfl⟩
    have HBox : Hid (Blk wo w.heap.size 29 #[.slice nA n v.nc, .slice rA m v.rc]) := by have := HS.out.box; rw [HARR.out] at this; exact this
    have hzo := HS.out.bel.size
    have q0 := HBox.out.cell 0
    have q1 := HBox.out.cell 1
    simp at q0 q1
    by_cases hlt : j < n
    · obtain ⟨p, hp⟩ : ∃ p, v.ps[j]? = some p := ⟨_, List.getElem?_eq_getElem (by rw [HN.out]; exact hlt)⟩
      obtain ⟨ab, ao, hA, hab, e0, e1, e2, e3⟩ := (H.out.low HS.out.bel).at_ hp
      obtain rfl : nA = some ⟨ab, ao, none⟩ := HNA.out.symm.trans hA
      have HPO := Lib.hid (H.out.each p (List.mem_of_getElem? hp))
      have hkl := HPO.out.kl
      obtain ⟨kn, hkn⟩ : ∃ kn, p.kids.length = kn := ⟨_, rfl⟩
      rw [hkn] at hkl e3
      have HKN := Lib.hid hkn
      have HP := Lib.hid hp
      obtain ⟨wk, hwk⟩ : ∃ wk, wo.alloc (.cells #[.int .i64 p.kind, .string p.text, .slice p.lA p.leads.length p.lc, .slice p.kA kn p.kc] 48) = wk := ⟨_, rfl⟩
      have HBK : Hid (Blk wk wo.heap.size 48 #[.int .i64 p.kind, .string p.text, .slice p.lA p.leads.length p.lc, .slice p.kA kn p.kc]) := by subst hwk; exact Blk.new wo _ _
      have HSK : Hid (SzR w wk v g (szF v.ns j)) := by subst hwk; exact HS.out.below (bal (Below.refl _ _) _)
      have f0 := HBK.out.cell 0
      have f1 := HBK.out.cell 1
      have f2 := HBK.out.cell 2
      have f3 := HBK.out.cell 3
      simp at f0 f1 f2 f3
      have v0 := IVec.at_ HSK.out.vec (i := j) (by rw [HN.out]; exact hlt)
      have v1 := Vec.frozen HSK.out.vec j
      have i0' : (0 : Int) ≤ (j : Int) := by omega
      have i1' : (j : Int) < (n : Int) := by omega
      have hgo : g < wo.heap.size := Vec.lt HS.out.vec
      have HS0 : Hid (SzR w (wk.setCell ⟨g, j, none⟩ (.int .i64 1)) v g (upd (szF v.ns j) j (szK v.ns p.kids 0 : Nat))) := HSK.out.set_ j 1
      have HB0 : Hid (Blk (wk.setCell ⟨g, j, none⟩ (.int .i64 1)) wo.heap.size 48 #[.int .i64 p.kind, .string p.text, .slice p.lA p.leads.length p.lc, .slice p.kA kn p.kc]) := HBK.out.far (p := ⟨g, j, none⟩) (by show wo.heap.size ≠ g; omega) _
      have f3' := HB0.out.cell 3
      simp at f3'
      clear hA hp hkn q1
      go_wp2_with fail
      have HWK := Lib.hid hwk
      clear hwk f0 f1 f2 f3 v0 v1 e0 e1 e2 e3 f3'
      go_loopw [30] (fun i wr => ∃ k : Nat, k ≤ kn ∧ i = .int .i64 (k : Int) ∧ Hid (∀ y ∈ p.kids.take k, 0 ≤ y ∧ y < (j : Int)) ∧ Hid (SzR w wr v g (upd (szF v.ns j) j (szK v.ns p.kids k : Nat))) ∧ Hid (Blk wr wo.heap.size 48 #[.int .i64 p.kind, .string p.text, .slice p.lA p.leads.length p.lc, .slice p.kA kn p.kc])) (fun i _ => kn - (intOf i).toNat)
      case atStart => exact ⟨0, by omega, rfl, (fun y hy => by simp at hy), HS0, HB0⟩
      case round =>
        obtain ⟨k, hk, rfl, HY, HS2, HB2⟩ := hrel
        by_cases hlk : k < kn
        · obtain ⟨y, hy⟩ : ∃ y, p.kids[k]? = some y := ⟨_, List.getElem?_eq_getElem (by rw [HKN.out]; exact hlk)⟩
          have hkr := (HPO.out.kids.below HS2.out.bel)
          rw [HKN.out] at hkr
          obtain ⟨b1, o1, u1, hkA, -, hu1, g1⟩ := hkr.at1 hlk
          obtain rfl : u1 = .int .i64 y := by rw [List.getElem?_map, hy] at hu1; simpa using hu1.symm
          have HKA := Lib.hid hkA
          obtain ⟨kA, hkA'⟩ : ∃ a, p.kA = a := ⟨_, rfl⟩
          rw [hkA'] at hkA HB2 HKA ⊢
          subst hkA
          by_cases hyj : 0 ≤ y ∧ y < (j : Int)
          · obtain ⟨yn, rfl⟩ : ∃ yn : Nat, y = (yn : Int) := ⟨y.toNat, by omega⟩
            have d1 : decide ((yn : Int) < 0) = false := decide_eq_false (by omega)
            have d2 : decide ((j : Int) ≤ (yn : Int)) = false := decide_eq_false (by omega)
            have d3 : decide (j ≤ yn) = false := decide_eq_false (by omega)
            have hyn : yn < j := by omega
            have j0 : (0 : Int) ≤ (yn : Int) := by omega
            have j1 : (yn : Int) < (n : Int) := by omega
            have hKy := szA_le v.ns yn
            have hKk := szK_le v.ns p.kids k
            have hgl : g < wr.heap.size := Vec.lt HS2.out.vec
            obtain ⟨sy, hsy⟩ : ∃ s, (szA v.ns).getD yn 0 = s := ⟨_, rfl⟩
            obtain ⟨sk, hsk⟩ : ∃ s, szK v.ns p.kids k = s := ⟨_, rfl⟩
            have hVy : wr.cell? ⟨g, yn, none⟩ = some (.int .i64 (sy : Int)) := by
              have := IVec.at_ HS2.out.vec (i := yn) (by rw [HN.out]; omega)
              rw [upd_ne _ _ (by omega : yn ≠ j)] at this
              unfold szF at this
              rw [if_pos hyn, hsy] at this
              exact this
            have hVj : wr.cell? ⟨g, j, none⟩ = some (.int .i64 (sk : Int)) := by
              have := IVec.at_ HS2.out.vec (i := j) (by rw [HN.out]; omega)
              rw [upd_same, hsk] at this
              exact this
            have HKY : Hid (∀ w', Below wr.heap.size wr w' → w'.cell? ⟨g, yn, none⟩ = some (.int .i64 (sy : Int)) ∧ w'.cell? ⟨g, j, none⟩ = some (.int .i64 (sk : Int)) ∧ w'.frozen? ⟨g, j, none⟩ = false) := fun w' hb =>
              ⟨(hb.cell (p := ⟨g, yn, none⟩) hgl).trans hVy, (hb.cell (p := ⟨g, j, none⟩) hgl).trans hVj, (hb.frozen (p := ⟨g, j, none⟩) hgl).trans (Vec.frozen HS2.out.vec j)⟩
            have HNX : Hid (szK v.ns p.kids (k + 1) = min (sk + sy) 20001) := by unfold Hid; rw [szK_succ hy, hsk, Int.toNat_natCast, hsy]
            have B0 : Hid (Below wr.heap.size wr wr.drew) := below_drewN (Below.refl _ wr) 1
            have B0A : Hid (∀ o, Below wr.heap.size wr (wr.alloc o).drew) := fun o => below_drewN (bal (Below.refl _ wr) o) 1
            obtain ⟨wA, hwA⟩ : ∃ wA, (wr.alloc (.cells #[.int .i64 (sk : Int), .int .i64 (sy : Int)] 3)).drew = wA := ⟨_, rfl⟩
            have HBA : Hid (Below wr.heap.size wr wA) := by subst hwA; exact B0A.out _
            have HSUM : Hid (Calls Tryd.prog 42 #[.slice (some ⟨wr.heap.size, 0, none⟩) 2 2] wA fun e w' => e = .returned (.int .i64 ((min (sk + sy) 20001 : Nat) : Int)) ∧ wA = w') := by
              have h1 : Blk wA wr.heap.size 3 #[.int .i64 (sk : Int), .int .i64 (sy : Int)] := by subst hwA; exact (Blk.new wr _ _).drew
              have h2 := sum_any (some ⟨wr.heap.size, 0, none⟩) 2 wA.heap.size [sk, sy] wA (blk_reads (xs := [.int .i64 (sk : Int), .int .i64 (sy : Int)]) h1 rfl) (fun x hx => by simp at hx; omega) (by simp)
              have e : capSum [sk, sy] = min (sk + sy) 20001 := by simp [capSum]; omega
              rw [e] at h2
              exact h2
            have HS3 : Hid (SzR w (wA.setCell ⟨g, j, none⟩ (.int .i64 ((min (sk + sy) 20001 : Nat) : Int))) v g (upd (szF v.ns j) j (szK v.ns p.kids (k + 1) : Nat))) := by
              rw [HNX.out]
              refine ((HS2.out.below HBA.out).set_ j ((min (sk + sy) 20001 : Nat) : Int)).congr (fun i => ?_)
              unfold upd
              by_cases e : i = j <;> simp [e]
            have HB3 : Hid (Blk (wA.setCell ⟨g, j, none⟩ (.int .i64 ((min (sk + sy) 20001 : Nat) : Int))) wo.heap.size 48 #[.int .i64 p.kind, .string p.text, .slice p.lA p.leads.length p.lc, .slice (some ⟨b1, o1, none⟩) kn p.kc]) := (HB2.out.below HBA.out HB2.out.lt).far (p := ⟨g, j, none⟩) (by show wo.heap.size ≠ g; omega) _
            have HY3 : Hid (∀ y ∈ p.kids.take (k + 1), 0 ≤ y ∧ y < (j : Int)) := by
              rw [take_snoc' hy]
              intro y' hy'
              rcases List.mem_append.1 hy' with h' | h'
              · exact HY.out y' h'
              · simp at h'; omega
            have HKS : Hid ((wA.setCell ⟨g, j, none⟩ (.int .i64 ((min (sk + sy) 20001 : Nat) : Int))).cell? ⟨g, yn, none⟩ = some (.int .i64 (sy : Int))) := (World.cell?_setCell_other wA _ _ _ (fun e => by injection e with e1 e2; omega)).trans (HKY.out _ HBA.out).1
            have cj0 := (HKY.out _ B0.out).2.1
            have cjA := (HKY.out _ HBA.out).2.1
            have cjf := (HKY.out _ HBA.out).2.2
            have cyA := Lib.hid (HKY.out _ HBA.out).1
            have HWA := Lib.hid hwA
            clear hy hu1 hVy hVj hsy hsk hKy hKk
            go_wp2_with fail
            rw [late_load _ 45]
            go_region_held3 (fun w' => w'.cell? ⟨g, yn, none⟩ = some (.int .i64 (sy : Int))) (first | (with_reducible exact (HKY.out _ B0.out).1) | (with_reducible exact cyA.out) | (with_reducible exact HKS.out) | (with_reducible exact (HKY.out _ (B0A.out _)).1)) ((go_at_call 42; refine (HSUM.out).mono ?_; rintro e w5 ⟨rfl, rfl⟩))
            all_goals
              clear cj0 cjA cjf
              go_wp2_with fail
              go_roundw
              case rel => exact ⟨k + 1, by omega, by go_num, HY3, HS3, HB3⟩
              case measure => simp [intOf]; omega
          · have HE : Hid (SizesPost w v (.returned (.tuple #[.slice none 0 0, .int .i64 13])) wr) := by
              refine .inr ⟨fun hf => ?_, rfl, HS2.out.bel⟩
              exact hyj (hf.1 j p.plain (v.ns_at HP.out) y (List.mem_of_getElem? hy))
            by_cases hy0 : y < 0
            · have d1 : decide (y < 0) = true := decide_eq_true hy0
              clear hy hu1 hyj
              go_wp2_with fail
              go_ret2
              exact HE.out
            · have d1 : decide (y < 0) = false := decide_eq_false hy0
              have d2 : decide ((j : Int) ≤ y) = true := decide_eq_true (by omega)
              clear hy hu1 hyj
              go_wp2_with fail
              go_ret2
              exact HE.out
        · obtain rfl : k = kn := by omega
          have HKI : Hid (∀ y ∈ p.kids, 0 ≤ y ∧ y < (j : Int)) := by
            have := HY.out
            rw [List.take_of_length_le (by rw [HKN.out]; exact Nat.le_refl _)] at this
            exact this
          have HS4 : Hid (SzR w wr v g (szF v.ns (j + 1))) := by
            refine HS2.out.congr (fun i => szF_next ?_ i)
            have := szA_get (v.ns_at HP.out) HKI.out
            rw [this]
            show _ = (szK v.ns p.kids p.kids.length : Int)
            rw [HKN.out]
          have HF4 : Hid (preF v.ns (j + 1)) := fun i x hi hx y hy => by
            rcases Nat.lt_or_ge i j with h1 | h1
            · exact HF.out i x h1 hx y hy
            · obtain rfl : i = j := by omega
              rw [v.ns_at HP.out] at hx
              injection hx with hx
              subst hx
              exact HKI.out y hy
          go_wp2_with fail
          go_roundw
          case rel => exact ⟨j + 1, by omega, by go_num, HF4, HS4⟩
          case measure => simp [intOf]; omega
    · obtain rfl : j = n := by omega
      have HFN : Hid (formN v.ns) := fun i x hx => HF.out i x (by
        have := (List.getElem?_eq_some_iff.1 hx).1
        rw [v.ns_len, HN.out] at this
        exact this) hx
      go_wp2_with fail
      go_loopw [9, 59] (fun o i wr => ∃ (k : Nat) (A : Option Addr) (c : Nat), k ≤ m ∧ i = .int .i64 (k : Int) ∧ o = .slice A k c ∧ Hid (wr.ownsRow (g + 1) 3 1 (.slice A k c) k ((rootSz v.ns (v.rs.take k)).map natV)) ∧ Hid (∀ r ∈ v.rs.take k, 0 ≤ r ∧ r < (j : Int)) ∧ Hid (SzR w wr v g (szF v.ns j))) (fun _ i _ => m - (intOf i).toNat)
      case atStart => exact ⟨0, none, 0, by omega, rfl, rfl, by simp [rootSz]; exact owns_nil _ _ _, (fun r hr => by simp at hr), HS⟩
      case round =>
        obtain ⟨k, A, c, hk, rfl, rfl, HO, HRR, HS5⟩ := hrel
        have hz5 := HS5.out.bel.size
        have hg5 : g < wr.heap.size := Vec.lt HS5.out.vec
        have HBox5 : Hid (Blk wr w.heap.size 29 #[.slice nA j v.nc, .slice rA m v.rc]) := by have := HS5.out.box; rw [HARR.out] at this; exact this
        have q0 := HBox5.out.cell 0
        have q1 := HBox5.out.cell 1
        simp at q0 q1
        by_cases hlk : k < m
        · obtain ⟨r, hr⟩ : ∃ r, v.rs[k]? = some r := ⟨_, List.getElem?_eq_getElem (by rw [HM.out]; exact hlk)⟩
          have hrr := (H.out.roots.below HS5.out.bel)
          rw [HM.out] at hrr
          obtain ⟨b1, o1, u1, hrA', -, hu1, g1⟩ := hrr.at1 hlk
          obtain rfl : u1 = .int .i64 r := by rw [List.getElem?_map, hr] at hu1; simpa using hu1.symm
          obtain rfl : rA = some ⟨b1, o1, none⟩ := HRA.out.symm.trans hrA'
          by_cases hrj : 0 ≤ r ∧ r < (j : Int)
          · obtain ⟨rn, rfl⟩ : ∃ rn : Nat, r = (rn : Int) := ⟨r.toNat, by omega⟩
            have d1 : decide ((rn : Int) < 0) = false := decide_eq_false (by omega)
            have d2 : decide ((j : Int) ≤ (rn : Int)) = false := decide_eq_false (by omega)
            have d3 : decide (j ≤ rn) = false := decide_eq_false (by omega)
            have j0 : (0 : Int) ≤ (rn : Int) := by omega
            have j1 : (rn : Int) < (j : Int) := by omega
            obtain ⟨sr, hsr⟩ : ∃ s, (szA v.ns).getD rn 0 = s := ⟨_, rfl⟩
            have hVr : wr.cell? ⟨g, rn, none⟩ = some (.int .i64 (sr : Int)) := by
              have := IVec.at_ HS5.out.vec (i := rn) (by rw [HN.out]; omega)
              unfold szF at this
              rw [if_pos (by omega), hsr] at this
              exact this
            have HNX : Hid (rootSz v.ns (v.rs.take (k + 1)) = rootSz v.ns (v.rs.take k) ++ [sr]) := by
              unfold Hid rootSz
              rw [take_snoc' hr, List.map_append, List.map_cons, List.map_nil, Int.toNat_natCast, hsr]
            have HY3 : Hid (∀ y ∈ v.rs.take (k + 1), 0 ≤ y ∧ y < (j : Int)) := by
              rw [take_snoc' hr]
              intro y' hy'
              rcases List.mem_append.1 hy' with h' | h'
              · exact HRR.out y' h'
              · simp at h'; omega
            clear hr hu1 hsr hrA' hrj
            go_wp2_with (at_builtin; refine wpList_append_row _ rfl (.tmp 72) (.tmp 77) 27 27 rfl (g + 1) 3 i0 (.int .i64 0) 1 8 Tryd.underlying27 HI.out HZ0.out HZ1.out HZ2.out rfl (by decide) (.slice A k c) k ((rootSz v.ns (v.rs.take k)).map natV) rfl (HO.out.alloc _) (.slice (some ⟨wr.heap.size, 0, none⟩) 1 1) 1 [.int .i64 (sr : Int)] rfl (src_new wr Tryd.underlying27 [.int .i64 (sr : Int)] 1 1 1 3 rfl ?c4) ?c1 ?c2 ?c3 ?_)
            case c4 => intro u hu; simp at hu; subst hu; rfl
            case c1 => unfold maxLen; omega
            case c2 => omega
            case c3 => simp; omega
            intro v3 w3 hown3 hg3
            obtain ⟨A3, q3, rfl, -, -⟩ := reads_of_owns hown3
            have HO3 : Hid (w3.ownsRow (g + 1) 3 1 (.slice A3 (k + 1) q3) (k + 1) ((rootSz v.ns (v.rs.take (k + 1))).map natV)) := by
              unfold Hid
              rw [HNX.out, List.map_append]
              exact hown3
            have HS6 : Hid (SzR w w3 v g (szF v.ns j)) := by
              have hb : SzR w (wr.alloc (.cells #[.int .i64 (sr : Int)] 3)) v g (szF v.ns j) := HS5.out.below (bal (Below.refl _ _) _)
              have hf := own_from HO.out
              exact ⟨hb.bel.grown hg3.grown (by have := hb.bel.size; omega) (fun x hx => by have := hf x hx; omega), hg3.blk hb.box (fun e => by have := hf _ e; omega), hg3.blk hb.vec (fun e => by have := hf _ e; omega), hb.ge⟩
            clear hown3 hg3 hVr
            go_wp2_with fail
            go_roundw
            case rel => exact ⟨k + 1, A3, q3, by omega, by go_num, rfl, HO3, HY3, HS6⟩
            case measure => simp [intOf]; omega
          · have HE : Hid (SizesPost w v (.returned (.tuple #[.slice none 0 0, .int .i64 13])) wr) := by
              refine .inr ⟨fun hf => ?_, rfl, HS5.out.bel⟩
              have := hf.2 r (List.mem_of_getElem? hr)
              rw [v.ns_len, HN.out] at this
              exact hrj this
            by_cases hy0 : r < 0
            · have d1 : decide (r < 0) = true := decide_eq_true hy0
              clear hr hu1 hrj
              go_wp2_with fail
              go_ret2
              exact HE.out
            · have d1 : decide (r < 0) = false := decide_eq_false hy0
              have d2 : decide ((j : Int) ≤ r) = true := decide_eq_true (by omega)
              clear hr hu1 hrj
              go_wp2_with fail
              go_ret2
              exact HE.out
        · obtain rfl : k = m := by omega
          have HE : Hid (SizesPost w v (.returned (.tuple #[.slice A k c, .int .i64 0])) wr) := by
            have h1 := HO.out
            have h2 := HRR.out
            rw [List.take_of_length_le (by rw [HM.out]; exact Nat.le_refl _)] at h1 h2
            refine .inl ⟨HFN.out, fun r hr => by rw [v.ns_len, HN.out]; exact h2 r hr, A, c, by rw [HM.out], ?_, HS5.out.bel⟩
            rw [HM.out]
            exact Reads.of_own h1
          go_wp2_with fail
          go_ret2
          exact HE.out
end Go.Proofs.YtdabmjcpiblofaaDoor
