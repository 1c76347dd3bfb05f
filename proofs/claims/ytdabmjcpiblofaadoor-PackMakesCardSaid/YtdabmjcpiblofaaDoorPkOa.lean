/-
  put, the reference's: the walk. No condition.
-/
import Derived.Test.YtdabmjcpiblofaaDoorPkO
namespace Go.Proofs.YtdabmjcpiblofaaDoor
open Go.RowKit
set_option linter.unusedVariables false

theorem findN_at {l : List PN} {x : PN} {i : Nat} (h : ∀ y ∈ l.take i, y ≠ x) (hi : l[i]? = some x) : findN l x = some i := by
  unfold findN
  rw [List.findIdx?_eq_some_iff_getElem]
  obtain ⟨hlt, e⟩ := List.getElem?_eq_some_iff.1 hi
  refine ⟨hlt, by simp [e], fun j hj => ?_⟩
  have := h l[j] (by rw [List.mem_take_iff_getElem]; exact ⟨j, by omega, rfl⟩)
  simpa using this
theorem putN_old {l : List PN} {x : PN} {i : Nat} (h : ∀ y ∈ l.take i, y ≠ x) (hi : l[i]? = some x) : putN l x = (l, i) := by unfold putN; rw [findN_at h hi]
theorem putN_new {l : List PN} {x : PN} (h : ∀ y ∈ l, y ≠ x) : putN l x = (l ++ [x], l.length) := by
  unfold putN
  rw [findN_none.2 (fun hm => h x hm rfl)]
theorem PRel.start {w W : World} {base : Nat} {lv : Value} {ps : List PX} {R : Nat → Prop} {t : TX} (h : NR w base lv ps R) (hb : Below w.heap.size w W) (hz : W.heap.size = w.heap.size + 2) (h0 : Blk W w.heap.size 42 t.arr) (h1 : Blk W (w.heap.size + 1) 48 #[.int .i64 t.kind, .string t.text, .slice t.lA t.leads.length t.lc, .slice none 0 0]) :
    PRel w W base lv ps R t 0 lv ps R none [] 0 :=
  ⟨h.below hb, by simp [T.puts], Grows.of_below _ hb, fun g hg => .inl (own_lt h.row g hg), fun i hi => .inl hi, h0, h1, ⟨rfl, .inl ⟨rfl, rfl⟩⟩, (fun g hg => by simp [Value.ownBlock] at hg), by omega, fun i hi => (h.apart i hi).2.2⟩
theorem and8 {a b c d e : Prop} (h : (a ∧ b ∧ c ∧ d) ∧ e) : a ∧ b ∧ c ∧ d ∧ e := ⟨h.1.1, h.1.2.1, h.1.2.2.1, h.1.2.2.2, h.2⟩
set_option maxRecDepth 100000 in
set_option maxHeartbeats 8000000 in
theorem put_any (base : Nat) (t : TX) : ∀ (w : World) (lA : Option Addr) (lc : Nat) (ps : List PX) (R : Nat → Prop), NR w base (.slice lA ps.length lc) ps R → Tr w base t → Fine t → ps.length + t.plain.size ≤ 1000000 →
    Calls Tryd.prog 39 #[.slice lA ps.length lc, t.val] w (PutPost w base (.slice lA ps.length lc) ps R t.plain) := by
  induction t using TX.ind with
  | h t ih =>
  intro w lA lc ps R hnr ht hfi hM
  unfold TX.val
  have HIH := Lib.hid ih
  have H := Lib.hid ht
  have HF := Lib.hid hfi
  have HM := Lib.hid hM
  have HNR := Lib.hid hnr
  have hkb := ht.kb
  have hbw := hnr.hb
  have hpsz : ps.length ≤ 1000000 := by omega
  obtain ⟨kT, hkT⟩ : ∃ a, t.kA = a := ⟨_, rfl⟩
  have HKT := Lib.hid hkT
  rw [hkT]
  obtain ⟨W, hW⟩ : ∃ W, w.alloc (.cells #[.int .i64 t.kind, .string t.text, .slice t.lA t.leads.length t.lc, .slice kT t.kids.length t.kc] 42) = W := ⟨_, rfl⟩
  have hsW : W.heap.size = w.heap.size + 1 := by subst hW; simp
  have hX : Blk W w.heap.size 42 #[.int .i64 t.kind, .string t.text, .slice t.lA t.leads.length t.lc, .slice kT t.kids.length t.kc] := by subst hW; exact Blk.new w _ _
  have hBW : Below w.heap.size w W := by subst hW; exact bal (Below.refl _ _) _
  have c0 := hX.cell 0
  have c1 := hX.cell 1
  have c2 := hX.cell 2
  have c3 := hX.cell 3
  simp at c0 c1 c2 c3
  obtain ⟨W2, hW2⟩ : ∃ W2, W.alloc (.cells #[.int .i64 t.kind, .string t.text, .slice t.lA t.leads.length t.lc, .slice none 0 0] 48) = W2 := ⟨_, rfl⟩
  have HST : Hid (PRel w W2 base (.slice lA ps.length lc) ps R t 0 (.slice lA ps.length lc) ps R none [] 0) := by
    have h1 : Blk W2 W.heap.size 48 #[.int .i64 t.kind, .string t.text, .slice t.lA t.leads.length t.lc, .slice none 0 0] := by subst hW2; exact Blk.new _ _ _
    rw [hsW] at h1
    have h0 : Blk W2 w.heap.size 42 t.arr := by subst hW2; unfold TX.arr; rw [hkT]; exact hX.alloc _
    exact PRel.start hnr (by subst hW2; exact bal hBW _) (by subst hW2; simp [hsW]) h0 h1
  have hS3 : W2.setCell ⟨W.heap.size, 3, none⟩ (.slice none 0 0) = W2 := by
    rw [← hW2]
    exact (World.setCell_alloc_at _ _ _ _ _ rfl).trans rfl
  have z3 : W2.frozen? ⟨W.heap.size, 3, none⟩ = false := by subst hW2; exact (Blk.new _ _ _).frozen 3
  have z4 : W2.cell? ⟨W.heap.size, 3, none⟩ = some (.slice none 0 0) := by subst hW2; rw [(Blk.new _ _ _).cell]; rfl
  obtain ⟨i0, hi, hz0, hz1, hz2⟩ := info_parts intInfo
  have HI := Lib.hid hi
  have HZ0 := Lib.hid hz0
  have HZ1 := Lib.hid hz1
  have HZ2 := Lib.hid hz2
  obtain ⟨i4, hi4, hy0, hy1, hy2⟩ := info_parts nodeInfo
  have HI4 := Lib.hid hi4
  have HY0 := Lib.hid hy0
  have HY1 := Lib.hid hy1
  have HY2 := Lib.hid hy2
  have HSW := Lib.hid hsW
  clear ih ht hfi hM hnr hkT hi hz0 hz1 hz2 hi4 hy0 hy1 hy2 hX hBW hsW
  go_enter Tryd.func39, Tryd.ntmps39
  go_wp2_with fail
  rw [HSW.out]
  have HW := Lib.hid hW
  have HW2 := Lib.hid hW2
  clear hW hW2 hS3 z3 z4 c0 c1 c2 c3
  go_loopw [0, 7] (fun l i wr => ∃ (j : Nat) (A1 : Option Addr) (k1 : Nat) (ps1 : List PX) (R1 : Nat → Prop) (kA : Option Addr) (ks : List Int) (kc : Nat), j ≤ t.kids.length ∧ i = .int .i64 (j : Int) ∧ l = .slice A1 ps1.length k1 ∧ Hid (PRel w wr base (.slice lA ps.length lc) ps R t j (.slice A1 ps1.length k1) ps1 R1 kA ks kc)) (fun _ i _ => t.kids.length - (intOf i).toNat)
  case atStart => exact ⟨0, lA, lc, ps, R, none, [], 0, by omega, rfl, rfl, HST⟩
  case round =>
    obtain ⟨j, A1, k1, ps1, R1, kA, ks, kc, hj, rfl, rfl, HR⟩ := hrel
    obtain ⟨wo, rfl⟩ : ∃ wo : World, wo = wr := ⟨_, rfl⟩
    have hzo := HR.out.gr.size
    have hb2 := HR.out.hb
    have b0 : Blk wo w.heap.size 42 #[.int .i64 t.kind, .string t.text, .slice t.lA t.leads.length t.lc, .slice kT t.kids.length t.kc] := by have := HR.out.b0; unfold TX.arr at this; rw [HKT.out] at this; exact this
    have HB0 := Lib.hid b0
    have b1 := HR.out.b1
    have c3 := b0.cell 3
    have d0 := b1.cell 0
    have d1 := b1.cell 1
    have d2 := b1.cell 2
    have d3 := b1.cell 3
    simp at c3 d0 d1 d2 d3
    have HKL := Lib.hid (HR.out.klen hj)
    clear b0 b1
    by_cases hlt : j < t.kids.length
    · obtain ⟨s, hs⟩ : ∃ s, t.kids[j]? = some s := ⟨_, List.getElem?_eq_getElem hlt⟩
      have hbl : Below base w wo := HR.out.gr.below hbw (fun g hg => own_from HNR.out.row g hg)
      obtain ⟨ab, ao, hA, hab, e0, e1, e2, e3⟩ := (H.out.low hbl).at_ hs
      obtain rfl : kT = some ⟨ab, ao, none⟩ := HKT.out.symm.trans hA
      have hfew := HR.out.few hs
      have hMM := HM.out
      have hks := HKL.out
      have hksl : ks.length ≤ 1000000 := by
        have h1 := len_sizes (t.kids.map TX.plain)
        rw [TX.plain_eq t, T.size] at hMM
        rw [List.length_map] at h1
        omega
      have HC := Lib.hid (HIH.out s (List.mem_of_getElem? hs) wo A1 k1 ps1 R1 HR.out.nr ((H.out.sub s (List.mem_of_getElem? hs)).low hbl) (HF.out.sub s (List.mem_of_getElem? hs)) (by omega))
      unfold TX.val at HC
      have HS := Lib.hid hs
      clear hs hA hfew hMM hks hbl
      go_wp2_with fail
      refine (HC.out).mono ?_
      rintro e w5 ⟨A5, c5, ps5, R5, k5, rfl, hp5, hn5, hg5, hR5⟩
      have kge := own_from HR.out.own
      have klt := own_lt HR.out.own
      have kn1 := own_types HR.out.own HR.out.nr.row (by decide)
      have HO5 : Hid (w5.ownsRow (w.heap.size + 2) 3 1 (.slice kA ks.length kc) ks.length (ks.map (Value.int .i64))) := HR.out.own.kept hg5.grown (by
        cases hq : (Value.slice kA ks.length kc).ownBlock with
        | none => exact .inl rfl
        | some g => exact .inr (fun e => kn1 g hq e.symm))
      have hb15 : Blk w5 (w.heap.size + 1) 48 #[.int .i64 t.kind, .string t.text, .slice t.lA t.leads.length t.lc, .slice kA ks.length kc] := hg5.blk HR.out.b1 (fun e => by have := HR.out.l1 _ e; omega)
      have HB15 := Lib.hid hb15
      have d3 := hb15.cell 3
      simp at d3
      have hz5 := hg5.size
      have HP5 := Lib.hid hp5
      have HN5 := Lib.hid hn5
      have HG5 := Lib.hid hg5
      have HR5 := Lib.hid hR5
      clear hp5 hn5 hg5 hR5 hb15 HC kge klt kn1
      go_wp2_with (at_builtin; refine wpList_append_row _ rfl (.tmp 35) (.tmp 37) 27 27 rfl (w.heap.size + 2) 3 i0 (.int .i64 0) 1 8 Tryd.underlying27 HI.out HZ0.out HZ1.out HZ2.out rfl (by decide) (.slice kA ks.length kc) ks.length (ks.map (Value.int .i64)) rfl (HO5.out.alloc _) (.slice (some ⟨w5.heap.size, 0, none⟩) 1 1) 1 [.int .i64 (k5 : Int)] rfl (src_new w5 Tryd.underlying27 [.int .i64 (k5 : Int)] 1 1 1 3 rfl (one_i64 _)) ?c1 ?c2 ?c3 ?_)
      case c1 => unfold maxLen; omega
      case c2 => omega
      case c3 => simp; omega
      intro v6 w6 ho6 hg6
      obtain ⟨A6, c6, rfl, -, -⟩ := reads_of_owns ho6
      have hb16 : Blk w6 (w.heap.size + 1) 48 #[.int .i64 t.kind, .string t.text, .slice t.lA t.leads.length t.lc, .slice kA ks.length kc] := hg6.blk (HB15.out.alloc _) (fun e => by have := own_from HO5.out _ e; omega)
      have y3 := hb16.cell 3
      simp at y3
      have z3 := hb16.frozen 3
      have HS6 := Lib.hid (HR.out.step HS.out HP5.out HN5.out HG5.out HR5.out hbw rfl ho6 hg6)
      clear ho6 hg6 hb16
      go_wp2_with fail
      go_roundw
      case rel => exact ⟨j + 1, _, _, _, _, A6, ks ++ [(k5 : Int)], c6, by omega, by go_num, rfl, HS6⟩
      case measure => simp [intOf]; omega
    · obtain rfl : j = t.kids.length := by omega
      obtain ⟨px, hpx⟩ : ∃ px : PX, px = ⟨t.kind, t.text, t.lA, t.leads, t.lc, kA, ks, kc⟩ := ⟨_, rfl⟩
      have hput : T.put t.plain (ps.map PX.plain) = putN (ps1.map PX.plain) px.plain := by
        have h1 := HR.out.put
        rw [List.take_length] at h1
        rw [TX.plain_eq t, T.put, h1, hpx]
        rfl
      have hMM := HM.out
      have hks := HKL.out
      have hpsl : ps1.length ≤ 1000000 := by
        have h1 := (T.puts_size (t.kids.map TX.plain) (ps.map PX.plain)).2
        have h2 := HR.out.put
        rw [List.take_length] at h2
        rw [h2] at h1
        simp only [List.length_map] at h1
        rw [TX.plain_eq t, T.size] at hMM
        omega
      have hgp : goodP px.plain := by
        rw [hpx]
        refine ⟨⟨H.out.kr, HF.out.text, HF.out.leads, H.out.lbs⟩, ?_, fun y hy => ?_⟩
        · show ks.length ≤ _
          have h1 := len_sizes (t.kids.map TX.plain)
          rw [TX.plain_eq t, T.size] at hMM
          rw [List.length_map] at h1
          omega
        · have h1 := puts_small (t.kids.map TX.plain) (ps.map PX.plain)
          have h2 := HR.out.put
          rw [List.take_length] at h2
          rw [h2] at h1
          simp only [List.length_map] at h1
          have := h1 y hy
          exact ⟨by omega, by omega⟩
      have hbl : Below base w wo := HR.out.gr.below hbw (fun g hg => own_from HNR.out.row g hg)
      have hcell : px.cells = [.int .i64 t.kind, .string t.text, .slice t.lA t.leads.length t.lc, .slice kA ks.length kc] := by rw [hpx]; rfl
      have HLD : Hid (∀ w', Below wo.heap.size wo w' → Reads w' base 1 px.lA px.leads.length (px.leads.map Value.string)) := fun w' hb => by
        rw [hpx]
        exact (H.out.low (hbl.trans (hb.mono (by omega)))).rl
      have HKD : Hid (∀ w', Below wo.heap.size wo w' → w'.ownsRow base 3 1 (.slice px.kA px.kids.length px.kc) px.kids.length (px.kids.map (Value.int .i64))) := fun w' hb => by
        rw [hpx]
        exact owns_up (owns_below HR.out.own hb (own_lt HR.out.own)) (fun g hg => by have := own_from HR.out.own g hg; omega)
      have HPK : Hid (∀ w', Below wo.heap.size wo w' → px.ok w' w'.heap.size) := fun w' hb => by
        have h1 := HLD.out w' hb
        have h2 := HKD.out w' hb
        obtain ⟨g1, g2, g3⟩ := hgp
        exact ⟨h1.more (by have := hb.size; omega), Reads.of_own h2, g1.1, g1.2.1, g1.2.2.1, g1.2.2.2, g2, g3⟩
      have HBX : Hid (∀ w', Below wo.heap.size wo w' → w'.cell? ⟨w.heap.size + 1, 0, none⟩ = some (.int .i64 t.kind) ∧ w'.cell? ⟨w.heap.size + 1, 1, none⟩ = some (.string t.text) ∧ w'.cell? ⟨w.heap.size + 1, 2, none⟩ = some (.slice t.lA t.leads.length t.lc) ∧ w'.cell? ⟨w.heap.size + 1, 3, none⟩ = some (.slice kA ks.length kc)) := fun w' hb => by
        have h1 := HR.out.b1.below hb HR.out.b1.lt
        exact ⟨by rw [h1.cell]; rfl, by rw [h1.cell]; rfl, by rw [h1.cell]; rfl, by rw [h1.cell]; rfl⟩
      have HPX := Lib.hid hpx
      have HPUT := Lib.hid hput
      have HGP := Lib.hid hgp
      have HCELL := Lib.hid hcell
      have HKR : Hid (∀ g, (Value.slice px.kA px.kids.length px.kc).ownBlock = some g → ¬ R1 g) := by rw [hpx]; exact HR.out.kvR
      clear hpx hput hgp hcell hMM hks hbl
      go_wp2_with fail
      clear c3 d0 d1 d2 d3
      go_loopw [9] (fun i wr => ∃ m : Nat, m ≤ ps1.length ∧ i = .int .i64 (m : Int) ∧ Hid (∀ y ∈ (ps1.map PX.plain).take m, y ≠ px.plain) ∧ Hid (Below wo.heap.size wo wr)) (fun i _ => ps1.length - (intOf i).toNat)
      case atStart => exact ⟨0, by omega, rfl, (fun y hy => by simp at hy), Below.refl _ _⟩
      case round =>
        obtain ⟨m, hm, rfl, HNE, HB⟩ := hrel
        have hzr := HB.out.size
        by_cases hlm : m < ps1.length
        · obtain ⟨q, hq⟩ : ∃ q, ps1[m]? = some q := ⟨_, List.getElem?_eq_getElem hlm⟩
          obtain ⟨ab, ao, hA1, hab, hcl⟩ := (Reads.of_own HR.out.nr.row).head (by omega) (by omega)
          subst hA1
          have HSK : Hid (∀ w' : World, Below wo.heap.size wo w' → (w'.cell? ⟨ab, ao + m * 4, none⟩ = some (.int .i64 q.kind) ∧ w'.cell? ⟨ab, ao + m * 4 + 1, none⟩ = some (.string q.text) ∧ w'.cell? ⟨ab, ao + m * 4 + 2, none⟩ = some (.slice q.lA q.leads.length q.lc) ∧ w'.cell? ⟨ab, ao + m * 4 + 3, none⟩ = some (.slice q.kA q.kids.length q.kc)) ∧ w'.cell? ⟨w.heap.size + 1, 0, none⟩ = some (.int .i64 t.kind) ∧ w'.cell? ⟨w.heap.size + 1, 1, none⟩ = some (.string t.text) ∧ w'.cell? ⟨w.heap.size + 1, 2, none⟩ = some (.slice t.lA t.leads.length t.lc) ∧ w'.cell? ⟨w.heap.size + 1, 3, none⟩ = some (.slice kA ks.length kc)) := fun w' hw => by
            have p0 := hcl (m * 4) _ (flat_at PX.cells_len ps1 m 0 q hq (by omega))
            have p1 := hcl (m * 4 + 1) _ (flat_at PX.cells_len ps1 m 1 q hq (by omega))
            have p2 := hcl (m * 4 + 2) _ (flat_at PX.cells_len ps1 m 2 q hq (by omega))
            have p3 := hcl (m * 4 + 3) _ (flat_at PX.cells_len ps1 m 3 q hq (by omega))
            rw [← Nat.add_assoc] at p1 p2 p3
            exact ⟨⟨(hw.cell hab).trans p0, (hw.cell hab).trans p1, (hw.cell hab).trans p2, (hw.cell hab).trans p3⟩, HBX.out w' hw⟩
          have HBD : Hid (Below wo.heap.size wo wr.drew) := below_drewN HB.out 1
          have hC := sameNode_any q px wr.drew ((HR.out.nr.below HBD.out).ok q (List.mem_of_getElem? hq)) (HPK.out _ HBD.out)
          have hC' : Calls Tryd.prog 37 #[.agg #[.int .i64 q.kind, .string q.text, .slice q.lA q.leads.length q.lc, .slice q.kA q.kids.length q.kc], .agg #[.int .i64 t.kind, .string t.text, .slice t.lA t.leads.length t.lc, .slice kA ks.length kc]] wr.drew (RetB wr.drew (q.plain = px.plain)) := by
            rw [HPX.out] at hC ⊢
            exact hC
          have HC := Lib.hid hC'
          have i0' : (0 : Int) ≤ (m : Int) := by omega
          have i1' : (m : Int) < (ps1.length : Int) := by omega
          have HQ := Lib.hid hq
          clear hq hcl hC hC'
          go_wp2_with fail
          go_region_held3 (fun w' => w'.cell? ⟨ab, ao + m * 4, none⟩ = some (.int .i64 q.kind) ∧ w'.cell? ⟨ab, ao + m * 4 + 1, none⟩ = some (.string q.text) ∧ w'.cell? ⟨ab, ao + m * 4 + 2, none⟩ = some (.slice q.lA q.leads.length q.lc) ∧ w'.cell? ⟨ab, ao + m * 4 + 3, none⟩ = some (.slice q.kA q.kids.length q.kc) ∧ w'.cell? ⟨w.heap.size + 1, 0, none⟩ = some (.int .i64 t.kind) ∧ w'.cell? ⟨w.heap.size + 1, 1, none⟩ = some (.string t.text) ∧ w'.cell? ⟨w.heap.size + 1, 2, none⟩ = some (.slice t.lA t.leads.length t.lc) ∧ w'.cell? ⟨w.heap.size + 1, 3, none⟩ = some (.slice kA ks.length kc))
            (first | (with_reducible exact and8 (HSK.out _ HBD.out)) | (with_reducible exact and8 (HSK.out _ HB1.out)))
            ((go_at_call 37; refine (HC.out).mono ?_; rintro e w1 ⟨bv, hv, rfl, hb1⟩; have HB1 := Lib.hid (HBD.out.trans (hb1.mono HBD.out.size)); have HV := Lib.hid hv; clear hb1 hv))
          rcases bv with _ | _
          · have HN2 : Hid (∀ y ∈ (ps1.map PX.plain).take (m + 1), y ≠ px.plain) := by
              have hqm : (ps1.map PX.plain)[m]? = some q.plain := by rw [List.getElem?_map, HQ.out]; rfl
              rw [take_snoc' hqm]
              intro y hy
              rcases List.mem_append.1 hy with hy | hy
              · exact HNE.out y hy
              · simp at hy
                subst hy
                exact fun e => by have := HV.out.2 e; cases this
            go_wp2_with fail
            go_roundw
            case rel => exact ⟨m + 1, by omega, by go_num, HN2, HB1⟩
            case measure => simp [intOf]; omega
          · have HE : Hid (PutPost w base (.slice lA ps.length lc) ps R t.plain (.returned (.tuple #[.slice (some ⟨ab, ao, none⟩) ps1.length k1, .int .i64 (m : Int)])) w1) := by
              have hqm : (ps1.map PX.plain)[m]? = some q.plain := by rw [List.getElem?_map, HQ.out]; rfl
              have hqe : q.plain = px.plain := HV.out.1 rfl
              refine ⟨_, _, ps1, R1, m, rfl, ?_, HR.out.nr.below HB1.out, HR.out.gr.trans (Grows.of_below _ HB1.out), fun i hi => ?_⟩
              · rw [HPUT.out, putN_old HNE.out (hqe ▸ hqm)]
              · rcases HR.out.newR i hi with h1 | h1
                · exact .inl h1
                · exact .inr (by omega)
            go_wp2_with fail
            go_ret2
            exact HE.out
        · obtain rfl : m = ps1.length := by omega
          have HNA : Hid (∀ y ∈ ps1.map PX.plain, y ≠ px.plain) := by
            have := HNE.out
            rw [List.take_of_length_le (by simp)] at this
            exact this
          obtain ⟨d0, d1, d2, d3⟩ := HBX.out wr HB.out
          have HOW : Hid (wr.ownsRow base 48 4 (.slice A1 ps1.length k1) ps1.length (ps1.flatMap PX.cells)) := (HR.out.nr.below HB.out).row
          have hbw2 : base ≤ wr.heap.size := by omega
          go_wp2_with (at_builtin; refine wpList_append_row _ rfl (.tmp 54) (.tmp 56) 26 26 rfl base 48 i4 (.agg #[.int .i64 0, .string ⟨#[]⟩, .slice none 0 0, .slice none 0 0]) 4 72 Tryd.underlying26 HI4.out HY0.out HY1.out HY2.out rfl (by decide) (.slice A1 ps1.length k1) ps1.length (ps1.flatMap PX.cells) rfl (HOW.out.alloc _) (.slice (some ⟨wr.heap.size, 0, none⟩) 1 1) 1 [.int .i64 t.kind, .string t.text, .slice t.lA t.leads.length t.lc, .slice kA ks.length kc] rfl (src_new wr Tryd.underlying26 _ 4 1 1 48 rfl (one_node _ _ _ _ _ _ _ _)) ?c1 ?c2 ?c3 ?_)
          case c1 => unfold maxLen; omega
          case c2 => omega
          case c3 => simp; omega
          intro v7 w7 ho7 hg7
          obtain ⟨A7, c7, rfl, -, -⟩ := reads_of_owns ho7
          have HE : Hid (PutPost w base (.slice lA ps.length lc) ps R t.plain (.returned (.tuple #[.slice A7 (ps1.length + 1) c7, .int .i64 (ps1.length : Int)])) w7) := by
            rw [← HCELL.out] at ho7
            have h1 := (HR.out.nr.below HB.out).push (ks := []) (kv := none) (kA := none) (kc := 0) (lc := 0) (HKD.out _ HB.out) (HLD.out _ HB.out) HKR.out HGP.out ho7 hg7
            refine ⟨A7, c7, ps1 ++ [px], (fun i => R1 i ∨ (Value.slice px.kA px.kids.length px.kc).ownBlock = some i), ps1.length, by rw [List.length_append]; rfl, ?_, ?_, ?_, fun i hi => ?_⟩
            · rw [HPUT.out, putN_new HNA.out, List.map_append, List.length_map]; rfl
            · rw [List.length_append]; exact h1
            · rw [List.length_append]
              exact HR.out.gr.trans ((Grows.of_below _ (HB.out.trans ((bal (Below.refl _ wr) _).mono HB.out.size))).trans hg7)
            · rcases hi with hi | hi
              · rcases HR.out.newR i hi with h1 | h1
                · exact .inl h1
                · exact .inr (by omega)
              · rw [HPX.out] at hi
                have := own_from HR.out.own i hi
                exact .inr (by omega)
          clear ho7 hg7 d0 d1 d2 d3
          go_wp2_with fail
          go_ret2
          exact HE.out
end Go.Proofs.YtdabmjcpiblofaaDoor
