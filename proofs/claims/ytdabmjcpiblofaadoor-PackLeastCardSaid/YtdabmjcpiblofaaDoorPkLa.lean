/-
  Make, the program's: the walk. No condition.
-/
import Derived.Test.YtdabmjcpiblofaaDoorPkL
namespace Go.Proofs.YtdabmjcpiblofaaDoor
open Go.RowKit Go.Maps
set_option linter.unusedVariables false

theorem MkRel.done {w wr : World} {ts : List TX} {pb bm : Nat} {nv rv : Value} {ps : List PX} {D : DataW Unit} {R : Nat → Prop} {rs : List Int} (h : MkRel w wr ts pb bm ts.length nv rv ps D R rs) (hg : ∀ u ∈ T.subsL (ts.map TX.plain), goodL u) (hs : T.sizes (ts.map TX.plain) ≤ 1000000) :
    MakePost w (T.puts (ts.map TX.plain) []).1 (T.puts (ts.map TX.plain) []).2 (.returned (.agg #[nv, rv])) ((wr.setCell ⟨w.heap.size, 0, none⟩ nv).setCell ⟨w.heap.size, 1, none⟩ rv) := by
  have hput := h.put
  rw [List.take_length] at hput
  have hgd := puts_good hg hs
  have hsz := (T.puts_size (ts.map TX.plain) []).2
  have hpl := puts_len (ts.map TX.plain) []
  have hsm := puts_small (ts.map TX.plain) []
  have hls := len_sizes (ts.map TX.plain)
  rw [hput] at hgd hsz hpl hsm ⊢
  simp only [List.length_nil, List.length_map, Nat.zero_add] at hsz hpl hsm hls
  have hc : Chg wr ((wr.setCell ⟨w.heap.size, 0, none⟩ nv).setCell ⟨w.heap.size, 1, none⟩ rv) (fun i => i = w.heap.size) := ((Chg.refl wr (fun i => i = w.heap.size)).setCell (p := ⟨w.heap.size, 0, none⟩) (.inl rfl) nv).setCell (p := ⟨w.heap.size, 1, none⟩) (.inl rfl) rv
  have hz := h.bel.size
  have n1 := own_from h.pk.nodes
  have n2 := own_from h.roots
  have hn' := owns_chg h.pk.nodes hc (fun g hg e => by have := n1 g hg; omega)
  have hr' := owns_chg h.roots hc (fun g hg e => by have := n2 g hg; omega)
  obtain ⟨An, cn, e1, hrn, -⟩ := reads_of_owns hn'
  obtain ⟨Ar, cr, e2, hrr, -⟩ := reads_of_owns hr'
  refine ⟨⟨An, ps, cn, Ar, rs, cr⟩, by rw [e1, e2]; rfl, rfl, rfl, ⟨hrn, hrr, fun p hp => ?_, by show ps.length ≤ _; omega, by show rs.length ≤ _; omega, fun r hr => ?_⟩, h.bel.trans (hc.below hz (fun i hi => by omega))⟩
  · obtain ⟨g1, g2, g3⟩ := hgd p.plain (List.mem_map_of_mem hp)
    have hh := (h.pk.rows p hp).chg hc (fun i hi e => by have := (h.pk.apart i hi).2.1; omega)
    exact ⟨hh.leads.reads, hh.kids.reads, g1.1, g1.2.1, g1.2.2.1, g1.2.2.2, g2, g3⟩
  · have := hsm r hr
    exact ⟨by omega, by omega⟩
theorem one_i64 (x : Int) : ∀ u ∈ [Value.int .i64 x], u.oneCell' = true := fun u hu => by simp at hu; subst hu; rfl
theorem MkRel.start (w : World) (ts : List TX) : MkRel w (((w.alloc (.cells #[.slice none 0 0, .slice none 0 0] 29)).alloc (.map #[] 0)).alloc (.cells #[.slice none 0 0, .slice none 0 0, .map (some (w.heap.size + 1))] 66)) ts (w.heap.size + 1 + 1) (w.heap.size + 1) 0 (.slice none 0 0) (.slice none 0 0) [] (.map []) (fun _ => False) [] := by
  obtain ⟨wa, hwa⟩ : ∃ wa, w.alloc (.cells #[.slice none 0 0, .slice none 0 0] 29) = wa := ⟨_, rfl⟩
  have hz : wa.heap.size = w.heap.size + 1 := by subst hwa; simp
  have hbx : Blk wa w.heap.size 29 #[.slice none 0 0, .slice none 0 0] := by subst hwa; exact Blk.new w _ _
  have hb : Below w.heap.size w wa := by subst hwa; exact bal (Below.refl _ _) _
  rw [hwa]
  have hm : (wa.alloc (.map #[] 0)).ownsMap Tryd.prog 100 (plainElem (H := Unit) Tryd.prog 3) wa.heap.size 0 (.map []) := World.ownsMap_made _ _ _ _
  rw [hz] at hm
  have hz2 : (wa.alloc (.map #[] 0)).heap.size = w.heap.size + 1 + 1 := by simp [hz]
  have hp : Blk ((wa.alloc (.map #[] 0)).alloc (.cells #[.slice none 0 0, .slice none 0 0, .map (some (w.heap.size + 1))] 66)) (w.heap.size + 1 + 1) 66 #[.slice none 0 0, .slice none 0 0, .map (some (w.heap.size + 1))] := by
    have := Blk.new (wa.alloc (.map #[] 0)) 66 #[.slice none 0 0, .slice none 0 0, .map (some (w.heap.size + 1))]
    rwa [hz2] at this
  refine ⟨⟨hp, ⟨rfl, .inl ⟨rfl, rfl⟩⟩, hm.alloc _, Knows.start, (fun p hp => by cases hp), (fun i hi => hi.elim), by omega, by omega⟩, ⟨rfl, .inl ⟨rfl, rfl⟩⟩, (fun g hg h => h), rfl, bal (bal hb _) _, (hbx.alloc _).alloc _⟩
set_option maxRecDepth 100000 in
set_option maxHeartbeats 3200000 in
theorem make_any (A : Option Addr) (c : Nat) (ts : List TX) (w : World) (h : LT w A ts) (hs : T.sizes (ts.map TX.plain) ≤ 1000000) (ht : Tab w) :
    Calls Tryd.prog 13 #[.slice A ts.length c] w (MakePost w (T.puts (ts.map TX.plain) []).1 (T.puts (ts.map TX.plain) []).2) := by
  obtain ⟨n, hn⟩ : ∃ n, ts.length = n := ⟨_, rfl⟩
  have hls := len_sizes (ts.map TX.plain)
  rw [List.length_map, hn] at hls
  have hgd := h.good
  have hrt := h.1
  rw [hn] at hrt ⊢
  have HG := Lib.hid hgd
  have HS := Lib.hid hs
  have HT := Lib.hid ht
  have H := Lib.hid h
  have HN := Lib.hid hn
  have HRT := Lib.hid hrt
  have hnb : n ≤ 1000000 := Nat.le_trans hls hs
  have hg0 : 0 < w.heap.size + 1 := by have := ht.2; omega
  obtain ⟨i0, hi, hz0, hz1, hz2⟩ := info_parts intInfo
  have HI := Lib.hid hi
  have HZ0 := Lib.hid hz0
  have HZ1 := Lib.hid hz1
  have HZ2 := Lib.hid hz2
  have hmm := @run_makeMap Tryd.prog
  clear h hn hgd hrt hs ht hi hz0 hz1 hz2 hls
  go_enter Tryd.func13, Tryd.ntmps13
  go_wp2_with fail
  have HST := Lib.hid (MkRel.start w ts)
  clear hmm
  go_loopw [11] (fun i wr => ∃ (j : Nat) (nv rv : Value) (ps : List PX) (D : DataW Unit) (R : Nat → Prop) (rs : List Int), j ≤ n ∧ i = .int .i64 (j : Int) ∧ Hid (MkRel w wr ts (w.heap.size + 1 + 1) (w.heap.size + 1) j nv rv ps D R rs)) (fun i _ => n - (intOf i).toNat)
  case atStart => exact ⟨0, _, _, _, _, _, _, by omega, rfl, HST⟩
  case round =>
    obtain ⟨j, nv, rv, ps, D, R, rs, hj, rfl, HR⟩ := hrel
    obtain ⟨An, cn, rfl, -, -⟩ := reads_of_owns HR.out.pk.nodes
    obtain ⟨Ar, cr, rfl, -, -⟩ := reads_of_owns HR.out.roots
    have hzr := HR.out.bel.size
    by_cases hlt : j < n
    · obtain ⟨t, ht⟩ : ∃ t, ts[j]? = some t := ⟨_, List.getElem?_eq_getElem (by rw [HN.out]; exact hlt)⟩
      obtain ⟨ab, ao, hA, hab, hcell⟩ := (HRT.out.below HR.out.bel).head (by omega) (by omega)
      have e0 := hcell (j * 4) _ (flat_at TX.cells_len ts j 0 t ht (by omega))
      have e1 := hcell (j * 4 + 1) _ (flat_at TX.cells_len ts j 1 t ht (by omega))
      have e2 := hcell (j * 4 + 2) _ (flat_at TX.cells_len ts j 2 t ht (by omega))
      have e3 := hcell (j * 4 + 3) _ (flat_at TX.cells_len ts j 3 t ht (by omega))
      rw [← Nat.add_assoc] at e1 e2 e3
      subst hA
      have HT1 := Lib.hid ht
      have HTR := Lib.hid (H.out.2 t (List.mem_of_getElem? ht))
      have HLN := Lib.hid (HR.out.len (by rw [HN.out]; omega))
      obtain ⟨wk, hwk⟩ : ∃ wk, wr.alloc (.cells #[.int .i64 t.kind, .string t.text, .slice t.lA t.leads.length t.lc, .slice t.kA t.kids.length t.kc] 42) = wk := ⟨_, rfl⟩
      have HBK : Hid (Blk wk wr.heap.size 42 #[.int .i64 t.kind, .string t.text, .slice t.lA t.leads.length t.lc, .slice t.kA t.kids.length t.kc]) := by subst hwk; exact Blk.new wr _ _
      have HRK : Hid (MkRel w wk ts (w.heap.size + 1 + 1) (w.heap.size + 1) j (.slice An ps.length cn) (.slice Ar rs.length cr) ps D R rs) := by subst hwk; exact HR.out.below (bal (Below.refl _ _) _)
      have HSZ : Hid (ps.length + t.plain.size ≤ 1000000000000) := by
        have h1 := (T.puts_size ((ts.take j).map TX.plain) []).2
        rw [HR.out.put] at h1
        simp only [List.length_nil, List.length_map, Nat.zero_add] at h1
        have h2 := sizes_take ht
        have h3 := HS.out
        unfold Hid
        omega
      have HC : Hid (∀ w', Below wk.heap.size wk w' → Calls Tryd.prog 38 #[.pointer (some ⟨w.heap.size + 1 + 1, 0, none⟩), .agg #[.int .i64 t.kind, .string t.text, .slice t.lA t.leads.length t.lc, .slice t.kA t.kids.length t.kc]] w' (NodePost w' (w.heap.size + 1) (w.heap.size + 1 + 1) (w.heap.size + 1) (.slice An ps.length cn) (.slice Ar rs.length cr) ps R t.plain)) := fun w' hb => by
        have hbb : Below w.heap.size w w' := HRK.out.bel.trans (hb.mono HRK.out.bel.size)
        have := node_any (w.heap.size + 1) (w.heap.size + 1 + 1) (w.heap.size + 1) (.slice Ar rs.length cr) hg0 t w' (.slice An ps.length cn) ps D R (HRK.out.pk.below hb) ((HTR.out.1.low hbb).more (by omega)) HTR.out.2 (HT.out.below hbb) HSZ.out
        exact this
      have B0 : Hid (Below wk.heap.size wk wk.drew) := below_drewN (Below.refl _ wk) 1
      have HC1 : Hid (∀ w', Below wk.heap.size wk w' → w'.cell? ⟨w.heap.size + 1 + 1, 1, none⟩ = some (.slice Ar rs.length cr) ∧ w'.cell? ⟨wr.heap.size, 0, none⟩ = some (.int .i64 t.kind) ∧ w'.cell? ⟨wr.heap.size, 1, none⟩ = some (.string t.text) ∧ w'.cell? ⟨wr.heap.size, 2, none⟩ = some (.slice t.lA t.leads.length t.lc) ∧ w'.cell? ⟨wr.heap.size, 3, none⟩ = some (.slice t.kA t.kids.length t.kc)) := fun w' hb => by
        have h1 := (HRK.out.pk.below hb).box
        have h2 := HBK.out.below hb HBK.out.lt
        exact ⟨by rw [h1.cell]; rfl, by rw [h2.cell]; rfl, by rw [h2.cell]; rfl, by rw [h2.cell]; rfl, by rw [h2.cell]; rfl⟩
      have c00 := (HC1.out _ B0.out).1
      have f0 := HBK.out.cell 0
      have f1 := HBK.out.cell 1
      have f2 := HBK.out.cell 2
      have f3 := HBK.out.cell 3
      simp at f0 f1 f2 f3
      have hrsl : rs.length ≤ 1000000 := by rw [HLN.out]; omega
      have HC5 : Hid (∀ (w5 : World) (nv5 : Value) (ps5 : List PX) (D5 : DataW Unit) (R5 : Nat → Prop), Pk w5 (w.heap.size + 1) (w.heap.size + 1 + 1) (w.heap.size + 1) nv5 (.slice Ar rs.length cr) ps5 D5 R5 → Chg wk.drew w5 (PkM (w.heap.size + 1 + 1) (w.heap.size + 1) (.slice An ps.length cn)) → ∀ w', Below w5.heap.size w5 w' → w'.cell? ⟨w.heap.size + 1 + 1, 1, none⟩ = some (.slice Ar rs.length cr) ∧ w'.cell? ⟨wr.heap.size, 0, none⟩ = some (.int .i64 t.kind) ∧ w'.cell? ⟨wr.heap.size, 1, none⟩ = some (.string t.text) ∧ w'.cell? ⟨wr.heap.size, 2, none⟩ = some (.slice t.lA t.leads.length t.lc) ∧ w'.cell? ⟨wr.heap.size, 3, none⟩ = some (.slice t.kA t.kids.length t.kc)) := fun w5 nv5 ps5 D5 R5 hp hc w' hb => by
        have h1 := (hp.below hb).box
        have h2 := (HBK.out.drew.chg hc (fun x => by have := pkM_not HR.out.pk x; omega)).below hb (HBK.out.drew.chg hc (fun x => by have := pkM_not HR.out.pk x; omega)).lt
        exact ⟨by rw [h1.cell]; rfl, by rw [h2.cell]; rfl, by rw [h2.cell]; rfl, by rw [h2.cell]; rfl, by rw [h2.cell]; rfl⟩
      have HC6 : Hid (∀ (w5 w6 : World) (nv5 rv6 : Value) (ps5 : List PX) (D5 : DataW Unit) (R5 : Nat → Prop) (o : Obj), Pk w5 (w.heap.size + 1) (w.heap.size + 1 + 1) (w.heap.size + 1) nv5 (.slice Ar rs.length cr) ps5 D5 R5 → Chg wk.drew w5 (PkM (w.heap.size + 1 + 1) (w.heap.size + 1) (.slice An ps.length cn)) → Grows (w5.alloc o) w6 (.slice Ar rs.length cr) rv6 → w6.cell? ⟨w.heap.size + 1 + 1, 1, none⟩ = some (.slice Ar rs.length cr) ∧ w6.frozen? ⟨w.heap.size + 1 + 1, 1, none⟩ = false ∧ (w6.cell? ⟨wr.heap.size, 0, none⟩ = some (.int .i64 t.kind) ∧ w6.cell? ⟨wr.heap.size, 1, none⟩ = some (.string t.text) ∧ w6.cell? ⟨wr.heap.size, 2, none⟩ = some (.slice t.lA t.leads.length t.lc) ∧ w6.cell? ⟨wr.heap.size, 3, none⟩ = some (.slice t.kA t.kids.length t.kc)) ∧ ∀ u, (w6.setCell ⟨w.heap.size + 1 + 1, 1, none⟩ u).cell? ⟨wr.heap.size, 0, none⟩ = some (.int .i64 t.kind) ∧ (w6.setCell ⟨w.heap.size + 1 + 1, 1, none⟩ u).cell? ⟨wr.heap.size, 1, none⟩ = some (.string t.text) ∧ (w6.setCell ⟨w.heap.size + 1 + 1, 1, none⟩ u).cell? ⟨wr.heap.size, 2, none⟩ = some (.slice t.lA t.leads.length t.lc) ∧ (w6.setCell ⟨w.heap.size + 1 + 1, 1, none⟩ u).cell? ⟨wr.heap.size, 3, none⟩ = some (.slice t.kA t.kids.length t.kc)) := fun w5 w6 nv5 rv6 ps5 D5 R5 o hp hc hg => by
        have h1 := hg.blk (hp.alloc o).box (own_blk_ne HRK.out.roots HRK.out.pk.box (by decide))
        have h2 := hg.blk ((HBK.out.drew.chg hc (fun x => by have := pkM_not HR.out.pk x; omega)).alloc o) (fun e => by have := own_lt HR.out.roots _ e; omega)
        have hpb := HR.out.pk.lt_pb
        have h3 := fun u => h2.far (p := ⟨w.heap.size + 1 + 1, 1, none⟩) (by show wr.heap.size ≠ w.heap.size + 1 + 1; omega) u
        exact ⟨by rw [h1.cell]; rfl, h1.frozen 1, ⟨by rw [h2.cell]; rfl, by rw [h2.cell]; rfl, by rw [h2.cell]; rfl, by rw [h2.cell]; rfl⟩, fun u => ⟨by rw [(h3 u).cell]; rfl, by rw [(h3 u).cell]; rfl, by rw [(h3 u).cell]; rfl, by rw [(h3 u).cell]; rfl⟩⟩
      have HOW : Hid (∀ (w5 : World) (o : Obj), Chg wk.drew w5 (PkM (w.heap.size + 1 + 1) (w.heap.size + 1) (.slice An ps.length cn)) → (w5.alloc o).ownsRow (w.heap.size + 1) 3 1 (.slice Ar rs.length cr) rs.length (rs.map (Value.int .i64))) := fun w5 o hc => by
        have r1 : (Value.slice Ar rs.length cr).ownBlock ≠ some (w.heap.size + 1 + 1) := own_blk_ne HRK.out.roots HRK.out.pk.box (by decide)
        have r2 : (Value.slice Ar rs.length cr).ownBlock ≠ some (w.heap.size + 1) := own_map (m := 0) HRK.out.pk HRK.out.roots
        have r3 : ∀ g, (Value.slice Ar rs.length cr).ownBlock = some g → (Value.slice An ps.length cn).ownBlock ≠ some g := own_types HRK.out.roots HRK.out.pk.nodes (by decide)
        exact (owns_chg (w := wk.drew) HRK.out.roots hc (fun g hg hx => by
          rcases hx with rfl | rfl | hx
          · exact r1 hg
          · exact r2 hg
          · exact r3 g hg hx)).alloc o
      have HNX : Hid (∀ (w5 w6 : World) (nv5 rv6 : Value) (ps5 : List PX) (D5 : DataW Unit) (R5 : Nat → Prop) (k : Nat) (o : Obj), T.put t.plain (ps.map PX.plain) = (ps5.map PX.plain, k) → Pk w5 (w.heap.size + 1) (w.heap.size + 1 + 1) (w.heap.size + 1) nv5 (.slice Ar rs.length cr) ps5 D5 R5 → Chg wk.drew w5 (PkM (w.heap.size + 1 + 1) (w.heap.size + 1) (.slice An ps.length cn)) → (∀ i, R5 i → R i ∨ wk.drew.heap.size ≤ i) → (∀ g, nv5.ownBlock = some g → (Value.slice An ps.length cn).ownBlock = some g ∨ wk.drew.heap.size ≤ g) → w6.ownsRow (w.heap.size + 1) 3 1 rv6 (rs.length + 1) (rs.map (Value.int .i64) ++ [.int .i64 (k : Int)]) → Grows (w5.alloc o) w6 (.slice Ar rs.length cr) rv6 → MkRel w (w6.setCell ⟨w.heap.size + 1 + 1, 1, none⟩ rv6) ts (w.heap.size + 1 + 1) (w.heap.size + 1) (j + 1) nv5 rv6 ps5 D5 R5 (rs ++ [(k : Int)])) := fun w5 w6 nv5 rv6 ps5 D5 R5 k o h1 h2 h3 h4 h5 h6 h7 =>
        (HRK.out.below B0.out).step HT1.out h1 h2 h3 h4 h5 o h6 h7
      have HZ5 : Hid (∀ (w5 : World) (o : Obj), Chg wk.drew w5 (PkM (w.heap.size + 1 + 1) (w.heap.size + 1) (.slice An ps.length cn)) → w.heap.size + 1 ≤ (w5.alloc o).heap.size) := fun w5 o hc => by have h1 := hc.size; have h2 := HRK.out.bel.size; have h3 := HRK.out.pk.lt_pb; simp at h1 ⊢; omega
      have HM1 : Hid (rs.length + 1 ≤ maxLen) := by unfold Hid maxLen; omega
      have HM2 : Hid ((rs.length + 1) * 8 ≤ 140737488355328) := by unfold Hid; omega
      clear ht hcell
      go_wp2_with fail
      clear e0 e1 e2 e3
      rw [late_load _ 19]
      go_region_held3 (fun w' => w'.cell? ⟨wr.heap.size, 0, none⟩ = some (.int .i64 t.kind) ∧ w'.cell? ⟨wr.heap.size, 1, none⟩ = some (.string t.text) ∧ w'.cell? ⟨wr.heap.size, 2, none⟩ = some (.slice t.lA t.leads.length t.lc) ∧ w'.cell? ⟨wr.heap.size, 3, none⟩ = some (.slice t.kA t.kids.length t.kc))
        (first | (with_reducible exact (HC1.out _ B0.out).2) | (with_reducible exact (HC5.out _ _ _ _ _ PK5.out CH5.out _ (Below.refl _ _)).2) | (with_reducible exact (HC5.out _ _ _ _ _ PK5.out CH5.out _ (bal (Below.refl _ _) _)).2) | (with_reducible exact HG7.out.2.2.1) | (with_reducible exact HG7.out.2.2.2 _))
        (first
          | (refine step_append_row _ rfl (.tmp 20) (.tmp 24) 27 27 rfl (w.heap.size + 1) 3 i0 (.int .i64 0) 1 8 Tryd.underlying27 HI.out HZ0.out HZ1.out HZ2.out rfl (by decide) (.slice Ar rs.length cr) rs.length (rs.map (Value.int .i64)) rfl (HOW.out _ _ CH5.out) (.slice (some ⟨w5.heap.size, 0, none⟩) 1 1) 1 [.int .i64 (k5 : Int)] rfl (src_new w5 Tryd.underlying27 [.int .i64 (k5 : Int)] 1 1 1 3 rfl (one_i64 _)) HM1.out HM2.out (HZ5.out _ _ CH5.out) ?_; intro v6 w6 ho6 hg6; obtain ⟨A6, c6, rfl, -, -⟩ := reads_of_owns ho6; have HO6 := Lib.hid ho6; have HGR := Lib.hid hg6; have HG7 := Lib.hid (HC6.out _ _ _ _ _ _ _ _ PK5.out CH5.out hg6); have c60 := HG7.out.1; have z60 := HG7.out.2.1; clear ho6 hg6)
          | (go_at_call 38; refine (HC.out _ B0.out).mono ?_; rintro e w5 ⟨nv5, ps5, D5, R5, k5, rfl, hp5, hpk5, hch5, hR5, hN5⟩; have HP5 := Lib.hid hp5; have PK5 := Lib.hid hpk5; have CH5 := Lib.hid hch5; have HR5 := Lib.hid hR5; have HN5 := Lib.hid hN5; have c50 := (HC5.out _ _ _ _ _ hpk5 hch5 _ (Below.refl _ _)).1; have c5a := (HC5.out _ _ _ _ _ hpk5 hch5 _ (bal (Below.refl _ _) (.cells #[.int .i64 (k5 : Int)] 3))).1; clear hp5 hpk5 hch5 hR5 hN5))
      all_goals
        have HS5 := Lib.hid (HNX.out _ _ _ _ _ _ _ _ _ HP5.out PK5.out CH5.out HR5.out HN5.out HO6.out HGR.out)
        clear c00 c50 c5a c60 z60
        go_wp2_with fail
        go_roundw
        case rel => exact ⟨j + 1, _, _, _, _, _, _, by omega, by go_num, HS5⟩
        case measure => simp [intOf]; omega
    · obtain rfl : j = n := by omega
      have hrr : MkRel w wr ts (w.heap.size + 1 + 1) (w.heap.size + 1) ts.length (.slice An ps.length cn) (.slice Ar rs.length cr) ps D R rs := by rw [HN.out]; exact HR.out
      have HD := Lib.hid (hrr.done HG.out HS.out)
      obtain ⟨m0, m1, m2⟩ := HR.out.pk.cell
      have z0 := HR.out.box.frozen 0
      have z1 := HR.out.box.frozen 1
      have y0 := HR.out.box.cell 0
      have y1 := HR.out.box.cell 1
      simp at y0 y1
      have HXE : Hid (Blk ((wr.setCell ⟨w.heap.size, 0, none⟩ (.slice An ps.length cn)).setCell ⟨w.heap.size, 1, none⟩ (.slice Ar rs.length cr)) w.heap.size 29 #[.slice An ps.length cn, .slice Ar rs.length cr]) := (HR.out.box.set_ 0 _).set_ 1 _
      have x0 := HXE.out.cell 0
      have x1 := HXE.out.cell 1
      simp at x0 x1
      clear hrr m2
      go_wp2_with fail
      refine bodyPost_ret (v := .agg #[.slice An ps.length cn, .slice Ar rs.length cr]) (by simp [results, Tryd.results13, go_sem, x0, x1]) rfl ?_
      exact HD.out
end Go.Proofs.YtdabmjcpiblofaaDoor
