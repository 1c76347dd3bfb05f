/-
  Make, the reference's. No condition.
-/
import Derived.Test.YtdabmjcpiblofaaDoorPkOa
namespace Go.Proofs.YtdabmjcpiblofaaDoor
open Go.RowKit
set_option linter.unusedVariables false

/-- what the reference's Make knows between two trees -/
structure RMk (w wr : World) (ts : List TX) (j : Nat) (lv : Value) (ps : List PX) (R : Nat → Prop) (rv : Value) (rs : List Int) : Prop where
  nr : NR wr w.heap.size lv ps R
  put : T.puts ((ts.take j).map TX.plain) [] = (ps.map PX.plain, rs)
  roots : wr.ownsRow w.heap.size 3 1 rv rs.length (rs.map (Value.int .i64))
  rvR : ∀ g, rv.ownBlock = some g → ¬ R g
  bel : Below w.heap.size w wr
  b0 : Blk wr w.heap.size 29 #[.slice none 0 0, .slice none 0 0]
  b1 : Blk wr (w.heap.size + 1) 29 #[lv, rv]
  l0 : ∀ i, R i → w.heap.size + 2 ≤ i
section
variable {w wr w5 w6 : World} {ts : List TX} {j k : Nat} {lv rv v5 v6 : Value} {ps ps5 : List PX} {R R5 : Nat → Prop} {rs : List Int} {t : TX}
theorem RMk.len (h : RMk w wr ts j lv ps R rv rs) (hj : j ≤ ts.length) : rs.length = j := by
  have h1 := puts_len ((ts.take j).map TX.plain) []
  rw [h.put] at h1
  simpa [List.length_take, Nat.min_eq_left hj] using h1
/-- the nodes are stored -/
theorem RMk.nodes (h : RMk w wr ts j lv ps R rv rs) (hn : NR w5 w.heap.size v5 ps5 R5) (hg : Grows wr w5 lv v5) (hR : ∀ i, R5 i → R i ∨ wr.heap.size ≤ i) (hp : T.put t.plain (ps.map PX.plain) = (ps5.map PX.plain, k)) :
    NR (w5.setCell ⟨w.heap.size + 1, 0, none⟩ v5) w.heap.size v5 ps5 R5 ∧ (w5.setCell ⟨w.heap.size + 1, 0, none⟩ v5).ownsRow w.heap.size 3 1 rv rs.length (rs.map (Value.int .i64)) ∧ (∀ g, rv.ownBlock = some g → ¬ R5 g) ∧ Below w.heap.size w (w5.setCell ⟨w.heap.size + 1, 0, none⟩ v5) ∧
      Blk (w5.setCell ⟨w.heap.size + 1, 0, none⟩ v5) w.heap.size 29 #[.slice none 0 0, .slice none 0 0] ∧ Blk (w5.setCell ⟨w.heap.size + 1, 0, none⟩ v5) (w.heap.size + 1) 29 #[v5, rv] ∧ (∀ i, R5 i → w.heap.size + 2 ≤ i) := by
  have hz5 := hg.size
  have l1 := h.b1.lt
  have rl := own_lt h.roots
  have lvb0 : lv.ownBlock ≠ some w.heap.size := own_blk_ne h.nr.row h.b0 (by decide)
  have lvb1 : lv.ownBlock ≠ some (w.heap.size + 1) := own_blk_ne h.nr.row h.b1 (by decide)
  have rb1 : rv.ownBlock ≠ some (w.heap.size + 1) := own_blk_ne h.roots h.b1 (by decide)
  have rn := own_types h.roots h.nr.row (by decide)
  have hb05 := hg.blk h.b0 lvb0
  have hb15 := hg.blk h.b1 lvb1
  have v5b1 : v5.ownBlock ≠ some (w.heap.size + 1) := own_blk_ne hn.row hb15 (by decide)
  have hR5 : ∀ i, R5 i → w.heap.size + 2 ≤ i := fun i hi => by
    rcases hR i hi with h1 | h1
    · exact h.l0 i h1
    · omega
  have hc : Chg w5 (w5.setCell ⟨w.heap.size + 1, 0, none⟩ v5) (fun i => i = w.heap.size + 1) := (Chg.refl w5 (fun i => i = w.heap.size + 1)).setCell (p := ⟨w.heap.size + 1, 0, none⟩) (.inl rfl) v5
  have ho5 : w5.ownsRow w.heap.size 3 1 rv rs.length (rs.map (Value.int .i64)) := h.roots.kept hg.grown (by
    cases hq : rv.ownBlock with
    | none => exact .inl rfl
    | some g => exact .inr (fun e => rn g hq e.symm))
  refine ⟨hn.chg hc (fun g hg' e => v5b1 (by rw [hg', e])) (fun i hi e => by have := hR5 i hi; omega) (fun i hi => by omega), owns_chg ho5 hc (fun g hg' e => rb1 (by rw [hg', e])), fun g hg' hx => ?_, ?_, hb05.chg hc (fun e => by omega), hb15.set_ 0 v5, hR5⟩
  · rcases hR g hx with h1 | h1
    · exact h.rvR g hg' h1
    · have := rl g hg'; omega
  · have h1 := own_from h.nr.row
    exact (h.bel.grown hg.grown h.bel.size (fun g hg' => h1 g hg')).setCell (p := ⟨w.heap.size + 1, 0, none⟩) (by show w.heap.size ≤ w.heap.size + 1; omega) _
/-- the root is stored -/
theorem RMk.step {o : Obj} (ht : ts[j]? = some t) (hput : T.puts ((ts.take j).map TX.plain) [] = (ps.map PX.plain, rs)) (hp : T.put t.plain (ps.map PX.plain) = (ps5.map PX.plain, k))
    (hn : NR w5 w.heap.size v5 ps5 R5) (hr : w5.ownsRow w.heap.size 3 1 rv rs.length (rs.map (Value.int .i64))) (hrR : ∀ g, rv.ownBlock = some g → ¬ R5 g) (hb : Below w.heap.size w w5) (h0 : Blk w5 w.heap.size 29 #[.slice none 0 0, .slice none 0 0]) (h1 : Blk w5 (w.heap.size + 1) 29 #[v5, rv]) (hl0 : ∀ i, R5 i → w.heap.size + 2 ≤ i)
    (ho : w6.ownsRow w.heap.size 3 1 v6 (rs.length + 1) (rs.map (Value.int .i64) ++ [.int .i64 (k : Int)])) (hg : Grows (w5.alloc o) w6 rv v6) :
    RMk w (w6.setCell ⟨w.heap.size + 1, 1, none⟩ v6) ts (j + 1) v5 ps5 R5 v6 (rs ++ [(k : Int)]) := by
  have hz := hg.size
  have hsz : (w5.alloc o).heap.size = w5.heap.size + 1 := by simp
  have l1 := h1.lt
  have rb1 : rv.ownBlock ≠ some (w.heap.size + 1) := own_blk_ne hr h1 (by decide)
  have rb0 : rv.ownBlock ≠ some w.heap.size := own_blk_ne hr h0 (by decide)
  have rn := own_types hr hn.row (by decide)
  have hc6 : Chg w5 w6 (fun i => rv.ownBlock = some i) := (Chg.of_new (bal (Below.refl _ w5) o) _).trans (Chg.of_grown hg.grown (fun g e => e)) (fun i _ e => e)
  have hc : Chg w5 (w6.setCell ⟨w.heap.size + 1, 1, none⟩ v6) (fun i => rv.ownBlock = some i ∨ i = w.heap.size + 1) := (hc6.mono (fun i e => .inl e)).setCell (p := ⟨w.heap.size + 1, 1, none⟩) (.inl (.inr rfl)) v6
  have v5b1 : v5.ownBlock ≠ some (w.heap.size + 1) := own_blk_ne hn.row h1 (by decide)
  have rge := own_from hr
  have hb16 := h1.chg hc6 rb1
  have v6b1 : v6.ownBlock ≠ some (w.heap.size + 1) := own_blk_ne ho hb16 (by decide)
  have hc2 : Chg w6 (w6.setCell ⟨w.heap.size + 1, 1, none⟩ v6) (fun i => i = w.heap.size + 1) := (Chg.refl w6 (fun i => i = w.heap.size + 1)).setCell (p := ⟨w.heap.size + 1, 1, none⟩) (.inl rfl) v6
  refine ⟨hn.chg hc (fun g hg' e => ?_) (fun i hi e => ?_) (fun i hi => ?_), ?_, ?_, fun g hg' hx => ?_, hb.trans (hc.below hb.size (fun i hi => ?_)), (h0.chg hc6 rb0).chg hc2 (fun e => by omega), hb16.set_ 1 v6, hl0⟩
  · rcases e with e | e
    · exact rn g e hg'
    · exact v5b1 (by rw [hg', e])
  · rcases e with e | e
    · exact hrR i e hi
    · have := hl0 i hi; omega
  · rcases hi with hi | hi
    · exact rge i hi
    · omega
  · rw [take_snoc' ht, List.map_append, List.map_cons, List.map_nil, puts_snoc, hput, hp]
  · rw [List.length_append, List.length_singleton, List.map_append]
    exact owns_chg ho hc2 (fun g hg' e => v6b1 (by rw [hg', e]))
  · rcases hg.own g hg' with h2 | h2
    · exact hrR g h2 hx
    · have := (hn.apart g hx).2.2; omega
  · rcases hi with hi | hi
    · exact rge i hi
    · omega
theorem RMk.done (h : RMk w wr ts ts.length lv ps R rv rs) (hs : T.sizes (ts.map TX.plain) ≤ 1000000) : MakePost w (T.puts (ts.map TX.plain) []).1 (T.puts (ts.map TX.plain) []).2 (.returned (.agg #[lv, rv])) ((wr.setCell ⟨w.heap.size, 0, none⟩ lv).setCell ⟨w.heap.size, 1, none⟩ rv) := by
  have hput := h.put
  rw [List.take_length] at hput
  have hsz := (T.puts_size (ts.map TX.plain) []).2
  have hpl := puts_len (ts.map TX.plain) []
  have hsm := puts_small (ts.map TX.plain) []
  have hls := len_sizes (ts.map TX.plain)
  rw [hput] at hsz hpl hsm ⊢
  simp only [List.length_nil, List.length_map, Nat.zero_add] at hsz hpl hsm hls
  have hc : Chg wr ((wr.setCell ⟨w.heap.size, 0, none⟩ lv).setCell ⟨w.heap.size, 1, none⟩ rv) (fun i => i = w.heap.size) := ((Chg.refl wr (fun i => i = w.heap.size)).setCell (p := ⟨w.heap.size, 0, none⟩) (.inl rfl) lv).setCell (p := ⟨w.heap.size, 1, none⟩) (.inl rfl) rv
  have hz := h.bel.size
  have n1 : lv.ownBlock ≠ some w.heap.size := own_blk_ne h.nr.row h.b0 (by decide)
  have n2 : rv.ownBlock ≠ some w.heap.size := own_blk_ne h.roots h.b0 (by decide)
  have hn' := h.nr.chg hc (fun g hg e => n1 (by rw [hg, e])) (fun i hi e => by have := h.l0 i hi; omega) (fun i hi => by omega)
  have hr' := owns_chg h.roots hc (fun g hg e => n2 (by rw [hg, e]))
  obtain ⟨An, cn, e1, hrn, -⟩ := reads_of_owns hn'.row
  obtain ⟨Ar, cr, e2, hrr, -⟩ := reads_of_owns hr'
  refine ⟨⟨An, ps, cn, Ar, rs, cr⟩, by rw [e1, e2]; rfl, rfl, rfl, ⟨hrn, hrr, hn'.ok, by show ps.length ≤ _; omega, by show rs.length ≤ _; omega, fun r hr => ?_⟩, h.bel.trans (hc.below hz (fun i hi => by omega))⟩
  have := hsm r hr
  exact ⟨by omega, by omega⟩
end
theorem RMk.start (w : World) (ts : List TX) : RMk w ((w.alloc (.cells #[.slice none 0 0, .slice none 0 0] 29)).alloc (.cells #[.slice none 0 0, .slice none 0 0] 29)) ts 0 (.slice none 0 0) [] (fun _ => False) (.slice none 0 0) [] := by
  obtain ⟨wa, hwa⟩ : ∃ wa, w.alloc (.cells #[.slice none 0 0, .slice none 0 0] 29) = wa := ⟨_, rfl⟩
  have hz : wa.heap.size = w.heap.size + 1 := by subst hwa; simp
  have hbx : Blk wa w.heap.size 29 #[.slice none 0 0, .slice none 0 0] := by subst hwa; exact Blk.new w _ _
  have hb : Below w.heap.size w wa := by subst hwa; exact bal (Below.refl _ _) _
  rw [hwa]
  have h2 := Blk.new wa 29 #[.slice none 0 0, .slice none 0 0]
  rw [hz] at h2
  exact ⟨NR.nil _ _ (by simp; omega), rfl, ⟨rfl, .inl ⟨rfl, rfl⟩⟩, (fun g hg h => h), bal hb _, hbx.alloc _, h2, fun i h => h.elim⟩
set_option maxRecDepth 100000 in
set_option maxHeartbeats 3200000 in
theorem refMake_any (A : Option Addr) (c : Nat) (ts : List TX) (w : World) (h : LT w A ts) (hs : T.sizes (ts.map TX.plain) ≤ 1000000) :
    Calls Tryd.prog 14 #[.slice A ts.length c] w (MakePost w (T.puts (ts.map TX.plain) []).1 (T.puts (ts.map TX.plain) []).2) := by
  obtain ⟨n, hn⟩ : ∃ n, ts.length = n := ⟨_, rfl⟩
  have hls := len_sizes (ts.map TX.plain)
  rw [List.length_map, hn] at hls
  have hrt := h.1
  rw [hn] at hrt ⊢
  have HS := Lib.hid hs
  have H := Lib.hid h
  have HN := Lib.hid hn
  have HRT := Lib.hid hrt
  have hnb : n ≤ 1000000 := Nat.le_trans hls hs
  obtain ⟨i0, hi, hz0, hz1, hz2⟩ := info_parts intInfo
  have HI := Lib.hid hi
  have HZ0 := Lib.hid hz0
  have HZ1 := Lib.hid hz1
  have HZ2 := Lib.hid hz2
  have HST := Lib.hid (RMk.start w ts)
  clear h hn hrt hs hi hz0 hz1 hz2 hls
  go_enter Tryd.func14, Tryd.ntmps14
  go_wp2_with fail
  go_loopw [4] (fun i wr => ∃ (j : Nat) (lv rv : Value) (ps : List PX) (R : Nat → Prop) (rs : List Int), j ≤ n ∧ i = .int .i64 (j : Int) ∧ Hid (RMk w wr ts j lv ps R rv rs)) (fun i _ => n - (intOf i).toNat)
  case atStart => exact ⟨0, _, _, _, _, _, by omega, rfl, HST⟩
  case round =>
    obtain ⟨j, lv, rv, ps, R, rs, hj, rfl, HR⟩ := hrel
    obtain ⟨An, cn, rfl, -, -⟩ := reads_of_owns HR.out.nr.row
    obtain ⟨Ar, cr, rfl, -, -⟩ := reads_of_owns HR.out.roots
    have hzr := HR.out.bel.size
    have hb1l := HR.out.b1.lt
    by_cases hlt : j < n
    · obtain ⟨t, ht⟩ : ∃ t, ts[j]? = some t := ⟨_, List.getElem?_eq_getElem (by rw [HN.out]; exact hlt)⟩
      obtain ⟨ab, ao, hA, hab, hcell⟩ := HRT.out.head (by omega) (by omega)
      have HSK : Hid (∀ w', Below w.heap.size w w' → w'.cell? ⟨ab, ao + j * 4, none⟩ = some (.int .i64 t.kind) ∧ w'.cell? ⟨ab, ao + j * 4 + 1, none⟩ = some (.string t.text) ∧ w'.cell? ⟨ab, ao + j * 4 + 2, none⟩ = some (.slice t.lA t.leads.length t.lc) ∧ w'.cell? ⟨ab, ao + j * 4 + 3, none⟩ = some (.slice t.kA t.kids.length t.kc)) := fun w' hw => by
        have e0 := hcell (j * 4) _ (flat_at TX.cells_len ts j 0 t ht (by omega))
        have e1 := hcell (j * 4 + 1) _ (flat_at TX.cells_len ts j 1 t ht (by omega))
        have e2 := hcell (j * 4 + 2) _ (flat_at TX.cells_len ts j 2 t ht (by omega))
        have e3 := hcell (j * 4 + 3) _ (flat_at TX.cells_len ts j 3 t ht (by omega))
        rw [← Nat.add_assoc] at e1 e2 e3
        exact ⟨(hw.cell hab).trans e0, (hw.cell hab).trans e1, (hw.cell hab).trans e2, (hw.cell hab).trans e3⟩
      subst hA
      have HT1 := Lib.hid ht
      have HTR := Lib.hid (H.out.2 t (List.mem_of_getElem? ht))
      have HLN := Lib.hid (HR.out.len (by rw [HN.out]; omega))
      have HBL := Lib.hid HR.out.bel
      have HSZ : Hid (ps.length + t.plain.size ≤ 1000000) := by
        have h1 := (T.puts_size ((ts.take j).map TX.plain) []).2
        rw [HR.out.put] at h1
        simp only [List.length_nil, List.length_map, Nat.zero_add] at h1
        have h2 := sizes_take ht
        have h3 := HS.out
        unfold Hid
        omega
      have HBD : Hid (Below w.heap.size w wr.drew) := below_drewN HR.out.bel 1
      have hC := put_any w.heap.size t wr.drew An cn ps R (HR.out.nr.below (below_drewN (Below.refl _ wr) 1)) (HTR.out.1.low HBD.out) HTR.out.2 HSZ.out
      unfold TX.val at hC
      have HC := Lib.hid hC
      have HB1 : Hid (Blk wr.drew (w.heap.size + 1) 29 #[.slice An ps.length cn, .slice Ar rs.length cr]) := HR.out.b1.drew
      have c00 : wr.drew.cell? ⟨w.heap.size + 1, 0, none⟩ = some (.slice An ps.length cn) := by rw [HB1.out.cell]; rfl
      have HNX : Hid (∀ (w5 : World) (v5 : Value) (ps5 : List PX) (R5 : Nat → Prop) (k : Nat), NR w5 w.heap.size v5 ps5 R5 → Grows wr.drew w5 (.slice An ps.length cn) v5 → (∀ i, R5 i → R i ∨ wr.drew.heap.size ≤ i) → T.put t.plain (ps.map PX.plain) = (ps5.map PX.plain, k) → NR (w5.setCell ⟨w.heap.size + 1, 0, none⟩ v5) w.heap.size v5 ps5 R5 ∧ (w5.setCell ⟨w.heap.size + 1, 0, none⟩ v5).ownsRow w.heap.size 3 1 (.slice Ar rs.length cr) rs.length (rs.map (Value.int .i64)) ∧ (∀ g, (Value.slice Ar rs.length cr).ownBlock = some g → ¬ R5 g) ∧ Below w.heap.size w (w5.setCell ⟨w.heap.size + 1, 0, none⟩ v5) ∧
          Blk (w5.setCell ⟨w.heap.size + 1, 0, none⟩ v5) w.heap.size 29 #[.slice none 0 0, .slice none 0 0] ∧ Blk (w5.setCell ⟨w.heap.size + 1, 0, none⟩ v5) (w.heap.size + 1) 29 #[v5, .slice Ar rs.length cr] ∧ (∀ i, R5 i → w.heap.size + 2 ≤ i)) := fun w5 v5 ps5 R5 k h1 h2 h3 h4 => by
        have hd : RMk w wr.drew ts j (.slice An ps.length cn) ps R (.slice Ar rs.length cr) rs := ⟨HR.out.nr.below (below_drewN (Below.refl _ wr) 1), HR.out.put, HR.out.roots, HR.out.rvR, HBD.out, HR.out.b0.drew, HR.out.b1.drew, HR.out.l0⟩
        exact hd.nodes h1 h2 h3 h4
      have HK5 : Hid (∀ (w5 : World) (v5 : Value), Grows wr.drew w5 (.slice An ps.length cn) v5 → w5.cell? ⟨w.heap.size + 1, 0, none⟩ = some (.slice An ps.length cn) ∧ w5.frozen? ⟨w.heap.size + 1, 0, none⟩ = false ∧ Below w.heap.size w w5) := fun w5 v5 hg => by
        have h1 := hg.blk HB1.out (own_blk_ne HR.out.nr.row HR.out.b1 (by decide))
        have h2 := own_from HR.out.nr.row
        exact ⟨by rw [h1.cell]; rfl, h1.frozen 0, HBD.out.grown hg.grown HBD.out.size (fun g hg' => h2 g hg')⟩
      have i0' : (0 : Int) ≤ (j : Int) := by omega
      have i1' : (j : Int) < (n : Int) := by omega
      have hrsl : rs.length ≤ 1000000 := by rw [HLN.out]; omega
      clear ht hcell hC
      go_wp2_with fail
      go_upto_region 7 with fail
      go_cut [5] (fun kv wk => ∃ (k : Nat) (A5 : Option Addr) (c5 : Nat) (ps5 : List PX) (R5 : Nat → Prop), kv = .int .i64 (k : Int) ∧ Hid (T.put t.plain (ps.map PX.plain) = (ps5.map PX.plain, k)) ∧ Hid (NR wk w.heap.size (.slice A5 ps5.length c5) ps5 R5 ∧ wk.ownsRow w.heap.size 3 1 (.slice Ar rs.length cr) rs.length (rs.map (Value.int .i64)) ∧ (∀ g, (Value.slice Ar rs.length cr).ownBlock = some g → ¬ R5 g) ∧ Below w.heap.size w wk ∧ Blk wk w.heap.size 29 #[.slice none 0 0, .slice none 0 0] ∧ Blk wk (w.heap.size + 1) 29 #[.slice A5 ps5.length c5, .slice Ar rs.length cr] ∧ (∀ i, R5 i → w.heap.size + 2 ≤ i)))
      case first =>
        rw [late_load _ 13]
        go_region_held3 (fun w' => w'.cell? ⟨ab, ao + j * 4, none⟩ = some (.int .i64 t.kind) ∧ w'.cell? ⟨ab, ao + j * 4 + 1, none⟩ = some (.string t.text) ∧ w'.cell? ⟨ab, ao + j * 4 + 2, none⟩ = some (.slice t.lA t.leads.length t.lc) ∧ w'.cell? ⟨ab, ao + j * 4 + 3, none⟩ = some (.slice t.kA t.kids.length t.kc))
          (first | (with_reducible exact HSK.out _ HBD.out) | (with_reducible exact HSK.out _ K5.out.2.2) | (with_reducible exact HSK.out _ N5.out.2.2.2.1))
          ((go_at_call 39; refine (HC.out).mono ?_; rintro e w5 ⟨A5, c5, ps5, R5, k5, rfl, hp5, hn5, hg5, hR5⟩; have HP5 := Lib.hid hp5; have N5 := Lib.hid (HNX.out _ _ _ _ _ hn5 hg5 hR5 hp5); have K5 := Lib.hid (HK5.out _ _ hg5); have c50 := K5.out.1; have z50 := K5.out.2.1; clear hp5 hn5 hg5 hR5))
        all_goals
          go_wp2_with fail
          go_meet
          exact ⟨_, _, _, _, _, rfl, HP5, N5⟩
      case rest =>
        obtain ⟨k5, A5, c5, ps5, R5, rfl, HP5, N5⟩ := hcut
        obtain ⟨w8, rfl⟩ : ∃ wo : World, wo = wc := ⟨_, rfl⟩
        obtain ⟨hn8, hr8, hrR8, hb8, h08, h18, hl8⟩ := N5.out
        have d1 := h18.cell 1
        simp at d1
        have HO8 := Lib.hid hr8
        have hz8 := hb8.size
        clear hn8 hr8 hrR8 hb8 h08 h18 hl8 c00
        go_wp2_with (at_builtin; refine wpList_append_row _ rfl (.tmp 24) (.tmp 26) 27 27 rfl w.heap.size 3 i0 (.int .i64 0) 1 8 Tryd.underlying27 HI.out HZ0.out HZ1.out HZ2.out rfl (by decide) (.slice Ar rs.length cr) rs.length (rs.map (Value.int .i64)) rfl (HO8.out.alloc _) (.slice (some ⟨w8.heap.size, 0, none⟩) 1 1) 1 [.int .i64 (k5 : Int)] rfl (src_new w8 Tryd.underlying27 [.int .i64 (k5 : Int)] 1 1 1 3 rfl (one_i64 _)) ?c1 ?c2 ?c3 ?_)
        case c1 => unfold maxLen; omega
        case c2 => omega
        case c3 => simp; omega
        intro v6 w6 ho6 hg6
        obtain ⟨A6, c6, rfl, -, -⟩ := reads_of_owns ho6
        have hb16 : Blk w6 (w.heap.size + 1) 29 #[.slice A5 ps5.length c5, .slice Ar rs.length cr] := hg6.blk (N5.out.2.2.2.2.2.1.alloc _) (own_blk_ne HO8.out N5.out.2.2.2.2.2.1 (by decide))
        have y1 := hb16.cell 1
        simp at y1
        have z1 := hb16.frozen 1
        have HS6 := Lib.hid (RMk.step HT1.out HR.out.put HP5.out N5.out.1 HO8.out N5.out.2.2.1 N5.out.2.2.2.1 N5.out.2.2.2.2.1 N5.out.2.2.2.2.2.1 N5.out.2.2.2.2.2.2 ho6 hg6)
        clear ho6 hg6 hb16 d1
        go_wp2_with fail
        go_roundw
        case rel => exact ⟨j + 1, _, _, _, _, _, by omega, by go_num, HS6⟩
        case measure => simp [intOf]; omega
    · obtain rfl : j = n := by omega
      have hrr : RMk w wr ts ts.length (.slice An ps.length cn) ps R (.slice Ar rs.length cr) rs := by rw [HN.out]; exact HR.out
      have HD := Lib.hid (hrr.done HS.out)
      have m0 := HR.out.b1.cell 0
      have m1 := HR.out.b1.cell 1
      have z0 := HR.out.b0.frozen 0
      have z1 := HR.out.b0.frozen 1
      have y0 := HR.out.b0.cell 0
      have y1 := HR.out.b0.cell 1
      simp at m0 m1 y0 y1
      have HXE : Hid (Blk ((wr.setCell ⟨w.heap.size, 0, none⟩ (.slice An ps.length cn)).setCell ⟨w.heap.size, 1, none⟩ (.slice Ar rs.length cr)) w.heap.size 29 #[.slice An ps.length cn, .slice Ar rs.length cr]) := (HR.out.b0.set_ 0 _).set_ 1 _
      have x0 := HXE.out.cell 0
      have x1 := HXE.out.cell 1
      simp at x0 x1
      clear hrr
      go_wp2_with fail
      refine bodyPost_ret (v := .agg #[.slice An ps.length cn, .slice Ar rs.length cr]) (by simp [results, Tryd.results14, go_sem, x0, x1]) rfl ?_
      exact HD.out
end Go.Proofs.YtdabmjcpiblofaaDoor
