/-
  The program's Copy. No condition.
-/
import Derived.Test.YtgblcjoalgckkaaDkZa
namespace Go.Proofs.Ytgblcjoalgckkaa
open Go.RowKit
set_option linter.unusedVariables false

theorem ok_take {s : DS} (h : s.ok) (k : Nat) : DS.ok { s with wait := s.wait.take k } := ⟨h.lo, h.hi, h.byt, by have := h.few; simp; omega, fun p hp => h.fit p (List.mem_of_mem_take hp)⟩
theorem wait_take {s : DS} {k : Nat} {x : Nat × List Nat} (h : s.wait[k]? = some x) : s.wait.take k ++ [x] = s.wait.take (k + 1) := by rw [List.take_add_one, h]; rfl

set_option maxRecDepth 100000 in
set_option maxHeartbeats 3200000 in
theorem copy_any (d : Nat) (s : DS) (M I : Nat → Prop) (w : World) (h : DiskAt w d s M I) :
    Calls Try.prog 22 #[.pointer (some ⟨d, 0, none⟩)] w (CopyPost w s) := by
  obtain ⟨gd, gs, cd, cs, v, left, ws, h⟩ := h
  obtain ⟨c0, c1, c2, c3, c4, c5⟩ := h.cells
  obtain ⟨Av, cv, hv⟩ := h.waits.slice
  subst hv
  have HX := Lib.hid h
  have hN := h.ok.hi
  have hN0 := h.ok.lo
  have hlt : d < w.heap.size := h.blk.lt
  obtain ⟨W1, hW1⟩ : ∃ W1, w.alloc (.cells #[.slice none 0 0, .slice none 0 0, .slice none 0 0, .bool s.off, .bool s.fuse.isSome, .int .i64 left] 59) = W1 := ⟨_, rfl⟩
  have hb1 : Below w.heap.size w W1 := by subst hW1; exact (Below.refl _ w).alloc (Nat.le_refl _) _
  have hk1 : Blk W1 w.heap.size 59 #[.slice none 0 0, .slice none 0 0, .slice none 0 0, .bool s.off, .bool s.fuse.isSome, .int .i64 left] := by subst hW1; exact Blk.new w 59 _
  have hs1 : W1.heap.size = w.heap.size + 1 := by subst hW1; simp
  obtain ⟨N, hNN⟩ : ∃ N, s.dur.length = N := ⟨_, rfl⟩
  have hseen : (seenL s.dur s.wait).length = N := by rw [← hNN]; exact seen_len _ _ h.ok.fit rfl
  have hd1 : Reads W1 w.heap.size 1 (some ⟨gd, 0, none⟩) s.dur.length (s.dur.map byt) := by
    have := h.dur.reads 0 s.dur.length (by omega)
    rw [List.drop_zero, List.take_length] at this
    exact this.below hb1
  have hse1 : Reads w w.heap.size 1 (some ⟨gs, 0, none⟩) (seenL s.dur s.wait).length ((seenL s.dur s.wait).map byt) := by
    have := h.seen.reads 0 (seenL s.dur s.wait).length (by omega)
    rw [List.drop_zero, List.take_length] at this
    exact this
  have hc1 := clone_row (some ⟨gd, 0, none⟩) cd w.heap.size s.dur W1 (by omega) (by omega) hd1 hb1.size
  rw [hNN] at hc1 c0 c1
  have HC1 := Lib.hid hc1
  have HSE1 := Lib.hid hse1
  have HB1 := Lib.hid hb1
  have HK1 := Lib.hid hk1
  have HNN := Lib.hid hNN
  have HSEEN := Lib.hid hseen
  have d0 : W1.cell? ⟨d, 0, none⟩ = some (.slice (some ⟨gd, 0, none⟩) N cd) := (hb1.cell hlt).trans c0
  have n1 : d ≠ w.heap.size := by omega
  have n2 : w.heap.size ≠ d := by omega
  have HW1 := Lib.hid hW1
  have HS1 := Lib.hid hs1
  unfold CloneRow at HC1
  rw [hNN] at HC1
  go_enter Try.func22, Try.ntmps22
  clear h hc1 hse1 hb1 hk1 hNN hseen hd1 hs1
  go_wp2_with fail
  clear hW1
  have hS0 := HSEEN.out
  have hN1 := HNN.out
  have hNle : N ≤ 131072 ∧ 64 ≤ N := by omega
  clear hN1
  refine (HC1.out).mono ?_
  rintro e w2 ⟨g2, q2, rfl, hg2, hrow2, hb2⟩
  obtain ⟨D, hD⟩ : ∃ D, w.heap.size = D := ⟨_, rfl⟩
  have hD1 : D < W1.heap.size := by have := HS1.out; omega
  have hk2 := HK1.out.below hb2 (by rw [hD]; exact hD1)
  have hB2 : Below w.heap.size w w2 := HB1.out.trans (hb2.mono HB1.out.size)
  have f20 := hk2.frozen 0
  have k20 : w2.cell? ⟨w.heap.size, 0, none⟩ = some (.slice none 0 0) := hk2.cell 0
  obtain ⟨W3, hW3⟩ : ∃ W3, w2.setCell ⟨w.heap.size, 0, none⟩ (.slice (some ⟨g2, 0, none⟩) N q2) = W3 := ⟨_, rfl⟩
  have hk3 : Blk W3 w.heap.size 59 #[.slice (some ⟨g2, 0, none⟩) N q2, .slice none 0 0, .slice none 0 0, .bool s.off, .bool s.fuse.isSome, .int .i64 left] := by
    rw [← hW3]; simpa using hk2.set_ 0 (.slice (some ⟨g2, 0, none⟩) N q2)
  have hB3 : Below w.heap.size w W3 := by rw [← hW3]; exact hB2.setCell (p := ⟨w.heap.size, 0, none⟩) (Nat.le_refl _) _
  have d1 : W3.cell? ⟨d, 1, none⟩ = some (.slice (some ⟨gs, 0, none⟩) N cs) := (hB3.cell hlt).trans c1
  have hgne : g2 ≠ w.heap.size := hrow2.ne_ hk2 (by decide)
  have hrow3 : RowB W3 g2 q2 s.dur := by rw [← hW3]; exact hrow2.far (p := ⟨w.heap.size, 0, none⟩) hgne _
  have hc2 := clone_row (some ⟨gs, 0, none⟩) cs w.heap.size (seenL s.dur s.wait) W3 (by omega) (by omega) (HSE1.out.below hB3) hB3.size
  unfold CloneRow at hc2
  rw [HSEEN.out] at hc2
  have HC2 := Lib.hid hc2
  have HK3 := Lib.hid hk3
  have HB3 := Lib.hid hB3
  have HR3 := Lib.hid hrow3
  have HG2 : Hid (w.heap.size < g2) := by unfold Hid; omega
  have HW3 := Lib.hid hW3
  clear hD1 hD hk2 hB2 hk3 hB3 hgne hrow3 hc2 hb2 hS0 hrow2 hg2 d0
  go_wp2_with fail
  clear hW3 f20 k20 d1
  refine (HC2.out).mono ?_
  rintro e w4 ⟨g3, q3, rfl, hg3, hrow4, hb4⟩
  have hB4 : Below w.heap.size w w4 := HB3.out.trans (hb4.mono HB3.out.size)
  have hk4 := HK3.out.below hb4 HK3.out.lt
  have f41 := hk4.frozen 1
  have k41 : w4.cell? ⟨w.heap.size, 1, none⟩ = some (.slice none 0 0) := hk4.cell 1
  obtain ⟨W5, hW5⟩ : ∃ W5, w4.setCell ⟨w.heap.size, 1, none⟩ (.slice (some ⟨g3, 0, none⟩) N q3) = W5 := ⟨_, rfl⟩
  have hk5 : Blk W5 w.heap.size 59 #[.slice (some ⟨g2, 0, none⟩) N q2, .slice (some ⟨g3, 0, none⟩) N q3, .slice none 0 0, .bool s.off, .bool s.fuse.isSome, .int .i64 left] := by
    rw [← hW5]; simpa using hk4.set_ 1 (.slice (some ⟨g3, 0, none⟩) N q3)
  have hB5 : Below w.heap.size w W5 := by rw [← hW5]; exact hB4.setCell (p := ⟨w.heap.size, 1, none⟩) (Nat.le_refl _) _
  have d2 : W5.cell? ⟨d, 2, none⟩ = some (.slice Av ws.length cv) := (hB5.cell hlt).trans c2
  have h23 : g2 < g3 := Nat.lt_of_lt_of_le HR3.out.lt hg3
  have HCP : Hid (CpX W5 w.heap.size g2 g3 q2 q3 (.slice none 0 0) left [] { s with wait := s.wait.take 0 } (seenL s.dur s.wait) (fun b => b = w.heap.size ∨ b = g2 ∨ b = g3) (fun _ => False)) := by
    have hG := HG2.out
    refine ⟨by rw [show ({ s with wait := s.wait.take 0 } : DS).dur = s.dur from rfl, HNN.out]; exact hk5, ?_, ?_, by omega, .inl rfl, .inr (.inl rfl), .inr (.inr rfl), ⟨⟨rfl, .inl ⟨rfl, rfl⟩⟩, fun g hg => by simp [Value.ownBlock] at hg, fun x hx => by cases hx⟩, by simp, ok_take HX.out.ok 0, HX.out.fuse, HX.out.left, fun _ _ h => h, fun b hb => ?_⟩
    · show RowB W5 g2 q2 s.dur
      rw [← hW5]
      exact (HR3.out.below hb4 HR3.out.lt).far (p := ⟨w.heap.size, 1, none⟩) (by show g2 ≠ w.heap.size; omega) _
    · rw [← hW5]
      exact hrow4.far (p := ⟨w.heap.size, 1, none⟩) (by show g3 ≠ w.heap.size; omega) _
    · have h4 := hrow4.lt
      have h5 : W5.heap.size = w4.heap.size := by rw [← hW5]; simp [World.setCell]
      rcases hb with (rfl | rfl | rfl) | h
      · omega
      · omega
      · omega
      · exact h.elim
  have HM0 : Hid (∀ b, (b = w.heap.size ∨ b = g2 ∨ b = g3) → w.heap.size ≤ b) := fun b hb => by have := HG2.out; omega
  have HB5 := Lib.hid hB5
  have HW5 := Lib.hid hW5
  have hwl : ws.length ≤ 60 := by have := HX.out.ok.few; rw [← HX.out.wsv] at this; simpa using this
  obtain ⟨i0, hiI, hz0, hz1, hz2⟩ := info_parts wr_info
  have HII := Lib.hid hiI
  have HZ0 := Lib.hid hz0
  have HZ1 := Lib.hid hz1
  have HZ2 := Lib.hid hz2
  clear hiI hz0 hz1 hz2 hB4 hk4 hk5 hB5 hb4 hrow4 hg3 h23 HSE1 HC1 HC2 HK1 HK3 HB1 HB3 HR3 HW1 HS1 HW3 HG2
  go_wp2_with fail
  clear hW5 HW5 f41 k41 d2
  go_loopw [38] (fun i wr => ∃ (k : Nat) (v2 : Value) (ws2 : List Wr) (M2 I2 : Nat → Prop), k ≤ ws.length ∧ i = .int .i64 (k : Int) ∧ Hid (CpX wr w.heap.size g2 g3 q2 q3 v2 left ws2 { s with wait := s.wait.take k } (seenL s.dur s.wait) M2 I2) ∧ Hid (∀ b, M2 b → w.heap.size ≤ b) ∧ Hid (∀ b, I2 b → w.heap.size ≤ b) ∧ Hid (Below w.heap.size w wr)) (fun i _ => ws.length - (intOf i).toNat)
  case atStart => exact ⟨0, _, _, _, _, by omega, rfl, HCP, HM0, fun _ h => h.elim, HB5⟩
  case round =>
    clear HCP HM0 HB5
    obtain ⟨k, v2, ws2, M2, I2, hk, rfl, HCP, HM2, HI2, HBR⟩ := hrel
    by_cases hlk : k < ws.length
    · obtain ⟨⟨a, b, A, c⟩, hx⟩ : ∃ x, ws[k]? = some x := ⟨_, List.getElem?_eq_getElem hlk⟩
      have hxr := HX.out.chg (Chg.of_below HBR.out (M := fun b => w.heap.size ≤ b) (fun i h => h)) (fun b hb hm => by have := HX.out.lt b (.inl hm); omega) (fun b hb hm => by have := HX.out.lt b (.inr hm); omega)
      obtain ⟨g, c', hv, p0, p1⟩ := hxr.waits.at_ hx
      injection hv with hAv _ hcv
      subst hAv hcv
      obtain ⟨r1, r2, r3⟩ := hxr.waits.byt _ (List.mem_of_getElem? hx)
      have hsw : s.wait[k]? = some (a, b) := by rw [← HX.out.wsv]; simp [hx, wof]
      have hfit := HX.out.ok.fit _ (List.mem_of_getElem? hsw)
      have HFIT := Lib.hid hfit
      have hab : a + b.length ≤ s.dur.length := hfit.1
      have hbl : b.length ≤ 1000000000 := by omega
      obtain ⟨Av2, cv2, hv2⟩ := HCP.out.waits.slice
      subst hv2
      have h2l : ws2.length < 60 := by
        have := congrArg List.length HCP.out.wsv
        simp at this
        omega
      obtain ⟨W, hW⟩ : ∃ W, wr.alloc (.cells #[.int .i64 (a : Int), .slice A b.length c] 63) = W := ⟨_, rfl⟩
      have hBW : Below wr.heap.size wr W := by rw [← hW]; exact (Below.refl _ wr).alloc (Nat.le_refl _) _
      have hkW : Blk W wr.heap.size 63 #[.int .i64 (a : Int), .slice A b.length c] := by rw [← hW]; exact Blk.new wr 63 _
      have hCW := HCP.out.chg (Chg.of_below hBW (M := fun b => wr.heap.size ≤ b) (fun i h => h)) (fun b hb hm => by have := HCP.out.lt b (.inl hm); omega) (fun b hb hm => by have := HCP.out.lt b (.inr hm); omega)
      have hr1 : Reads W.drew wr.heap.size 1 A b.length (b.map byt) := (r1.below hBW).drew
      have HCL := Lib.hid (clone_any A c wr.heap.size b W.drew hbl hr1 hBW.size)
      have j0 : W.cell? ⟨wr.heap.size, 0, none⟩ = some (.int .i64 (a : Int)) := hkW.cell 0
      have j1 : W.cell? ⟨wr.heap.size, 1, none⟩ = some (.slice A b.length c) := hkW.cell 1
      have e2 : W.cell? ⟨w.heap.size, 2, none⟩ = some (.slice Av2 ws2.length cv2) := by rw [hCW.blk.cell]; rfl
      have HKW := Lib.hid hkW
      have HCW := Lib.hid hCW
      have HW := Lib.hid hW
      have HSW := Lib.hid hsw
      have HBW := Lib.hid (HBR.out.trans (hBW.mono HBR.out.size))
      have hgw := World.block_lt_of_cell? wr _ p0
      clear hxr r1 r2 r3 hsw hfit hx hBW hkW hCW hr1
      go_wp2_with fail
      clear hW p0 p1
      go_region_law (first
        | (refine step_call rfl 28 _ _ rfl Try.func28 (by kernel_rfl) (by kernel_rfl) #[.slice A b.length c] (by first | (simp [Act.eval]; done) | (simp [Act.eval, Act.put]; done)) HCL.out ?_; rintro e w2 ⟨A2, y2, rfl, hr2, hA2, hcp2, hb2'⟩; refine ⟨_, rfl, ?_⟩; have hb2 : Below W.heap.size W w2 := ⟨hb2'.os, hb2'.tape, hb2'.output, hb2'.size, hb2'.block⟩; have hk2 := HCW.out.blk.below hb2 HCW.out.blk.lt; have k2 : w2.cell? ⟨w.heap.size, 2, none⟩ = some (.slice Av2 ws2.length cv2) := (by rw [hk2.cell]; rfl); have hlt2 : w.heap.size < w2.heap.size := hk2.lt; have hlt3 : wr.heap.size < w2.heap.size := (HKW.out.below hb2 HKW.out.lt).lt; have hm2 := HKW.out.below hb2 HKW.out.lt; have m0 : w2.cell? ⟨wr.heap.size, 0, none⟩ = some (.int .i64 (a : Int)) := hm2.cell 0; have HB2 := Lib.hid hb2; have HR2 := Lib.hid hr2; have HA2 := Lib.hid hA2; have HCP2 := Lib.hid hcp2; have HO2 := Lib.hid (owns_below HCW.out.waits.own hb2 (own_lt HCW.out.waits.own)); clear hr2 hA2 hb2 hb2' hk2 hcp2 hm2)
        | (refine step_append_row _ rfl (.tmp 47) (.tmp 54) 53 53 rfl 0 63 i0 (.agg #[.int .i64 0, .slice none 0 0]) 2 32 Try.underlying53 HII.out HZ0.out HZ1.out HZ2.out rfl (by decide) (.slice Av2 ws2.length cv2) ws2.length (ws2.flatMap wcell) (by simp [Act.eval]) (HO2.out.alloc _) (.slice (some ⟨w2.heap.size, 0, none⟩) 1 1) 1 [.int .i64 (a : Int), .slice A2 b.length y2] (by simp [Act.eval]) (src_new w2 Try.underlying53 [.int .i64 (a : Int), .slice A2 b.length y2] 2 1 1 63 rfl (by intro u hu; simp at hu; rcases hu with rfl | rfl <;> rfl)) (by unfold maxLen; omega) (by omega) (by omega) ?_; intro v3 w3 hown3 hg3; obtain ⟨A3, y3, rfl, -, -⟩ := reads_of_owns hown3; have hk3 := hg3.blk ((HCW.out.blk.below HB2.out HCW.out.blk.lt).alloc _) (own_blk_ne HCW.out.waits.own HCW.out.blk (by decide)); have k3 : w3.cell? ⟨w.heap.size, 2, none⟩ = some (.slice Av2 ws2.length cv2) := (by rw [hk3.cell]; rfl); have l3 := hk3.frozen 2; have HO3 := Lib.hid hown3; have HG3 := Lib.hid hg3; clear hown3 hg3 hk3))
      all_goals
        have hs4 : RowB (w3.setCell ⟨w.heap.size, 2, none⟩ (.slice A3 (ws2.length + 1) y3)) g3 q3 (seenL s.dur s.wait) := by
          have h1 := HCW.out.seen
          have h3 := ((h1.below HB2.out h1.lt).alloc _).grows HG3.out (h1.own_ne HCW.out.waits.own (by decide))
          exact h3.far (p := ⟨w.heap.size, 2, none⟩) (h1.ne_ HCW.out.blk (by decide)) _
        have hst := cp_step HCW.out HR2.out HA2.out HCP2.out HB2.out HO3.out HG3.out hs4 (World.grownBy.refl _ _) (by
          have := congrArg List.length HCW.out.wsv
          rw [List.length_map] at this
          show (s.wait.take k).length < 60
          have h' : ({ s with wait := s.wait.take k } : DS).wait.length = (s.wait.take k).length := rfl
          omega) HFIT.out.1 HFIT.out.2
        obtain ⟨M', I', hcp', hc', hM', hI'⟩ := hst
        have HCP' : Hid (CpX (w3.setCell ⟨w.heap.size, 2, none⟩ (.slice A3 (ws2.length + 1) y3)) w.heap.size g2 g3 q2 q3 (.slice A3 (ws2.length + 1) y3) left (ws2 ++ [(a, b, A2, y2)]) { s with wait := s.wait.take (k + 1) } (seenL s.dur s.wait) M' I') := by
          rw [← wait_take HSW.out]
          exact hcp'
        have HM' : Hid (∀ b, M' b → w.heap.size ≤ b) := fun b hb => by
          rcases hM' b hb with h | h
          · exact HM2.out b h
          · exact Nat.le_trans HBW.out.size h
        have HI' : Hid (∀ b, I' b → w.heap.size ≤ b) := fun b hb => by
          rcases hI' b hb with h | h
          · exact HI2.out b h
          · exact Nat.le_trans HBW.out.size h
        have HBN : Hid (Below w.heap.size w (w3.setCell ⟨w.heap.size, 2, none⟩ (.slice A3 (ws2.length + 1) y3))) := HBW.out.trans (hc'.below HBW.out.size HM2.out)
        clear hs4 hcp' hc' hM' hI' HB2 HR2 HA2 HCP2 HO2 HO3 HG3 HCW HKW
        go_wp2_with fail
        go_roundw
        case rel => exact ⟨k + 1, _, _, _, _, by omega, by go_num, HCP', HM', HI', HBN⟩
        case measure => simp [intOf]; omega
    · obtain rfl : k = ws.length := by omega
      have HE : Hid (CopyPost w s (.returned (.pointer (some ⟨w.heap.size, 0, none⟩))) wr) := by
        have hwt : s.wait.length = ws.length := by rw [← HX.out.wsv]; simp
        have hcp := HCP.out
        rw [List.take_of_length_le (show s.wait.length ≤ ws.length by omega)] at hcp
        exact ⟨_, M2, I2, rfl, ⟨_, _, _, _, _, _, _, hcp.disk⟩, HM2.out, HI2.out, HBR.out⟩
      go_wp2_with fail
      go_ret
      exact HE.out
end Go.Proofs.Ytgblcjoalgckkaa
