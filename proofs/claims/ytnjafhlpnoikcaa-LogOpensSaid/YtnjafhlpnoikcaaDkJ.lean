/-
  Write: the walk. No condition.
-/
import Derived.Test.YtnjafhlpnoikcaaDkI
namespace Go.Proofs.Ytnjafhlpnoikcaa
open Go.RowKit
set_option linter.unusedVariables false

def WritePost (w : World) (d : Nat) (s : DS) (M I : Nat → Prop) (a : Int) (b : List Nat) (e : Ending) (w' : World) : Prop :=
  e = .returned (.int .i64 (writeS s a b).1) ∧ Then w d (writeS s a b).2 M I w'

theorem write_mid {w1 w2 w3 : World} {d gd gs cd cs : Nat} {v v3 : Value} {left : Int} {ws : List Wr} {s : DS} {M I : Nat → Prop} {o : Obj} (h : DiskX w1 d gd gs cd cs v left ws s M I) (hb2 : Below w1.heap.size w1 w2) (hg3 : Grows (w2.alloc o) w3 v v3) : Chg w1 (w3.setCell ⟨d, 2, none⟩ v3) M := by
  have c2 : Chg w1 w2 M := ⟨hb2.os, hb2.tape, hb2.output, hb2.size, fun i hi _ => hb2.block i hi⟩
  have c3 : Chg w1 w3 M := (c2.alloc o).trans (Chg.of_grown (M := M) hg3.grown h.waits.mine) (fun _ _ h => h)
  exact c3.setCell (p := ⟨d, 2, none⟩) (.inl h.md) _
theorem spend_dur (s : DS) : (spendS s).2.dur = s.dur ∧ (spendS s).2.wait = s.wait := by
  unfold spendS
  split <;> exact ⟨rfl, rfl⟩

set_option maxRecDepth 100000 in
set_option maxHeartbeats 1600000 in
theorem write_any (d : Nat) (s : DS) (M I : Nat → Prop) (a : Int) (A : Option Addr) (c : Nat) (b : List Nat) (w : World) (h : DiskAt w d s M I) (hb : ∀ x ∈ b, x < 256) (hbl : b.length ≤ 1000000000) (hr : Reads w w.heap.size 1 A b.length (b.map byt)) (hA : 0 < b.length → ∀ ad, A = some ad → ¬ M ad.block) :
    Calls Try.prog 12 #[.pointer (some ⟨d, 0, none⟩), .int .i64 a, .slice A b.length c] w (WritePost w d s M I a b) := by
  have hat := h
  obtain ⟨gd, gs, cd, cs, v, left, ws, h⟩ := h
  obtain ⟨c0, c1, c2, c3, c4, c5⟩ := h.cells
  have hN := h.ok.hi
  have HI := Lib.hid (inside_any d gd s.dur.length cd a b.length w hN (by omega) c0)
  obtain ⟨Av, cv, hv⟩ := h.waits.slice
  have hwl : s.wait.length = ws.length := by rw [← h.wsv]; simp
  unfold WritePost writeS
  cases ho : s.off with
  | true =>
    rw [if_pos rfl]
    have HE : Hid (Then w d s M I w) := then_same hat (Chg.refl _ _)
    rw [ho] at c3
    clear h hat ho hwl hr hA hb hv
    go_enter Try.func12, Try.ntmps12
    go_wp2_with fail
    go_ret
    exact ⟨rfl, HE.out⟩
  | false =>
  rw [if_neg (by decide)]
  rw [ho] at c3
  cases hi : insideB s.dur.length a b.length with
  | false =>
    rw [if_pos (by decide)]
    rw [hi] at HI
    have HE : Hid (Then w d s M I w) := then_same hat (Chg.refl _ _)
    clear h hat ho hwl hr hA hb hv hi
    go_enter Try.func12, Try.ntmps12
    go_wp2_with fail
    refine (HI.out).mono ?_
    rintro e w1 ⟨rfl, rfl⟩
    go_wp2_with fail
    go_ret
    exact ⟨rfl, HE.out⟩
  | true =>
  rw [if_neg (by decide)]
  rw [hi] at HI
  subst hv
  by_cases hfull : 60 ≤ s.wait.length
  · rw [if_pos hfull]
    have HE : Hid (Then w d s M I w) := then_same hat (Chg.refl _ _)
    have hf2 : 60 ≤ ws.length := by omega
    clear h hat ho hwl hr hA hb hi hfull
    go_enter Try.func12, Try.ntmps12
    go_wp2_with fail
    refine (HI.out).mono ?_
    rintro e w1 ⟨rfl, rfl⟩
    go_wp2_with fail
    go_ret
    exact ⟨rfl, HE.out⟩
  rw [if_neg hfull]
  have hf2 : ws.length < 60 := by omega
  have HS := Lib.hid (spend_any d gd gs cd cs _ left ws s M I w h)
  unfold SpendPost at HS
  cases hsp : (spendS s).1 with
  | false =>
    rw [if_neg (by decide)]
    rw [hsp] at HS
    have HM : Hid (M d) := h.md
    clear h hat ho hwl hr hA hb hi hfull hsp
    go_enter Try.func12, Try.ntmps12
    go_wp2_with fail
    refine (HI.out).mono ?_
    rintro e w1 ⟨rfl, rfl⟩
    go_wp2_with fail
    refine (HS.out).mono ?_
    rintro e w1 ⟨rfl, ⟨left', hx'⟩, hc1, hs1⟩
    have HE : Hid (Then w d (spendS s).2 M I w1) := then_same ⟨gd, gs, cd, cs, _, left', ws, hx'⟩ (hc1.mono (fun i e => by rw [e]; exact HM.out))
    clear hx' hc1 hs1
    go_wp2_with fail
    go_ret
    exact ⟨rfl, HE.out⟩
  | true =>
  rw [if_pos rfl]
  rw [hsp] at HS
  obtain ⟨a', n', rfl, hn', han⟩ := inside_parts hi
  have hbn : b.length = n' := by omega
  subst hbn
  obtain ⟨i0, hiI, hz0, hz1, hz2⟩ := info_parts wr_info
  have HII := Lib.hid hiI
  have HZ0 := Lib.hid hz0
  have HZ1 := Lib.hid hz1
  have HZ2 := Lib.hid hz2
  have HM : Hid (M d) := h.md
  have HR := Lib.hid hr
  have HAA := Lib.hid hA
  have HB := Lib.hid hb
  obtain ⟨N, hNN⟩ : ∃ N, s.dur.length = N := ⟨_, rfl⟩
  have HNN := Lib.hid hNN
  have hseen : (seenL s.dur s.wait).length = N := by rw [← hNN]; exact seen_len _ _ h.ok.fit rfl
  have HSE := Lib.hid hseen
  have hcs : N ≤ cs := by have := h.seen.len; omega
  rw [hNN] at c0 c1 hN han
  have hd1 := (spend_dur s).1
  have hd2 := (spend_dur s).2
  obtain ⟨s1, hs1⟩ : ∃ s1, (spendS s).2 = s1 := ⟨_, rfl⟩
  rw [hs1] at HS hd1 hd2
  show Calls Try.prog _ _ w (fun e w' => e = .returned (.int .i64 0) ∧ Then w d { dur := (spendS s).2.dur, wait := s.wait ++ [(a', b)], off := (spendS s).2.off, fuse := (spendS s).2.fuse } M I w')
  rw [hs1]
  have HD1 := Lib.hid hd1
  have HD2 := Lib.hid hd2
  clear h hat ho hwl hr hA hb hi hfull hsp hiI hz0 hz1 hz2 hNN hseen hd1 hd2 hs1 hn'
  go_enter Try.func12, Try.ntmps12
  go_wp2_with fail
  refine (HI.out).mono ?_
  rintro e w1 ⟨rfl, rfl⟩
  go_wp2_with fail
  refine (HS.out).mono ?_
  rintro e w1 ⟨rfl, ⟨left', hx'⟩, hc1, hsz1⟩
  obtain ⟨e0, e1, e2, e3, e4, e5⟩ := hx'.cells
  have g2 := hx'.blk.frozen 2
  rw [HD1.out, HNN.out] at e0 e1
  have hr1 : Reads w1 w1.heap.size 1 A b.length (b.map byt) := (HR.out.chg0 hc1 (Nat.le_refl _) (fun hn ad e hm => HAA.out hn ad e (by rw [hm]; exact HM.out))).more hc1.size
  have HCL := Lib.hid (clone_any A c w1.heap.size b w1.drew hbl hr1 (Nat.le_refl _))
  have HX1 := Lib.hid hx'
  have HR1 := Lib.hid hr1
  have HO1 := Lib.hid hx'.waits.own
  have HC1 := Lib.hid hc1
  have HSZ := Lib.hid hsz1
  clear hx' hc1 hsz1 hr1 HS HI c0 c1 c2 c3 c4 c5
  go_wp2_with fail
  go_region_law (first
    | (refine step_call rfl 34 _ _ rfl Try.func34 (by kernel_rfl) (by kernel_rfl) #[.slice A b.length c] (by first | (simp [Act.eval]; done) | (simp [Act.eval, Act.put]; done)) HCL.out ?_; rintro e w2 ⟨A2, q2, rfl, hr2, hA2, hcp2, hb2'⟩; refine ⟨_, rfl, ?_⟩; have hb2 : Below w1.heap.size w1 w2 := ⟨hb2'.os, hb2'.tape, hb2'.output, hb2'.size, hb2'.block⟩; have hk2 := HX1.out.blk.below hb2 HX1.out.blk.lt; have k2 : w2.cell? ⟨d, 2, none⟩ = some (.slice Av ws.length cv) := (by rw [hk2.cell]; rfl); have hlt2 : d < w2.heap.size := hk2.lt; have HB2 := Lib.hid hb2; have HR2 := Lib.hid hr2; have HA2 := Lib.hid hA2; have HCP2 := Lib.hid hcp2; have HO2 := Lib.hid (owns_below HO1.out hb2 (own_lt HO1.out)); clear hr2 hA2 hb2 hb2' hk2 hcp2)
    | (refine step_append_row _ rfl (.tmp 37) (.tmp 42) 67 67 rfl 0 77 i0 (.agg #[.int .i64 0, .slice none 0 0]) 2 32 Try.underlying67 HII.out HZ0.out HZ1.out HZ2.out rfl (by decide) (.slice Av ws.length cv) ws.length (ws.flatMap wcell) (by simp [Act.eval]) (HO2.out.alloc _) (.slice (some ⟨w2.heap.size, 0, none⟩) 1 1) 1 [.int .i64 (a' : Int), .slice A2 b.length q2] (by simp [Act.eval]) (src_new w2 Try.underlying67 [.int .i64 (a' : Int), .slice A2 b.length q2] 2 1 1 77 rfl (by intro u hu; simp at hu; rcases hu with rfl | rfl <;> rfl)) (by unfold maxLen; omega) (by omega) (by omega) ?_; intro v3 w3 hown3 hg3; obtain ⟨A3, q3, rfl, -, -⟩ := reads_of_owns hown3; have hk3 := hg3.blk ((HX1.out.blk.below HB2.out HX1.out.blk.lt).alloc _) (own_blk_ne HO1.out HX1.out.blk (by decide)); have k3 : w3.cell? ⟨d, 2, none⟩ = some (.slice Av ws.length cv) := (by rw [hk3.cell]; rfl); have l3 := hk3.frozen 2; have k31 : w3.cell? ⟨d, 1, none⟩ = some (.slice (some ⟨gs, 0, none⟩) N cs) := (by rw [hk3.cell, ← HX1.out.blk.cell]; exact e1); have HO3 := Lib.hid hown3; have HG3 := Lib.hid hg3; clear hown3 hg3 hk3))
  all_goals
    have hs4 : RowB (w3.setCell ⟨d, 2, none⟩ (.slice A3 (ws.length + 1) q3)) gs cs (seenL s.dur s.wait) := by
      have h1 := HX1.out.seen
      rw [HD1.out, HD2.out] at h1
      have h3 := ((h1.below HB2.out h1.lt).alloc _).grows HG3.out (h1.own_ne HO1.out (by decide))
      exact h3.far (p := ⟨d, 2, none⟩) (h1.ne_ HX1.out.blk (by decide)) _
    have hr4 : Reads (w3.setCell ⟨d, 2, none⟩ (.slice A3 (ws.length + 1) q3)) w1.heap.size 1 A b.length (b.map byt) := HR1.out.chg0 (write_mid HX1.out HB2.out HG3.out) (Nat.le_refl _) HAA.out
    have HS4 := Lib.hid hs4
    have HR4 := Lib.hid hr4
    have HFIN : Hid (∀ w5, RowB w5 gs cs (spl (seenL s.dur s.wait) a' b) → (w3.setCell ⟨d, 2, none⟩ (.slice A3 (ws.length + 1) q3)).grownBy w5 (some gs) → Then w d { dur := s1.dur, wait := s.wait ++ [(a', b)], off := s1.off, fuse := s1.fuse } M I w5) := by
      intro w5 h5 hg5
      have hw : s1.wait.length < 60 := by
        have := HX1.out.wsv
        rw [← this]; simpa using hf2
      have ht := write_end HX1.out HR2.out HA2.out HCP2.out HB2.out HO3.out HG3.out (by rw [HD1.out, HD2.out]; exact h5) hg5 hw (by rw [HD1.out, HNN.out]; omega) HB.out
      obtain ⟨M', I', q1, q2, q3', q4⟩ := ht
      rw [HD2.out] at q1
      have hcw := HC1.out.mono (M' := M) (fun i e => by rw [e]; exact HM.out)
      refine ⟨M', I', q1, hcw.trans q2 (fun _ _ h => h), fun x hx => ?_, fun x hx => ?_⟩
      · have := q3' x hx
        rw [HSZ.out] at this
        exact this
      · have := q4 x hx
        rw [HSZ.out] at this
        exact this
    clear hs4 hr4 HX1 HR1 HO1 HC1 HR2 HA2 HCP2 HO2 HO3 HG3 HB2
    by_cases haN : cs = a'
    · have hz : b.length = 0 := by omega
      obtain rfl : b = [] := List.eq_nil_of_length_eq_zero hz
      have hNa : N = a' := by omega
      have hNc : N = cs := by omega
      subst hNa
      subst hNc
      go_wp2_with (refine wpList_copy_r (g := gs) (off := N) (l := seenL s.dur s.wait) (b := []) rfl (.tmp 53) (.tmp 54) rfl rfl rfl HS4.out ?_ ?_ ?_ ?_)
      · exact copyOk_nil _ _ _ _ _
      · exact Nat.le_of_eq HSE.out.symm
      · intro w5 h5 hg5 _
        have HF := Lib.hid (HFIN.out w5 h5 hg5)
        clear h5 hg5
        go_wp2_with fail
        go_ret
        exact ⟨rfl, HF.out⟩
    · go_wp2_with (refine wpList_copy_r (g := gs) (off := a') (l := seenL s.dur s.wait) (b := b) rfl (.tmp 53) (.tmp 54) rfl rfl rfl HS4.out ?_ ?_ ?_ ?_)
      · exact (Nat.min_eq_left (by omega)).symm
      · exact copyOk_reads HR4.out gs a'
      · rw [HSE.out]
        omega
      · intro w5 h5 hg5 _
        have HF := Lib.hid (HFIN.out w5 h5 hg5)
        clear h5 hg5
        go_wp2_with fail
        go_ret
        exact ⟨rfl, HF.out⟩
end Go.Proofs.Ytnjafhlpnoikcaa
