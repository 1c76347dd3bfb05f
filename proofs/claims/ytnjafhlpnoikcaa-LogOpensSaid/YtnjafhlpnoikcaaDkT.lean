/-
  The reference's Sync and Crash. No condition.
-/
import Derived.Test.YtnjafhlpnoikcaaDkS
namespace Go.Proofs.Ytnjafhlpnoikcaa
open Go.RowKit
set_option linter.unusedVariables false

/-- within a loop: bytes of one row are written -/
structure RSt (w1 wr : World) (g c : Nat) (D : List Nat) : Prop where
  chg : Chg w1 wr (fun b => b = g)
  dur : RowB wr g c D
section
variable {w1 wr w3 : World} {r g c : Nat} {v : Value} {ws : List Wr} {s : DS} {M I : Nat → Prop}
theorem rsync_wait (h : RefX w1 r g c v ws s M I) (hc : Chg w1 wr (fun b => b = g)) : Waits wr 83 M I v ws :=
  h.waits.keep hc (fun x hx e => h.ds.2.2 (e ▸ hx)) (fun b hI e => h.apart b (e ▸ h.mg) hI)
/-- nothing is pending any more -/
theorem rsettle (h : RefX w1 r g c v ws s M I) {D : List Nat} (hD : D.length = s.dur.length) (hDb : ∀ x ∈ D, x < 256) (hc : Chg w1 w3 M) {off' : Bool} {fuse' : Option Nat}
    (b3 : Blk w3 r 81 #[.slice (some ⟨g, 0, none⟩) s.dur.length c, .slice none 0 0, .int .i64 (leftR fuse'), .bool off']) (hd : RowB w3 g c D) (hl : leftR fuse' ≤ 9223372036854775807) :
    RefX w3 r g c (.slice none 0 0) [] { dur := D, wait := [], off := off', fuse := fuse' } M I :=
  ⟨by rw [hD]; exact b3, hd, h.mr, h.mg, ⟨⟨rfl, .inl ⟨rfl, rfl⟩⟩, fun g hg => by simp [Value.ownBlock] at hg, fun x hx => by cases hx⟩, rfl, ⟨by rw [hD]; exact h.ok.lo, by rw [hD]; exact h.ok.hi, hDb, by simp, fun p hp => by cases hp⟩, hl, h.apart, fun b hb => Nat.lt_of_lt_of_le (h.lt b hb) hc.size⟩
end

def RSyncPost (w : World) (r : Nat) (s : DS) (M I : Nat → Prop) (e : Ending) (w' : World) : Prop :=
  e = .returned (.int .i64 (syncS s).1) ∧ RThen w r (syncS s).2 M I w'

set_option maxRecDepth 100000 in
set_option maxHeartbeats 1600000 in
theorem rsync_any (r : Nat) (s : DS) (M I : Nat → Prop) (w : World) (h : RefAt w r s M I) :
    Calls Try.prog 57 #[.pointer (some ⟨r, 0, none⟩)] w (RSyncPost w r s M I) := by
  have hat := h
  obtain ⟨g, c, v, ws, h⟩ := h
  obtain ⟨c0, c1, c2, c3⟩ := h.cells
  unfold RSyncPost syncS
  cases ho : s.off with
  | true =>
    rw [if_pos rfl]
    have HE : Hid (RThen w r s M I w) := rthen_same hat (Chg.refl _ _)
    rw [ho] at c3
    clear h hat ho
    go_enter Try.func57, Try.ntmps57
    go_wp2_with fail
    go_ret
    exact ⟨rfl, HE.out⟩
  | false =>
  rw [if_neg (by decide)]
  rw [ho] at c3
  have HS := Lib.hid (burn_any r g c _ ws s M I w h)
  unfold BurnPost at HS
  have HM : Hid (M r) := h.mr
  cases hsp : (spendS s).1 with
  | false =>
    rw [if_neg (by decide)]
    rw [hsp] at HS
    clear h hat ho hsp
    go_enter Try.func57, Try.ntmps57
    go_wp2_with fail
    refine (HS.out).mono ?_
    rintro e w1 ⟨rfl, hx', hc1, hs1⟩
    have HE : Hid (RThen w r (spendS s).2 M I w1) := rthen_same ⟨g, c, _, ws, hx'⟩ (hc1.mono (fun i e => by rw [e]; exact HM.out))
    clear hx' hc1 hs1
    go_wp2_with fail
    go_ret
    exact ⟨rfl, HE.out⟩
  | true =>
  rw [if_pos rfl]
  rw [hsp] at HS
  have hd1 := (spend_dur s).1
  have hd2 := (spend_dur s).2
  obtain ⟨s1, hs1⟩ : ∃ s1, (spendS s).2 = s1 := ⟨_, rfl⟩
  rw [hs1] at HS hd1 hd2
  rw [← hd1, ← hd2]
  show Calls Try.prog _ _ w (fun e w' => e = .returned (.int .i64 0) ∧ RThen w r { dur := seenL s1.dur s1.wait, wait := [], off := (spendS s).2.off, fuse := (spendS s).2.fuse } M I w')
  rw [hs1]
  clear h hat ho hsp hd1 hd2 hs1
  go_enter Try.func57, Try.ntmps57
  go_wp2_with fail
  refine (HS.out).mono ?_
  rintro e w1 ⟨rfl, hx', hc1, hsz1⟩
  have HX := Lib.hid hx'
  have HC1 : Hid (Chg w w1 M) := hc1.mono (fun i e => by rw [e]; exact HM.out)
  have HSZ := Lib.hid hsz1
  obtain ⟨Av, cv, hv⟩ := hx'.waits.slice
  subst hv
  have hwl : ws.length ≤ 60 := by have := hx'.ok.few; rw [← hx'.wsv] at this; simpa using this
  have HI : Hid (RSt w1 w1 g c (seenL s1.dur (s1.wait.take 0))) := ⟨Chg.refl _ _, hx'.dur⟩
  clear hx' hc1 hsz1 HS c0 c1 c2 c3
  go_wp2_with fail
  go_loopw [3] (fun i wr => ∃ k : Nat, k ≤ ws.length ∧ i = .int .i64 (k : Int) ∧ Hid (RSt w1 wr g c (seenL s1.dur (s1.wait.take k)))) (fun i _ => ws.length - (intOf i).toNat)
  case atStart => exact ⟨0, by omega, rfl, HI⟩
  case round =>
    clear HI
    obtain ⟨k, hk, rfl, HR⟩ := hrel
    have hB := HX.out.blk.chg HR.out.chg (fun e => HX.out.ds.1 e.symm)
    have q0 : wr.cell? ⟨r, 0, none⟩ = some (.slice (some ⟨g, 0, none⟩) s1.dur.length c) := by rw [hB.cell]; rfl
    have q1 : wr.cell? ⟨r, 1, none⟩ = some (.slice Av ws.length cv) := by rw [hB.cell]; rfl
    have q1f := hB.frozen 1
    by_cases hlt : k < ws.length
    · obtain ⟨⟨a, b, A, cc⟩, hx⟩ : ∃ x, ws[k]? = some x := ⟨_, List.getElem?_eq_getElem hlt⟩
      have hW := rsync_wait HX.out HR.out.chg
      obtain ⟨gv, c', hv, p0, p1⟩ := hW.at_ hx
      injection hv with hAv _ hcv
      subst hAv hcv
      obtain ⟨r1, r2, r3⟩ := hW.byt _ (List.mem_of_getElem? hx)
      have hsw : s1.wait[k]? = some (a, b) := by rw [← HX.out.wsv]; simp [hx, wof]
      have hfit := HX.out.ok.fit _ (List.mem_of_getElem? hsw)
      have hab : a + b.length ≤ s1.dur.length := hfit.1
      have hN := HX.out.ok.hi
      have hNc := HX.out.dur.len
      obtain ⟨N, hNN⟩ : ∃ N, s1.dur.length = N := ⟨_, rfl⟩
      rw [hNN] at q0 hab hN hNc
      have hlen : (seenL s1.dur (s1.wait.take k)).length = N := by rw [← hNN]; exact seen_len _ _ (fits_take HX.out.ok.fit k) rfl
      have HLEN := Lib.hid hlen
      have HTK := Lib.hid (seen_take (d := s1.dur) hsw)
      have HR1 : Hid (Reads wr wr.heap.size 1 A b.length (b.map byt)) := r1
      have HSG : Hid (RowB wr.drew g c (seenL s1.dur (s1.wait.take k))) := HR.out.dur
      have HRA : Hid (Reads wr.drew wr.heap.size 1 A b.length (b.map byt)) := HR1.out
      have HST : Hid (∀ w5, RowB w5 g c (spl (seenL s1.dur (s1.wait.take k)) a b) → wr.drew.grownBy w5 (some g) → RSt w1 w5 g c (seenL s1.dur (s1.wait.take (k + 1)))) := by
        intro w5 h5 hg5
        refine ⟨(HR.out.chg.drew).trans (Chg.of_grown (M := fun b => b = g) hg5 (fun g e => by injection e with e; exact e.symm)) (fun _ _ h => h), ?_⟩
        rw [HTK.out]
        exact h5
      have haN' : a ≤ N := by omega
      have hkk : (k : Int) + 1 ≤ 60 := by omega
      clear hW hB r1 r2 r3 hsw hfit hNN hlen hx HR HTK HX q1f
      by_cases haN : c = a
      · have HBZ : Hid (b = []) := List.eq_nil_of_length_eq_zero (by omega)
        have hNa : N = a := by omega
        subst hNa
        subst haN
        have HP1 : Hid (([] : List Nat).length = Nat.min b.length 0) := by unfold Hid; simp
        have HP2 := Lib.hid (copyOk_nil wr.drew (some ⟨g, 0, none⟩) A g c)
        have HP3 : Hid (c + ([] : List Nat).length ≤ (seenL s1.dur (s1.wait.take k)).length) := by unfold Hid; rw [HLEN.out]; simp
        go_wp2_with fail
        refine region_tail 21 (by kernel_rfl) (by kernel_rfl) _ rfl ?_
        simp only [List.take_succ_cons, List.take_zero, List.drop_succ_cons, List.drop_zero]
        repeat (go_big_quiet_step (fail))
        refine wpQuiet_nil ?_
        go_wp2_with (refine wpList_copy_r (g := g) (off := c) (l := seenL s1.dur (s1.wait.take k)) (b := []) (dp := some ⟨g, 0, none⟩) (dLen := 0) (dCap := 0) (sp := A) (sLen := b.length) (sCap := cc) rfl (.tmp 34) (.tmp 42) rfl rfl rfl HSG.out HP1.out HP2.out HP3.out ?_; intro w5 h5 hg5 _; have HF := Lib.hid (HST.out w5 (by rw [HBZ.out]; exact h5) hg5); clear h5 hg5)
        all_goals
          go_wp2_with fail
          go_roundw
          case rel => exact ⟨k + 1, by omega, by go_num, HF⟩
          case measure => simp [intOf]; omega
      · have HP1 : Hid (b.length = Nat.min b.length (N - a)) := (Nat.min_eq_left (by omega)).symm
        have HP2 := Lib.hid (copyOk_reads HRA.out g a)
        have HP3 : Hid (a + b.length ≤ (seenL s1.dur (s1.wait.take k)).length) := by unfold Hid; rw [HLEN.out]; omega
        go_wp2_with fail
        refine region_tail 21 (by kernel_rfl) (by kernel_rfl) _ rfl ?_
        simp only [List.take_succ_cons, List.take_zero, List.drop_succ_cons, List.drop_zero]
        repeat (go_big_quiet_step (fail))
        refine wpQuiet_nil ?_
        go_wp2_with (refine wpList_copy_r (g := g) (off := a) (l := seenL s1.dur (s1.wait.take k)) (b := b) (dp := some ⟨g, a, none⟩) (dLen := N - a) (dCap := c - a) (sp := A) (sLen := b.length) (sCap := cc) rfl (.tmp 34) (.tmp 42) rfl rfl rfl HSG.out HP1.out HP2.out HP3.out ?_; intro w5 h5 hg5 _; have HF := Lib.hid (HST.out w5 h5 hg5); clear h5 hg5)
        all_goals
          go_wp2_with fail
          go_roundw
          case rel => exact ⟨k + 1, by omega, by go_num, HF⟩
          case measure => simp [intOf]; omega
    · obtain rfl : k = ws.length := by omega
      have hwt : s1.wait.length = ws.length := by rw [← HX.out.wsv]; simp
      have htk : s1.wait.take ws.length = s1.wait := List.take_of_length_le (by omega)
      have HE : Hid (RThen w r { dur := seenL s1.dur s1.wait, wait := [], off := s1.off, fuse := s1.fuse } M I (wr.setCell ⟨r, 1, none⟩ (.slice none 0 0))) := by
        have hx := HX.out
        have hR := HR.out
        rw [htk] at hR
        have hcc : Chg w1 (wr.setCell ⟨r, 1, none⟩ (.slice none 0 0)) M := (hR.chg.mono (fun i e => by rw [e]; exact hx.mg)).setCell (p := ⟨r, 1, none⟩) (.inl hx.mr) _
        have := rsettle hx (D := seenL s1.dur s1.wait) (seen_len _ _ hx.ok.fit rfl) (seen_mem _ _ hx.ok.fit hx.ok.byt) hcc (by simpa using hB.set_ 1 (.slice none 0 0)) (hR.dur.chg (chg_d wr r 1 _) hx.ds.1) hx.left
        exact rthen_same ⟨g, c, _, [], this⟩ (HC1.out.trans hcc (fun _ _ h => h))
      clear hwt htk HR HX hB
      go_wp2_with fail
      go_ret
      exact ⟨rfl, HE.out⟩
end Go.Proofs.Ytnjafhlpnoikcaa
