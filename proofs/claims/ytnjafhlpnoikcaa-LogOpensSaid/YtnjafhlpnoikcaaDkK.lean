/-
  Sync. No condition.
-/
import Derived.Test.YtnjafhlpnoikcaaDkJ
namespace Go.Proofs.Ytnjafhlpnoikcaa
open Go.RowKit
set_option linter.unusedVariables false

/-- nothing is pending any more -/
theorem settle {w1 w3 : World} {d gd gs cd cs : Nat} {v : Value} {left : Int} {ws : List Wr} {s : DS} {M I : Nat → Prop} (h : DiskX w1 d gd gs cd cs v left ws s M I) {D : List Nat} (hD : D.length = s.dur.length) (hDb : ∀ x ∈ D, x < 256) (hc : Chg w1 w3 M) {off' : Bool} {fuse' : Option Nat} {left' : Int}
    (b3 : Blk w3 d 73 #[.slice (some ⟨gd, 0, none⟩) s.dur.length cd, .slice (some ⟨gs, 0, none⟩) s.dur.length cs, cutV v, .bool off', .bool fuse'.isSome, .int .i64 left'])
    (hd : RowB w3 gd cd D) (hs : RowB w3 gs cs D) (ho : w3.ownsRow 0 77 2 (cutV v) 0 []) (hf : ∀ k, fuse' = some k → left' = (k : Int)) (hl : 0 ≤ left' ∧ left' ≤ 9223372036854775807) :
    DiskX w3 d gd gs cd cs (cutV v) left' [] { dur := D, wait := [], off := off', fuse := fuse' } M I := by
  refine ⟨by rw [hD]; exact b3, hd, hs, h.ne, h.md, h.mgd, h.mgs, ⟨ho, fun g hg => h.waits.mine g (by rw [← cutV_own]; exact hg), fun x hx => by cases hx⟩, rfl, ⟨by rw [hD]; exact h.ok.lo, by rw [hD]; exact h.ok.hi, hDb, by simp, fun p hp => by cases hp⟩, hf, hl, h.apart, fun b hb => Nat.lt_of_lt_of_le (h.lt b hb) hc.size⟩

/-- within the loop: the first k pending writes are durable -/
structure SyncSt (w1 wr : World) (gd cd : Nat) (D : List Nat) : Prop where
  chg : Chg w1 wr (fun b => b = gd)
  dur : RowB wr gd cd D
theorem seen_take {d : List Nat} {l : List (Nat × List Nat)} {k : Nat} {x : Nat × List Nat} (h : l[k]? = some x) : seenL d (l.take (k + 1)) = spl (seenL d (l.take k)) x.1 x.2 := by
  obtain ⟨hk, rfl⟩ := List.getElem?_eq_some_iff.1 h
  rw [List.take_succ_eq_append_getElem hk, seen_snoc]
theorem fits_take {N : Nat} {l : List (Nat × List Nat)} (h : fits N l) (k : Nat) : fits N (l.take k) := fun p hp => h p (List.mem_of_mem_take hp)

section
variable {w1 wr : World} {d gd gs cd cs : Nat} {v : Value} {left : Int} {ws : List Wr} {s : DS} {M I : Nat → Prop} {D : List Nat}
theorem DiskX.ds (h : DiskX w1 d gd gs cd cs v left ws s M I) : gd ≠ d ∧ gs ≠ d ∧ v.ownBlock ≠ some d ∧ v.ownBlock ≠ some gd ∧ v.ownBlock ≠ some gs :=
  ⟨h.dur.ne_ h.blk (by decide), h.seen.ne_ h.blk (by decide), own_blk_ne h.waits.own h.blk (by decide), h.dur.own_ne h.waits.own (by decide), h.seen.own_ne h.waits.own (by decide)⟩
/-- the pending writes, while durable bytes change -/
theorem sync_wait (h : DiskX w1 d gd gs cd cs v left ws s M I) (hc : Chg w1 wr (fun b => b = gd)) : Waits wr 77 M I v ws :=
  h.waits.keep hc (fun g hg e => h.ds.2.2.2.1 (e ▸ hg)) (fun b hI e => h.apart b (e ▸ h.mgd) hI)
/-- pending write number k, as it is read -/
theorem Waits.at_ {w : World} {e : TypeId} (h : Waits w e M I v ws) {k : Nat} {x : Wr} (hk : ws[k]? = some x) : ∃ g c, v = .slice (some ⟨g, 0, none⟩) ws.length c ∧ w.cell? ⟨g, k * 2, none⟩ = some (.int .i64 (x.1 : Int)) ∧ w.cell? ⟨g, k * 2 + 1, none⟩ = some (.slice x.2.2.1 x.2.1.length x.2.2.2) := by
  have hk' := (List.getElem?_eq_some_iff.1 hk).1
  rcases h.own.2 with ⟨_, h0⟩ | ⟨g, cap, cur, rfl, hbase, hh, hnc, hcm, hcs, htake⟩
  · omega
  · refine ⟨g, cap, rfl, ?_, ?_⟩
    · have := h.own.cells (g := g) rfl (k * 2) _ (wcell_at ws k x hk).1
      rwa [Addr.add_lit, Nat.zero_add] at this
    · have := h.own.cells (g := g) rfl (k * 2 + 1) _ (wcell_at ws k x hk).2
      rwa [Addr.add_lit, Nat.zero_add] at this
end

def SyncPost (w : World) (d : Nat) (s : DS) (M I : Nat → Prop) (e : Ending) (w' : World) : Prop :=
  e = .returned (.int .i64 (syncS s).1) ∧ Then w d (syncS s).2 M I w'

set_option maxRecDepth 100000 in
set_option maxHeartbeats 1600000 in
theorem sync_any (d : Nat) (s : DS) (M I : Nat → Prop) (w : World) (h : DiskAt w d s M I) :
    Calls Try.prog 73 #[.pointer (some ⟨d, 0, none⟩)] w (SyncPost w d s M I) := by
  have hat := h
  obtain ⟨gd, gs, cd, cs, v, left, ws, h⟩ := h
  obtain ⟨c0, c1, c2, c3, c4, c5⟩ := h.cells
  unfold SyncPost syncS
  cases ho : s.off with
  | true =>
    rw [if_pos rfl]
    have HE : Hid (Then w d s M I w) := then_same hat (Chg.refl _ _)
    rw [ho] at c3
    clear h hat ho
    go_enter Try.func73, Try.ntmps73
    go_wp2_with fail
    go_ret
    exact ⟨rfl, HE.out⟩
  | false =>
  rw [if_neg (by decide)]
  rw [ho] at c3
  have HS := Lib.hid (spend_any d gd gs cd cs _ left ws s M I w h)
  unfold SpendPost at HS
  have HM : Hid (M d) := h.md
  cases hsp : (spendS s).1 with
  | false =>
    rw [if_neg (by decide)]
    rw [hsp] at HS
    clear h hat ho hsp
    go_enter Try.func73, Try.ntmps73
    go_wp2_with fail
    refine (HS.out).mono ?_
    rintro e w1 ⟨rfl, ⟨left', hx'⟩, hc1, hs1⟩
    have HE : Hid (Then w d (spendS s).2 M I w1) := then_same ⟨gd, gs, cd, cs, _, left', ws, hx'⟩ (hc1.mono (fun i e => by rw [e]; exact HM.out))
    clear hx' hc1 hs1
    go_wp2_with fail
    go_ret
    exact ⟨rfl, HE.out⟩
  | true =>
  rw [if_pos rfl]
  rw [hsp] at HS
  have hd1 := (spend_dur s).1
  have hd2 := (spend_dur s).2
  obtain ⟨s1, hs1⟩ : ∃ s1, (spendS s).2 = s1 := ⟨_, rfl⟩
  rw [hs1] at HS hd1 hd2
  rw [← hd1, ← hd2]
  show Calls Try.prog _ _ w (fun e w' => e = .returned (.int .i64 0) ∧ Then w d { dur := seenL s1.dur s1.wait, wait := [], off := (spendS s).2.off, fuse := (spendS s).2.fuse } M I w')
  rw [hs1]
  clear h hat ho hsp hd1 hd2 hs1
  go_enter Try.func73, Try.ntmps73
  go_wp2_with fail
  refine (HS.out).mono ?_
  rintro e w1 ⟨rfl, ⟨left', hx'⟩, hc1, hsz1⟩
  have HX := Lib.hid hx'
  have HC1 : Hid (Chg w w1 M) := hc1.mono (fun i e => by rw [e]; exact HM.out)
  have HSZ := Lib.hid hsz1
  obtain ⟨Av, cv, hv⟩ := hx'.waits.slice
  subst hv
  have k2 := hx'.cells.2.2.1
  have hwl : ws.length ≤ 60 := by have := hx'.ok.few; rw [← hx'.wsv] at this; simpa using this
  have HI : Hid (SyncSt w1 w1 gd cd (seenL s1.dur (s1.wait.take 0))) := ⟨Chg.refl _ _, hx'.dur⟩
  clear hx' hc1 hsz1 HS c0 c1 c2 c3 c4 c5
  go_wp2_with fail
  go_loopw [23] (fun i wr => ∃ k : Nat, k ≤ ws.length ∧ i = .int .i64 (k : Int) ∧ Hid (SyncSt w1 wr gd cd (seenL s1.dur (s1.wait.take k)))) (fun i _ => ws.length - (intOf i).toNat)
  case atStart => exact ⟨0, by omega, rfl, HI⟩
  case round =>
    clear HI
    obtain ⟨k, hk, rfl, HR⟩ := hrel
    by_cases hlt : k < ws.length
    · obtain ⟨⟨a, b, A, c⟩, hx⟩ : ∃ x, ws[k]? = some x := ⟨_, List.getElem?_eq_getElem hlt⟩
      have hW := sync_wait HX.out HR.out.chg
      obtain ⟨g, c', hv, p0, p1⟩ := hW.at_ hx
      injection hv with hAv _ hcv
      subst hAv hcv
      have hB := HX.out.blk.chg HR.out.chg (fun e => HX.out.ds.1 e.symm)
      have q0 : wr.cell? ⟨d, 0, none⟩ = some (.slice (some ⟨gd, 0, none⟩) s1.dur.length cd) := by rw [hB.cell]; rfl
      obtain ⟨r1, r2, r3⟩ := hW.byt _ (List.mem_of_getElem? hx)
      have hsw : s1.wait[k]? = some (a, b) := by rw [← HX.out.wsv]; simp [hx, wof]
      have hfit := HX.out.ok.fit _ (List.mem_of_getElem? hsw)
      have hab : a + b.length ≤ s1.dur.length := hfit.1
      have hN := HX.out.ok.hi
      obtain ⟨N, hNN⟩ : ∃ N, s1.dur.length = N := ⟨_, rfl⟩
      rw [hNN] at q0 hab hN
      have hlen : (seenL s1.dur (s1.wait.take k)).length = N := by rw [← hNN]; exact seen_len _ _ (fits_take HX.out.ok.fit k) rfl
      have HLEN := Lib.hid hlen
      have hcd : N ≤ cd := by have := HR.out.dur.len; omega
      have HTK := Lib.hid (seen_take (d := s1.dur) hsw)
      have HR1 : Hid (Reads wr wr.heap.size 1 A b.length (b.map byt)) := r1
      have HAN : Hid (∀ ad, A = some ad → I ad.block) := r2
      have hlw := hB.lt
      have hgw := World.block_lt_of_cell? wr _ p0
      clear hW hB r1 r2 r3 hsw hfit hNN hlen hx
      have HSG : Hid (RowB (wr.alloc (.cells #[.int .i64 (a : Int), .slice A b.length c] 77)).drew gd cd (seenL s1.dur (s1.wait.take k))) := HR.out.dur.alloc _
      have HRA : Hid (Reads (wr.alloc (.cells #[.int .i64 (a : Int), .slice A b.length c] 77)).drew wr.heap.size 1 A b.length (b.map byt)) := HR1.out.alloc (Nat.le_refl _) _
      have HST : Hid (∀ w5, RowB w5 gd cd (spl (seenL s1.dur (s1.wait.take k)) a b) → (wr.alloc (.cells #[.int .i64 (a : Int), .slice A b.length c] 77)).drew.grownBy w5 (some gd) → SyncSt w1 w5 gd cd (seenL s1.dur (s1.wait.take (k + 1)))) := by
        intro w5 h5 hg5
        refine ⟨((HR.out.chg.alloc _).drew).trans (Chg.of_grown (M := fun b => b = gd) hg5 (fun g e => by injection e with e; exact e.symm)) (fun _ _ h => h), ?_⟩
        rw [HTK.out]
        exact h5
      have haN' : a ≤ N := by omega
      have hkk : (k : Int) + 1 ≤ 60 := by omega
      clear HR HTK HX
      by_cases haN : cd = a
      · have HBZ : Hid (b = []) := List.eq_nil_of_length_eq_zero (by omega)
        have hNa : N = a := by omega
        have hNc : N = cd := by omega
        subst hNa
        subst hNc
        have HP1 : Hid (([] : List Nat).length = Nat.min b.length 0) := by unfold Hid; simp
        have HP2 := Lib.hid (copyOk_nil (wr.alloc (.cells #[.int .i64 (N : Int), .slice A b.length c] 77)).drew (some ⟨gd, 0, none⟩) A gd N)
        have HP3 : Hid (N + ([] : List Nat).length ≤ (seenL s1.dur (s1.wait.take k)).length) := by unfold Hid; rw [HLEN.out]; simp
        go_wp2_with fail
        go_region_law (refine step_copy_r (g := gd) (off := N) (l := seenL s1.dur (s1.wait.take k)) (b := []) (dp := some ⟨gd, 0, none⟩) (dLen := 0) (dCap := 0) (sp := A) (sLen := b.length) (sCap := c) rfl (.tmp 34) (.tmp 36) rfl (by first | rfl | (simp [Act.eval, Act.put]; done)) (by first | rfl | (simp [Act.eval, Act.put]; done)) HSG.out HP1.out HP2.out HP3.out ?_; intro w5 h5 hg5 _; have HF := Lib.hid (HST.out w5 (by rw [HBZ.out]; exact h5) hg5); clear h5 hg5)
        all_goals
          go_wp2_with fail
          go_roundw
          case rel => exact ⟨k + 1, by omega, by go_num, HF⟩
          case measure => simp [intOf]; omega
      · have HP1 : Hid (b.length = Nat.min b.length (N - a)) := (Nat.min_eq_left (by omega)).symm
        have HP2 := Lib.hid (copyOk_reads HRA.out gd a)
        have HP3 : Hid (a + b.length ≤ (seenL s1.dur (s1.wait.take k)).length) := by unfold Hid; rw [HLEN.out]; omega
        go_wp2_with fail
        go_region_law (refine step_copy_r (g := gd) (off := a) (l := seenL s1.dur (s1.wait.take k)) (b := b) (dp := some ⟨gd, a, none⟩) (dLen := N - a) (dCap := cd - a) (sp := A) (sLen := b.length) (sCap := c) rfl (.tmp 34) (.tmp 36) rfl (by first | rfl | (simp [Act.eval, Act.put]; done)) (by first | rfl | (simp [Act.eval, Act.put]; done)) HSG.out HP1.out HP2.out HP3.out ?_; intro w5 h5 hg5 _; have HF := Lib.hid (HST.out w5 h5 hg5); clear h5 hg5)
        all_goals
          go_wp2_with fail
          go_roundw
          case rel => exact ⟨k + 1, by omega, by go_num, HF⟩
          case measure => simp [intOf]; omega
    · obtain rfl : k = ws.length := by omega
      have hB := HX.out.blk.chg HR.out.chg (fun e => HX.out.ds.1 e.symm)
      have hW := sync_wait HX.out HR.out.chg
      have HFG := Lib.hid (forget_any d _ _ _ _ _ _ _ _ wr hB hW.own (by omega))
      have hwt : s1.wait.length = ws.length := by rw [← HX.out.wsv]; simp
      have htk : s1.wait.take ws.length = s1.wait := List.take_of_length_le (by omega)
      have HRR : Hid (SyncSt w1 wr gd cd (seenL s1.dur s1.wait)) := by
        have := HR.out
        rw [htk] at this
        exact this
      clear hB hW hwt htk HR
      go_wp2_with fail
      refine (HFG.out).mono ?_
      rintro e w5 ⟨rfl, f1, f2, f3, f4⟩
      have HE : Hid (Then w d { dur := seenL s1.dur s1.wait, wait := [], off := s1.off, fuse := s1.fuse } M I w5) := by
        have hx := HX.out
        obtain ⟨e1, e2, e3, e4, e5⟩ := hx.ds
        have hcc : Chg w1 w5 M := (HRR.out.chg.mono (fun i e => by rw [e]; exact hx.mgd)).trans f3 (fun i _ h => by
          rcases h with h | h
          · rw [h]; exact hx.md
          · exact hx.waits.mine _ h)
        have hgd := HRR.out.dur.chg f3 (fun h => by
          rcases h with h | h
          · exact e1 h
          · exact e4 h)
        have hgs := (hx.seen.chg HRR.out.chg (fun h => hx.ne h.symm)).chg f3 (fun h => by
          rcases h with h | h
          · exact e2 h
          · exact e5 h)
        have := settle hx (D := seenL s1.dur s1.wait) (seen_len _ _ hx.ok.fit rfl) (seen_mem _ _ hx.ok.fit hx.ok.byt) hcc f1 hgd hgs f2 hx.fuse hx.left
        exact then_same ⟨gd, gs, cd, cs, _, _, [], this⟩ (HC1.out.trans hcc (fun _ _ h => h))
      clear f1 f2 f3 f4
      go_wp2_with fail
      go_ret
      exact ⟨rfl, HE.out⟩
end Go.Proofs.Ytnjafhlpnoikcaa
