/-
  The reference's Read. No condition.
-/
import Derived.Test.YtnjafhlpnoikcaaDkT
namespace Go.Proofs.Ytnjafhlpnoikcaa
open Go.RowKit
set_option linter.unusedVariables false

set_option maxRecDepth 100000 in
set_option maxHeartbeats 1600000 in
theorem rread_any (r : Nat) (s : DS) (M I : Nat → Prop) (a n : Int) (w : World) (h : RefAt w r s M I) (hn : n ≤ 9223372036854775807) :
    Calls Try.prog 42 #[.pointer (some ⟨r, 0, none⟩), .int .i64 a, .int .i64 n] w (ReadPost w (readS s a n)) := by
  obtain ⟨g, c, v, ws, h⟩ := h
  obtain ⟨c0, c1, c2, c3⟩ := h.cells
  have hN := h.ok.hi
  have hN64 := h.ok.lo
  have HI := Lib.hid (rinside_any r g s.dur.length c a n w hN hn c0)
  unfold readS
  cases ho : s.off with
  | true =>
    rw [ho] at c3
    rw [if_pos rfl]
    have HE := Lib.hid (read_none w 15)
    clear h ho
    go_enter Try.func42, Try.ntmps42
    go_wp2_with fail
    go_ret2
    exact HE.out
  | false =>
    rw [ho] at c3
    rw [if_neg (by decide)]
    cases hi : insideB s.dur.length a n with
    | false =>
      rw [hi] at HI
      have HE := Lib.hid (read_none w 5)
      rw [if_pos (by decide)]
      clear h ho hi
      go_enter Try.func42, Try.ntmps42
      go_wp2_with fail
      refine (HI.out).mono ?_
      rintro e w1 ⟨rfl, rfl⟩
      go_wp2_with fail
      go_ret2
      exact HE.out
    | true =>
      rw [hi] at HI
      rw [if_neg (by decide)]
      obtain ⟨a', n', rfl, rfl, han⟩ := inside_parts hi
      simp only [Int.toNat_natCast]
      obtain ⟨i5, hi5, hy0, hy1, hy2⟩ := info_parts byte_info
      have hrB := h.dur.reads 0 s.dur.length (by omega)
      rw [List.drop_zero, List.take_length] at hrB
      have HSB := Lib.hid (src_reads (P := Try.prog) _ Try.underlying32 c (hrB.alloc (Nat.le_refl _) (.cells #[] 5)) (byt_one s.dur))
      have HX := Lib.hid h
      have hrl := h.blk.lt
      obtain ⟨Av, cv, hv⟩ := h.waits.slice
      subst hv
      have hwl : ws.length ≤ 60 := by have := h.ok.few; rw [← h.wsv] at this; simpa using this
      clear h ho hi hrB
      go_enter Try.func42, Try.ntmps42
      go_wp2_with fail
      refine (HI.out).mono ?_
      rintro e w1 ⟨rfl, rfl⟩
      go_wp2_with (at_builtin; refine wpList_append_row _ rfl (.tmp 19) (.tmp 23) 32 32 rfl w.heap.size 5 i5 (.int .u8 0) 1 1 Try.underlying32 hi5 hy0 hy1 hy2 rfl (by decide) _ _ _ rfl (owns_none w 5) _ s.dur.length (s.dur.map byt) rfl HSB.out ?c1 ?c2 ?c3 ?_)
      case c1 => unfold maxLen; omega
      case c2 => omega
      case c3 => simp
      intro v2 w2 hown2 hg2
      have hB2 : Below w.heap.size w w2 := ((Below.refl _ w).alloc (Nat.le_refl _) _).trans (hg2.below (by simp) (fun g hg => by simp [Value.ownBlock] at hg; omega))
      obtain ⟨A2, ca, rfl, -, -⟩ := reads_of_owns hown2
      obtain ⟨ga, rfl, hga, hrow, -⟩ := RowB.of_own hown2 (by omega)
      have hNca := hrow.len
      have HX2 : Hid (RefX w2 r g c (.slice Av ws.length cv) ws s M I) := HX.out.chg (M' := fun b => w.heap.size ≤ b) (Chg.of_below hB2 (fun _ h => h)) (fun b hb hm => by have := HX.out.lt b (.inl hm); omega) (fun b hb hm => by have := HX.out.lt b (.inr hm); omega)
      have HIA : Hid (RSt w2 w2 ga ca (seenL s.dur (s.wait.take 0))) := ⟨Chg.refl _ _, hrow⟩
      have HB2 := Lib.hid hB2
      have HMN : Hid (∀ b, M b ∨ I b → b ≠ ga) := fun b hb e => by have := HX.out.lt b hb; omega
      have HGA := Lib.hid hga
      obtain ⟨N, hNN⟩ : ∃ N, s.dur.length = N := ⟨_, rfl⟩
      have HNN := Lib.hid hNN
      rw [hNN] at hNca hN hN64 han ⊢
      clear hown2 hg2 hB2 hrow hga HX HSB c0 c1 c2 c3 hi5 hy0 hy1 hy2 HI hNN
      go_wp2_with fail
      go_loopw [9] (fun i wr => ∃ k : Nat, k ≤ ws.length ∧ i = .int .i64 (k : Int) ∧ Hid (RSt w2 wr ga ca (seenL s.dur (s.wait.take k)))) (fun i _ => ws.length - (intOf i).toNat)
      case atStart => exact ⟨0, by omega, rfl, HIA⟩
      case round =>
        clear HIA
        obtain ⟨k, hk, rfl, HR⟩ := hrel
        have HXR : Hid (RefX wr r g c (.slice Av ws.length cv) ws s M I) := HX2.out.chg HR.out.chg (fun b e hm => HMN.out b (.inl hm) e) (fun b e hm => HMN.out b (.inr hm) e)
        have q1 := HXR.out.cells.2.1
        by_cases hlt : k < ws.length
        · obtain ⟨⟨p, b, A, cc⟩, hx⟩ : ∃ x, ws[k]? = some x := ⟨_, List.getElem?_eq_getElem hlt⟩
          have hW := HXR.out.waits
          obtain ⟨gv, c', hv, p0, p1⟩ := hW.at_ hx
          injection hv with hAv _ hcv
          subst hAv hcv
          obtain ⟨r1, r2, r3⟩ := hW.byt _ (List.mem_of_getElem? hx)
          have hsw : s.wait[k]? = some (p, b) := by rw [← HX2.out.wsv]; simp [hx, wof]
          have hfit := HX2.out.ok.fit _ (List.mem_of_getElem? hsw)
          have hab : p + b.length ≤ N := by rw [← HNN.out]; exact hfit.1
          have hlen : (seenL s.dur (s.wait.take k)).length = N := by rw [← HNN.out]; exact seen_len _ _ (fits_take HX2.out.ok.fit k) rfl
          have HLEN := Lib.hid hlen
          have HTK := Lib.hid (seen_take (d := s.dur) hsw)
          have HSG : Hid (RowB wr.drew ga ca (seenL s.dur (s.wait.take k))) := HR.out.dur
          have HRA : Hid (Reads wr.drew wr.heap.size 1 A b.length (b.map byt)) := r1
          have HST : Hid (∀ w5, RowB w5 ga ca (spl (seenL s.dur (s.wait.take k)) p b) → wr.drew.grownBy w5 (some ga) → RSt w2 w5 ga ca (seenL s.dur (s.wait.take (k + 1)))) := by
            intro w5 h5 hg5
            refine ⟨(HR.out.chg.drew).trans (Chg.of_grown (M := fun b => b = ga) hg5 (fun g e => by injection e with e; exact e.symm)) (fun _ _ h => h), ?_⟩
            rw [HTK.out]
            exact h5
          have haN' : p ≤ N := by omega
          have hkk : (k : Int) + 1 ≤ 60 := by omega
          clear hW r1 r2 r3 hsw hfit hlen hx HR HTK HX2 HXR
          by_cases haN : ca = p
          · have HBZ : Hid (b = []) := List.eq_nil_of_length_eq_zero (by omega)
            have hNa : N = p := by omega
            subst hNa
            subst haN
            have HP1 : Hid (([] : List Nat).length = Nat.min b.length 0) := by unfold Hid; simp
            have HP2 := Lib.hid (copyOk_nil wr.drew (some ⟨ga, 0, none⟩) A ga ca)
            have HP3 : Hid (ca + ([] : List Nat).length ≤ (seenL s.dur (s.wait.take k)).length) := by unfold Hid; rw [HLEN.out]; simp
            go_wp2_with fail
            refine region_tail 18 (by kernel_rfl) (by kernel_rfl) _ rfl ?_
            simp only [List.take_succ_cons, List.take_zero, List.drop_succ_cons, List.drop_zero]
            repeat (go_big_quiet_step (fail))
            refine wpQuiet_nil ?_
            go_wp2_with (refine wpList_copy_r (g := ga) (off := ca) (l := seenL s.dur (s.wait.take k)) (b := []) (dp := some ⟨ga, 0, none⟩) (dLen := 0) (dCap := 0) (sp := A) (sLen := b.length) (sCap := cc) rfl (.tmp 43) (.tmp 51) rfl rfl rfl HSG.out HP1.out HP2.out HP3.out ?_; intro w5 h5 hg5 _; have HF := Lib.hid (HST.out w5 (by rw [HBZ.out]; exact h5) hg5); clear h5 hg5)
            all_goals
              go_wp2_with fail
              go_roundw
              case rel => exact ⟨k + 1, by omega, by go_num, HF⟩
              case measure => simp [intOf]; omega
          · have HP1 : Hid (b.length = Nat.min b.length (N - p)) := (Nat.min_eq_left (by omega)).symm
            have HP2 := Lib.hid (copyOk_reads HRA.out ga p)
            have HP3 : Hid (p + b.length ≤ (seenL s.dur (s.wait.take k)).length) := by unfold Hid; rw [HLEN.out]; omega
            go_wp2_with fail
            refine region_tail 18 (by kernel_rfl) (by kernel_rfl) _ rfl ?_
            simp only [List.take_succ_cons, List.take_zero, List.drop_succ_cons, List.drop_zero]
            repeat (go_big_quiet_step (fail))
            refine wpQuiet_nil ?_
            go_wp2_with (refine wpList_copy_r (g := ga) (off := p) (l := seenL s.dur (s.wait.take k)) (b := b) (dp := some ⟨ga, p, none⟩) (dLen := N - p) (dCap := ca - p) (sp := A) (sLen := b.length) (sCap := cc) rfl (.tmp 43) (.tmp 51) rfl rfl rfl HSG.out HP1.out HP2.out HP3.out ?_; intro w5 h5 hg5 _; have HF := Lib.hid (HST.out w5 h5 hg5); clear h5 hg5)
            all_goals
              go_wp2_with fail
              go_roundw
              case rel => exact ⟨k + 1, by omega, by go_num, HF⟩
              case measure => simp [intOf]; omega
        · obtain rfl : k = ws.length := by omega
          have hwt : s.wait.length = ws.length := by rw [← HX2.out.wsv]; simp
          have htk : s.wait.take ws.length = s.wait := List.take_of_length_le (by omega)
          have hR := HR.out
          rw [htk] at hR
          have hsl : (seenL s.dur s.wait).length = N := by rw [← HNN.out]; exact seen_len _ _ HX2.out.ok.fit rfl
          obtain ⟨D, hD⟩ : ∃ D, seenL s.dur s.wait = D := ⟨_, rfl⟩
          have HDD := Lib.hid hD
          rw [hD] at hR hsl
          have hbl : ((D.drop a').take n').length = n' := by simp; omega
          have hrd := hR.dur.reads a' n' (by omega)
          have hbe : Below w.heap.size w wr := HB2.out.trans (hR.chg.below HB2.out.size (fun i e => by rw [e]; exact HGA.out))
          obtain ⟨B, hB⟩ : ∃ B, (D.drop a').take n' = B := ⟨_, rfl⟩
          have HBB := Lib.hid hB
          rw [hB] at hbl hrd
          have HE : Hid (∀ A cc, (n' = 0 ∨ A = some ⟨ga, a', none⟩) → (∀ ad, A = some ad → ad.block = ga) → n' ≤ cc → ReadPost w (B, 0) (.returned (.tuple #[.slice A n' cc, .int .i64 0])) wr) := by
            intro A cc hA hA2 hcc
            refine ⟨A, cc, by rw [← hbl], ?_, by rw [hbl]; exact hcc, fun ad e => by rw [hA2 ad e]; exact HGA.out, hbe⟩
            rw [hbl]
            rcases hA with hA | hA
            · have hb0 : B = [] := List.eq_nil_of_length_eq_zero (by omega)
              rw [hb0, hA]
              exact Reads.none_
            · rw [hA]; exact hrd
          have hle1 : a' ≤ a' + n' := by omega
          have hle2 : a' + n' ≤ ca := by omega
          clear hwt htk hR hsl hD hbl hrd hbe hB HR HXR HX2
          by_cases hcaa : ca = a'
          · have hn0 : n' = 0 := by omega
            subst hn0
            subst hcaa
            have HE2 : Hid (ReadPost w (List.take 0 (List.drop ca (seenL s.dur s.wait)), 0) (.returned (.tuple #[.slice (some ⟨ga, 0, none⟩) 0 0, .int .i64 0])) wr) := by
             unfold Hid
             rw [HDD.out, HBB.out]
             exact HE.out _ 0 (.inl rfl) (fun ad e => by injection e with e; rw [← e]) (Nat.le_refl _)
            clear HE
            go_wp2_with fail
            go_ret2
            exact HE2.out
          · have HE2 : Hid (ReadPost w (List.take n' (List.drop a' (seenL s.dur s.wait)), 0) (.returned (.tuple #[.slice (some ⟨ga, a', none⟩) (a' + n' - a') (ca - a'), .int .i64 0])) wr) := by
             unfold Hid
             rw [HDD.out, HBB.out, show a' + n' - a' = n' by omega]
             exact HE.out _ (ca - a') (.inr rfl) (fun ad e => by injection e with e; rw [← e]) (by omega)
            clear HE
            go_wp2_with fail
            go_ret2
            exact HE2.out
end Go.Proofs.Ytnjafhlpnoikcaa
