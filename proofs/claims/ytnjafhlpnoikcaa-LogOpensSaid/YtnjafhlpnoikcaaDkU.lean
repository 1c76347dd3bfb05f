/-
  The reference's Crash. No condition.
-/
import Derived.Test.YtnjafhlpnoikcaaDkT
namespace Go.Proofs.Ytnjafhlpnoikcaa
open Go.RowKit
set_option linter.unusedVariables false

def RCrashPost (w : World) (r : Nat) (s : DS) (M I : Nat → Prop) (keep : List Bool) (part : Int) (e : Ending) (w' : World) : Prop :=
  e = .returned (.tuple #[]) ∧ RThen w r (crashS s keep part) M I w'
theorem reads_pre {w : World} {B : Nat} {A : Option Addr} {l : List Nat} (k : Nat) (h : Reads w B 1 A l.length (l.map byt)) : Reads w B 1 A (l.take k).length ((l.take k).map byt) := by
  refine ⟨by simp, fun hp => ?_⟩
  have hlt : 0 < l.length := by simp at hp; omega
  obtain ⟨ad, e, hb, hc⟩ := h.2 hlt
  refine ⟨ad, e, hb, fun j u hu => hc j u ?_⟩
  rw [List.map_take, List.getElem?_take] at hu
  split at hu
  · exact hu
  · cases hu

set_option maxRecDepth 100000 in
set_option maxHeartbeats 3200000 in
theorem rcrash_any (r : Nat) (s : DS) (M I : Nat → Prop) (K : Option Addr) (ck : Nat) (keep : List Bool) (part : Int) (w : World) (h : RefAt w r s M I) (hkl : keep.length ≤ 1000000000000) (hkr : Reads w w.heap.size 1 K keep.length (keep.map Value.bool)) (hK : 0 < keep.length → ∀ ad, K = some ad → ¬ M ad.block) :
    Calls Try.prog 28 #[.pointer (some ⟨r, 0, none⟩), .slice K keep.length ck, .int .i64 part] w (RCrashPost w r s M I keep part) := by
  obtain ⟨g, c, v, ws, h⟩ := h
  have HX := Lib.hid h
  have HKR := Lib.hid hkr
  have HK := Lib.hid hK
  obtain ⟨Av, cv, hv⟩ := h.waits.slice
  subst hv
  have hwl : ws.length ≤ 60 := by have := h.ok.few; rw [← h.wsv] at this; simpa using this
  obtain ⟨cl, hcl⟩ : ∃ cl, crashL keep part 0 true s.wait = cl := ⟨_, rfl⟩
  have HI : Hid (RSt w w g c (seenL s.dur (cl.take 0))) := ⟨Chg.refl _ _, h.dur⟩
  have HCL := Lib.hid hcl
  have HA0 : Hid (allK keep 0 0 = true) := rfl
  clear h hkr hK hcl
  go_enter Try.func28, Try.ntmps28
  go_wp2_with fail
  go_loopw [6, 7] (fun f i wr => ∃ k : Nat, k ≤ ws.length ∧ i = .int .i64 (k : Int) ∧ f = .bool (!allK keep 0 k) ∧ Hid (RSt w wr g c (seenL s.dur (cl.take k)))) (fun _ i _ => ws.length - (intOf i).toNat)
  case atStart => exact ⟨0, by omega, rfl, by rw [HA0.out]; rfl, HI⟩
  case round =>
    clear HI HA0
    obtain ⟨k, hk, rfl, rfl, HR⟩ := hrel
    have hB := HX.out.blk.chg HR.out.chg (fun e => HX.out.ds.1 e.symm)
    have q0 : wr.cell? ⟨r, 0, none⟩ = some (.slice (some ⟨g, 0, none⟩) s.dur.length c) := by rw [hB.cell]; rfl
    have q1 : wr.cell? ⟨r, 1, none⟩ = some (.slice Av ws.length cv) := by rw [hB.cell]; rfl
    by_cases hlt : k < ws.length
    · obtain ⟨⟨a, b, A, cc⟩, hx⟩ : ∃ x, ws[k]? = some x := ⟨_, List.getElem?_eq_getElem hlt⟩
      have hW := rsync_wait HX.out HR.out.chg
      obtain ⟨gv, c', hv, p0, p1⟩ := hW.at_ hx
      injection hv with hAv _ hcv
      subst hAv hcv
      obtain ⟨r1, r2, r3⟩ := hW.byt _ (List.mem_of_getElem? hx)
      have r3' : b.length ≤ cc := r3
      have hsw : s.wait[k]? = some (a, b) := by rw [← HX.out.wsv]; simp [hx, wof]
      have hfit := HX.out.ok.fit _ (List.mem_of_getElem? hsw)
      have hab : a + b.length ≤ s.dur.length := hfit.1
      have hN := HX.out.ok.hi
      have hNc := HX.out.dur.len
      obtain ⟨N, hNN⟩ : ∃ N, s.dur.length = N := ⟨_, rfl⟩
      rw [hNN] at q0 hab hN hNc
      have hcf : fits s.dur.length cl := by rw [← HCL.out]; exact crash_fits keep part _ _ _ HX.out.ok.fit
      have hlen : (seenL s.dur (cl.take k)).length = N := by rw [← hNN]; exact seen_len _ _ (fits_take hcf k) rfl
      have HLEN := Lib.hid hlen
      have hca := crash_at keep part s.wait 0 true k (a, b) hsw
      rw [HCL.out, Nat.zero_add, Bool.true_and] at hca
      have HTK := Lib.hid (seen_take (d := s.dur) hca)
      have HR1 : Hid (Reads wr wr.heap.size 1 A b.length (b.map byt)) := r1
      have HKW : Hid (Reads wr w.heap.size 1 K keep.length (keep.map Value.bool)) := HKR.out.chg0 HR.out.chg (Nat.le_refl _) (fun hn ad e hm => HK.out hn ad e (by rw [hm]; exact HX.out.mg))
      have hlw := hB.lt
      have hgw := World.block_lt_of_cell? wr _ p0
      have haN' : a ≤ N := by omega
      have hkk : (k : Int) + 1 ≤ 60 := by omega
      obtain ⟨f0, hf0⟩ : ∃ f0, allK keep 0 k = f0 := ⟨_, rfl⟩
      obtain ⟨kb, hkb⟩ : ∃ kb, keep.getD k false = kb := ⟨_, rfl⟩
      have HAS := Lib.hid (allK_snoc keep 0 k)
      rw [Nat.zero_add, hf0, hkb] at HAS
      have five : (∃ bk o, K = some ⟨bk, o, none⟩ ∧ bk < wr.heap.size ∧ k < keep.length ∧ wr.cell? ⟨bk, o + k, none⟩ = some (.bool kb)) ∨ (keep.length ≤ k ∧ kb = false) := by
        by_cases h1 : k < keep.length
        · obtain ⟨bk, o, e, hb, hc⟩ := HKW.out.head (by omega) (by omega)
          have h2 := hc k (.bool keep[k]) (by simp [h1])
          have h3 : keep.getD k false = keep[k] := by simp [h1]
          have h5 := World.block_lt_of_cell? wr _ h2
          exact .inl ⟨bk, o, e, h5, h1, by rw [← hkb, h3]; exact h2⟩
        · exact .inr ⟨by omega, by rw [← hkb, List.getD_eq_getElem?_getD, List.getElem?_eq_none (by omega)]; rfl⟩
      obtain ⟨W, hW'⟩ : ∃ W, wr.alloc (.cells #[.int .i64 (a : Int), .slice A b.length cc] 83) = W := ⟨_, rfl⟩
      have HW := Lib.hid hW'
      have j0 : W.cell? ⟨wr.heap.size, 0, none⟩ = some (.int .i64 (a : Int)) := by rw [← hW']; exact (Blk.new wr 83 _).cell 0
      have j1 : W.cell? ⟨wr.heap.size, 1, none⟩ = some (.slice A b.length cc) := by rw [← hW']; exact (Blk.new wr 83 _).cell 1
      have j2 : W.cell? ⟨r, 0, none⟩ = some (.slice (some ⟨g, 0, none⟩) N c) := by rw [← hW']; exact (World.cell?_alloc_lt wr _ _ hlw).trans q0
      have HSG : Hid (RowB W.drew g c (seenL s.dur (cl.take k))) := by
        rw [← hW']
        obtain ⟨cs, z1, z2⟩ := HR.out.dur
        exact ⟨cs, z1.alloc _, z2⟩
      have HRA : Hid (Reads W.drew wr.heap.size 1 A b.length (b.map byt)) := by rw [← hW']; exact HR1.out.alloc (Nat.le_refl _) _
      have HCG : Hid (Chg w W (fun b => b = g)) := by rw [← hW']; exact HR.out.chg.alloc _
      have HST : Hid (∀ (m : Nat) (f : Bool), tornP keep part k f0 (a, b) = (a, b.take m) → (!f) = allK keep 0 (k + 1) → ∀ w5, RowB w5 g c (spl (seenL s.dur (cl.take k)) a (b.take m)) → Chg W w5 (fun b => b = g) → Value.bool f = .bool (!allK keep 0 (k + 1)) ∧ RSt w w5 g c (seenL s.dur (cl.take (k + 1)))) := by
        intro m f hm hf w5 h5 hg5
        refine ⟨by rw [← hf]; simp, HCG.out.trans hg5 (fun _ _ h => h), ?_⟩
        rw [HTK.out, hf0, hm]
        exact h5
      have HTN : Hid (∀ m : Nat, (kb = true → m = b.length) → (kb = false → f0 = true → m = clampP part b.length) → (kb = false → f0 = false → m = 0) → tornP keep part k f0 (a, b) = (a, b.take m)) := by
        intro m h1 h2 h3
        unfold tornP
        rw [hkb]
        cases kb
        · cases f0
          · rw [h3 rfl rfl]; simp
          · rw [h2 rfl rfl]; simp
        · rw [h1 rfl]; simp
      have HFIV := Lib.hid five
      rw [hf0]
      clear hW hW' hB r1 r2 r3 hsw hfit hNN hlen hx hca HR HTK HX hcf HKR HK HR1 five HKW hkb hf0
      go_upto_region 5 with fail
      go_cut [34] (fun t wx => t = .bool kb ∧ wx = W)
      case first =>
        rcases HFIV.out with ⟨bk, o, rfl, h0, h1, h2⟩ | ⟨h1, rfl⟩
        · have d1 : decide (k < keep.length) = true := by simpa using h1
          clear HFIV
          go_wp2_with fail
          go_meet
          exact ⟨rfl, HW.out⟩
        · have d1 : decide (k < keep.length) = false := by simpa using h1
          clear HFIV
          go_wp2_with fail
          go_meet
          exact ⟨rfl, HW.out⟩
      case rest =>
        obtain ⟨rfl, rfl⟩ := hcut
        clear HFIV q0 q1 p0 p1
        have HGC : Hid (∀ w5, wc.drew.grownBy w5 (some g) → Chg wc w5 (fun b => b = g)) := fun w5 hg5 => (Chg.refl wc (fun b => b = g)).drew.trans (Chg.of_grown (M := fun b => b = g) hg5 (fun g e => by injection e with e; exact e.symm)) (fun _ _ h => h)
        cases kb
        · cases f0
          · -- the torn one was before
            have HF := Lib.hid (HST.out 0 true (HTN.out 0 (by simp) (by simp) (fun _ _ => rfl)) (by rw [HAS.out]; rfl) wc (by rw [List.take_zero, spl_nil]; exact HSG.out) (Chg.refl _ _))
            clear HST HTN HAS HSG HRA HCG HGC
            go_wp2_with fail
            go_roundw
            case rel => exact ⟨k + 1, by omega, by go_num, HF.out.1, HF.out.2⟩
            case measure => simp [intOf]; omega
          · have HS1 := Lib.hid (HST.out (clampP part b.length) true (HTN.out _ (by simp) (fun _ _ => rfl) (by simp)) (by rw [HAS.out]; rfl))
            have hcm : (part < 0 ∧ clampP part b.length = 0) ∨ (∃ p : Nat, part = p ∧ p ≤ b.length ∧ clampP part b.length = p) ∨ ((b.length : Int) < part ∧ clampP part b.length = b.length) := by
              by_cases h1 : part < 0
              · exact .inl ⟨h1, by unfold clampP; omega⟩
              · by_cases h2 : part ≤ b.length
                · exact .inr (.inl ⟨part.toNat, by omega, by omega, by unfold clampP; omega⟩)
                · exact .inr (.inr ⟨by omega, by unfold clampP; omega⟩)
            clear HST HTN HAS HCG
            rcases hcm with ⟨hp, hc0⟩ | ⟨p, rfl, hp, hc0⟩ | ⟨hp, hc0⟩
            · rw [hc0] at HS1
              have HS2 : Hid (∀ w5, RowB w5 g c (spl (seenL s.dur (cl.take k)) a (b.take 0)) → wc.drew.grownBy w5 (some g) → Value.bool true = .bool (!allK keep 0 (k + 1)) ∧ RSt w w5 g c (seenL s.dur (cl.take (k + 1)))) := fun w5 h5 hg5 => HS1.out w5 h5 (HGC.out w5 hg5)
              have HRM := Lib.hid (reads_pre 0 HRA.out)
              have HBL : Hid ((b.take 0).length = 0) := by unfold Hid; simp
              clear HS1 HGC HRA hc0
              have n1 : (if (b.length : Int) < 0 then (b.length : Int) else 0) = 0 := if_neg (by omega)
              by_cases haN : c = a
              · have HBZ : Hid (b.take 0 = []) := List.eq_nil_of_length_eq_zero (by have := HBL.out; omega)
                have hNa : N = a := by omega
                subst hNa
                subst haN
                have HP1 : Hid (([] : List Nat).length = Nat.min 0 0) := by unfold Hid; simp
                have HP2 := Lib.hid (copyOk_nil wc.drew (some ⟨g, 0, none⟩) A g c)
                have HP3 : Hid (c + ([] : List Nat).length ≤ (seenL s.dur (cl.take k)).length) := by unfold Hid; rw [HLEN.out]; simp
                go_wp2_with fail
                refine region_tail 16 (by kernel_rfl) (by kernel_rfl) _ rfl ?_
                simp only [List.take_succ_cons, List.take_zero, List.drop_succ_cons, List.drop_zero]
                repeat (go_big_quiet_step (fail))
                refine wpQuiet_nil ?_
                go_wp2_with (refine wpList_copy_r (g := g) (off := c) (l := seenL s.dur (cl.take k)) (b := []) (dp := some ⟨g, 0, none⟩) (dLen := 0) (dCap := 0) (sp := A) (sLen := 0) (sCap := cc) rfl (.tmp 53) (.tmp 62) rfl rfl rfl HSG.out HP1.out HP2.out HP3.out ?_; intro w5 h5 hg5 _; have HF := Lib.hid (HS2.out w5 (by rw [HBZ.out]; exact h5) hg5); clear h5 hg5)
                all_goals
                  go_wp2_with fail
                  go_roundw
                  case rel => exact ⟨k + 1, by omega, by go_num, HF.out.1, HF.out.2⟩
                  case measure => simp [intOf]; omega
              · have HP1 : Hid ((b.take 0).length = Nat.min 0 (N - a)) := by have := HBL.out; unfold Hid; rw [this]; exact (Nat.min_eq_left (by omega)).symm
                have HP2 := Lib.hid (copyOk_reads (HRM.out) g a)
                have HP3 : Hid (a + (b.take 0).length ≤ (seenL s.dur (cl.take k)).length) := by have := HBL.out; unfold Hid; rw [HLEN.out, this]; omega
                go_wp2_with fail
                refine region_tail 16 (by kernel_rfl) (by kernel_rfl) _ rfl ?_
                simp only [List.take_succ_cons, List.take_zero, List.drop_succ_cons, List.drop_zero]
                repeat (go_big_quiet_step (fail))
                refine wpQuiet_nil ?_
                go_wp2_with (refine wpList_copy_r (g := g) (off := a) (l := seenL s.dur (cl.take k)) (b := b.take 0) (dp := some ⟨g, a, none⟩) (dLen := N - a) (dCap := c - a) (sp := A) (sLen := 0) (sCap := cc) rfl (.tmp 53) (.tmp 62) rfl rfl rfl HSG.out HP1.out HP2.out HP3.out ?_; intro w5 h5 hg5 _; have HF := Lib.hid (HS2.out w5 h5 hg5); clear h5 hg5)
                all_goals
                  go_wp2_with fail
                  go_roundw
                  case rel => exact ⟨k + 1, by omega, by go_num, HF.out.1, HF.out.2⟩
                  case measure => simp [intOf]; omega
            · rw [hc0] at HS1
              have HS2 : Hid (∀ w5, RowB w5 g c (spl (seenL s.dur (cl.take k)) a (b.take p)) → wc.drew.grownBy w5 (some g) → Value.bool true = .bool (!allK keep 0 (k + 1)) ∧ RSt w w5 g c (seenL s.dur (cl.take (k + 1)))) := fun w5 h5 hg5 => HS1.out w5 h5 (HGC.out w5 hg5)
              have HRM := Lib.hid (reads_pre p HRA.out)
              have HBL : Hid ((b.take p).length = p) := by unfold Hid; rw [List.length_take]; omega
              clear HS1 HGC HRA hc0
              have n1 : (if (p : Int) < 0 then (0 : Int) else (p : Int)) = p := if_neg (by omega)
              have n2 : (if (b.length : Int) < (p : Int) then (b.length : Int) else (p : Int)) = p := if_neg (by omega)
              have n3 : p ≤ cc := by omega
              by_cases haN : c = a
              · have HBZ : Hid (b.take p = []) := List.eq_nil_of_length_eq_zero (by have := HBL.out; omega)
                have hNa : N = a := by omega
                subst hNa
                subst haN
                have HP1 : Hid (([] : List Nat).length = Nat.min p 0) := by unfold Hid; simp
                have HP2 := Lib.hid (copyOk_nil wc.drew (some ⟨g, 0, none⟩) A g c)
                have HP3 : Hid (c + ([] : List Nat).length ≤ (seenL s.dur (cl.take k)).length) := by unfold Hid; rw [HLEN.out]; simp
                go_wp2_with fail
                refine region_tail 16 (by kernel_rfl) (by kernel_rfl) _ rfl ?_
                simp only [List.take_succ_cons, List.take_zero, List.drop_succ_cons, List.drop_zero]
                repeat (go_big_quiet_step (fail))
                refine wpQuiet_nil ?_
                go_wp2_with (refine wpList_copy_r (g := g) (off := c) (l := seenL s.dur (cl.take k)) (b := []) (dp := some ⟨g, 0, none⟩) (dLen := 0) (dCap := 0) (sp := A) (sLen := p) (sCap := cc) rfl (.tmp 53) (.tmp 62) rfl rfl rfl HSG.out HP1.out HP2.out HP3.out ?_; intro w5 h5 hg5 _; have HF := Lib.hid (HS2.out w5 (by rw [HBZ.out]; exact h5) hg5); clear h5 hg5)
                all_goals
                  go_wp2_with fail
                  go_roundw
                  case rel => exact ⟨k + 1, by omega, by go_num, HF.out.1, HF.out.2⟩
                  case measure => simp [intOf]; omega
              · have HP1 : Hid ((b.take p).length = Nat.min p (N - a)) := by have := HBL.out; unfold Hid; rw [this]; exact (Nat.min_eq_left (by omega)).symm
                have HP2 := Lib.hid (copyOk_reads (HRM.out) g a)
                have HP3 : Hid (a + (b.take p).length ≤ (seenL s.dur (cl.take k)).length) := by have := HBL.out; unfold Hid; rw [HLEN.out, this]; omega
                go_wp2_with fail
                refine region_tail 16 (by kernel_rfl) (by kernel_rfl) _ rfl ?_
                simp only [List.take_succ_cons, List.take_zero, List.drop_succ_cons, List.drop_zero]
                repeat (go_big_quiet_step (fail))
                refine wpQuiet_nil ?_
                go_wp2_with (refine wpList_copy_r (g := g) (off := a) (l := seenL s.dur (cl.take k)) (b := b.take p) (dp := some ⟨g, a, none⟩) (dLen := N - a) (dCap := c - a) (sp := A) (sLen := p) (sCap := cc) rfl (.tmp 53) (.tmp 62) rfl rfl rfl HSG.out HP1.out HP2.out HP3.out ?_; intro w5 h5 hg5 _; have HF := Lib.hid (HS2.out w5 h5 hg5); clear h5 hg5)
                all_goals
                  go_wp2_with fail
                  go_roundw
                  case rel => exact ⟨k + 1, by omega, by go_num, HF.out.1, HF.out.2⟩
                  case measure => simp [intOf]; omega
            · rw [hc0] at HS1
              have HS2 : Hid (∀ w5, RowB w5 g c (spl (seenL s.dur (cl.take k)) a b) → wc.drew.grownBy w5 (some g) → Value.bool true = .bool (!allK keep 0 (k + 1)) ∧ RSt w w5 g c (seenL s.dur (cl.take (k + 1)))) := fun w5 h5 hg5 => HS1.out w5 (by rw [List.take_length]; exact h5) (HGC.out w5 hg5)
              have HRM := Lib.hid HRA.out
              have HBL : Hid (b.length = b.length) := rfl
              clear HS1 HGC HRA hc0
              have n1 : (if part < 0 then (0 : Int) else part) = part := if_neg (by omega)
              have n2 : (if (b.length : Int) < part then (b.length : Int) else part) = b.length := if_pos (by omega)
              by_cases haN : c = a
              · have HBZ : Hid (b = []) := List.eq_nil_of_length_eq_zero (by have := HBL.out; omega)
                have hNa : N = a := by omega
                subst hNa
                subst haN
                have HP1 : Hid (([] : List Nat).length = Nat.min b.length 0) := by unfold Hid; simp
                have HP2 := Lib.hid (copyOk_nil wc.drew (some ⟨g, 0, none⟩) A g c)
                have HP3 : Hid (c + ([] : List Nat).length ≤ (seenL s.dur (cl.take k)).length) := by unfold Hid; rw [HLEN.out]; simp
                go_wp2_with fail
                refine region_tail 16 (by kernel_rfl) (by kernel_rfl) _ rfl ?_
                simp only [List.take_succ_cons, List.take_zero, List.drop_succ_cons, List.drop_zero]
                repeat (go_big_quiet_step (fail))
                refine wpQuiet_nil ?_
                go_wp2_with (refine wpList_copy_r (g := g) (off := c) (l := seenL s.dur (cl.take k)) (b := []) (dp := some ⟨g, 0, none⟩) (dLen := 0) (dCap := 0) (sp := A) (sLen := b.length) (sCap := cc) rfl (.tmp 53) (.tmp 62) rfl rfl rfl HSG.out HP1.out HP2.out HP3.out ?_; intro w5 h5 hg5 _; have HF := Lib.hid (HS2.out w5 (by rw [HBZ.out]; exact h5) hg5); clear h5 hg5)
                all_goals
                  go_wp2_with fail
                  go_roundw
                  case rel => exact ⟨k + 1, by omega, by go_num, HF.out.1, HF.out.2⟩
                  case measure => simp [intOf]; omega
              · have HP1 : Hid ((b).length = Nat.min b.length (N - a)) := by have := HBL.out; unfold Hid; rw [this]; exact (Nat.min_eq_left (by omega)).symm
                have HP2 := Lib.hid (copyOk_reads (HRM.out) g a)
                have HP3 : Hid (a + (b).length ≤ (seenL s.dur (cl.take k)).length) := by have := HBL.out; unfold Hid; rw [HLEN.out, this]; omega
                go_wp2_with fail
                refine region_tail 16 (by kernel_rfl) (by kernel_rfl) _ rfl ?_
                simp only [List.take_succ_cons, List.take_zero, List.drop_succ_cons, List.drop_zero]
                repeat (go_big_quiet_step (fail))
                refine wpQuiet_nil ?_
                go_wp2_with (refine wpList_copy_r (g := g) (off := a) (l := seenL s.dur (cl.take k)) (b := b) (dp := some ⟨g, a, none⟩) (dLen := N - a) (dCap := c - a) (sp := A) (sLen := b.length) (sCap := cc) rfl (.tmp 53) (.tmp 62) rfl rfl rfl HSG.out HP1.out HP2.out HP3.out ?_; intro w5 h5 hg5 _; have HF := Lib.hid (HS2.out w5 h5 hg5); clear h5 hg5)
                all_goals
                  go_wp2_with fail
                  go_roundw
                  case rel => exact ⟨k + 1, by omega, by go_num, HF.out.1, HF.out.2⟩
                  case measure => simp [intOf]; omega
        · have HS1 := Lib.hid (HST.out b.length (!f0) (HTN.out b.length (fun _ => rfl) (by simp) (by simp)) (by rw [HAS.out]; simp))
          have HS2 : Hid (∀ w5, RowB w5 g c (spl (seenL s.dur (cl.take k)) a b) → wc.drew.grownBy w5 (some g) → Value.bool (!f0) = .bool (!allK keep 0 (k + 1)) ∧ RSt w w5 g c (seenL s.dur (cl.take (k + 1)))) := fun w5 h5 hg5 => HS1.out w5 (by rw [List.take_length]; exact h5) (HGC.out w5 hg5)
          have HRM := Lib.hid HRA.out
          have HBL : Hid (b.length = b.length) := rfl
          clear HST HTN HAS HCG HS1 HGC HRA
          by_cases haN : c = a
          · have HBZ : Hid (b = []) := List.eq_nil_of_length_eq_zero (by have := HBL.out; omega)
            have hNa : N = a := by omega
            subst hNa
            subst haN
            have HP1 : Hid (([] : List Nat).length = Nat.min b.length 0) := by unfold Hid; simp
            have HP2 := Lib.hid (copyOk_nil wc.drew (some ⟨g, 0, none⟩) A g c)
            have HP3 : Hid (c + ([] : List Nat).length ≤ (seenL s.dur (cl.take k)).length) := by unfold Hid; rw [HLEN.out]; simp
            go_wp2_with fail
            refine region_tail 9 (by kernel_rfl) (by kernel_rfl) _ rfl ?_
            simp only [List.take_succ_cons, List.take_zero, List.drop_succ_cons, List.drop_zero]
            repeat (go_big_quiet_step (fail))
            refine wpQuiet_nil ?_
            go_wp2_with (refine wpList_copy_r (g := g) (off := c) (l := seenL s.dur (cl.take k)) (b := []) (dp := some ⟨g, 0, none⟩) (dLen := 0) (dCap := 0) (sp := A) (sLen := b.length) (sCap := cc) rfl (.tmp 41) (.tmp 43) rfl rfl rfl HSG.out HP1.out HP2.out HP3.out ?_; intro w5 h5 hg5 _; have HF := Lib.hid (HS2.out w5 (by rw [HBZ.out]; exact h5) hg5); clear h5 hg5)
            all_goals
              go_wp2_with fail
              go_roundw
              case rel => exact ⟨k + 1, by omega, by go_num, HF.out.1, HF.out.2⟩
              case measure => simp [intOf]; omega
          · have HP1 : Hid ((b).length = Nat.min b.length (N - a)) := by have := HBL.out; unfold Hid; rw [this]; exact (Nat.min_eq_left (by omega)).symm
            have HP2 := Lib.hid (copyOk_reads (HRM.out) g a)
            have HP3 : Hid (a + (b).length ≤ (seenL s.dur (cl.take k)).length) := by have := HBL.out; unfold Hid; rw [HLEN.out, this]; omega
            go_wp2_with fail
            refine region_tail 9 (by kernel_rfl) (by kernel_rfl) _ rfl ?_
            simp only [List.take_succ_cons, List.take_zero, List.drop_succ_cons, List.drop_zero]
            repeat (go_big_quiet_step (fail))
            refine wpQuiet_nil ?_
            go_wp2_with (refine wpList_copy_r (g := g) (off := a) (l := seenL s.dur (cl.take k)) (b := b) (dp := some ⟨g, a, none⟩) (dLen := N - a) (dCap := c - a) (sp := A) (sLen := b.length) (sCap := cc) rfl (.tmp 41) (.tmp 43) rfl rfl rfl HSG.out HP1.out HP2.out HP3.out ?_; intro w5 h5 hg5 _; have HF := Lib.hid (HS2.out w5 h5 hg5); clear h5 hg5)
            all_goals
              go_wp2_with fail
              go_roundw
              case rel => exact ⟨k + 1, by omega, by go_num, HF.out.1, HF.out.2⟩
              case measure => simp [intOf]; omega
    · obtain rfl : k = ws.length := by omega
      have hx := HX.out
      have hwt : s.wait.length = ws.length := by rw [← hx.wsv]; simp
      have hcl2 : cl.length = ws.length := by rw [← HCL.out, crash_len, hwt]
      have htk : cl.take ws.length = cl := List.take_of_length_le (by omega)
      have hcf : fits s.dur.length cl := by rw [← HCL.out]; exact crash_fits keep part _ _ _ hx.ok.fit
      have y1 := hB.frozen 1
      have y2 := hB.frozen 2
      have y3 := hB.frozen 3
      have q2 : wr.cell? ⟨r, 2, none⟩ = some (.int .i64 (leftR s.fuse)) := by rw [hB.cell]; rfl
      have q3 : wr.cell? ⟨r, 3, none⟩ = some (.bool s.off) := by rw [hB.cell]; rfl
      have HE : Hid (RThen w r (crashS s keep part) M I (((wr.setCell ⟨r, 1, none⟩ (.slice none 0 0)).setCell ⟨r, 2, none⟩ (.int .i64 (-1))).setCell ⟨r, 3, none⟩ (.bool false))) := by
        have hR := HR.out
        rw [htk] at hR
        have c7 := ((chg_d wr r 1 (.slice none 0 0)).setd 2 (.int .i64 (-1))).setd 3 (.bool false)
        have hcc : Chg w _ M := (hR.chg.mono (M' := M) (fun i e => by rw [e]; exact hx.mg)).trans c7 (fun i _ h => by rw [h]; exact hx.mr)
        have hb := ((hB.set_ 1 (.slice none 0 0)).set_ 2 (.int .i64 (-1))).set_ 3 (.bool false)
        have := rsettle hx (D := seenL s.dur cl) (off' := false) (fuse' := none) (seen_len _ _ hcf rfl) (seen_mem _ _ hcf hx.ok.byt) hcc (by simpa [leftR] using hb) (hR.dur.chg c7 hx.ds.1) (by simp [leftR])
        unfold crashS
        rw [HCL.out]
        exact rthen_same ⟨g, c, _, [], this⟩ hcc
      clear hx hwt hcl2 htk hcf HR HX hB
      go_wp2_with fail
      go_end0
      exact ⟨rfl, HE.out⟩
end Go.Proofs.Ytnjafhlpnoikcaa
