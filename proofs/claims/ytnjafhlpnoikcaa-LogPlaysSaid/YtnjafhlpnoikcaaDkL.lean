/-
  Crash. No condition.
-/
import Derived.Test.YtnjafhlpnoikcaaDkK
import Derived.Deep.DeepCutAuto
namespace Go.Proofs.Ytnjafhlpnoikcaa
open Go.RowKit
set_option linter.unusedVariables false

def allK (keep : List Bool) (i k : Nat) : Bool := (List.range k).all (fun j => keep.getD (i + j) false)
theorem allK_succ (keep : List Bool) (i k : Nat) : allK keep i (k + 1) = (keep.getD i false && allK keep (i + 1) k) := by
  unfold allK
  rw [List.range_succ_eq_map]
  simp only [List.all_cons, Nat.add_zero, List.all_map]
  congr 1
  refine congrArg (fun f => (List.range k).all f) ?_
  funext j
  simp only [Function.comp, Nat.succ_eq_add_one]
  rw [show i + (j + 1) = i + 1 + j by omega]
theorem allK_snoc (keep : List Bool) (i k : Nat) : allK keep i (k + 1) = (allK keep i k && keep.getD (i + k) false) := by
  unfold allK
  rw [List.range_succ]
  simp
theorem crash_len (keep : List Bool) (part : Int) : ∀ (l : List (Nat × List Nat)) (i : Nat) (f : Bool), (crashL keep part i f l).length = l.length
  | [], i, f => rfl
  | p :: l, i, f => by
    unfold crashL
    split <;> simp [crash_len keep part l]
def tornP (keep : List Bool) (part : Int) (k : Nat) (f : Bool) (p : Nat × List Nat) : Nat × List Nat :=
  if keep.getD k false then p else (p.1, p.2.take (if f then clampP part p.2.length else 0))
theorem crash_at (keep : List Bool) (part : Int) : ∀ (l : List (Nat × List Nat)) (i : Nat) (f : Bool) (k : Nat) (p : Nat × List Nat), l[k]? = some p →
    (crashL keep part i f l)[k]? = some (tornP keep part (i + k) (f && allK keep i k) p)
  | [], i, f, k, p, h => by simp at h
  | q :: l, i, f, 0, p, h => by
    simp at h; subst h
    unfold crashL tornP
    have : allK keep i 0 = true := rfl
    rw [this]
    split <;> rename_i h1
    · simp at h1; simp [h1]
    · simp at h1; simp [h1]
  | q :: l, i, f, k + 1, p, h => by
    have h' : l[k]? = some p := by simpa using h
    unfold crashL
    split <;> rename_i h1
    · rw [List.getElem?_cons_succ, crash_at keep part l (i + 1) f k p h', allK_succ, h1, Bool.true_and, show i + 1 + k = i + (k + 1) by omega]
    · rw [List.getElem?_cons_succ, crash_at keep part l (i + 1) false k p h', allK_succ, show i + 1 + k = i + (k + 1) by omega]
      have h1' : keep.getD i false = false := by simpa using h1
      rw [h1']; simp
theorem crash_fits {N : Nat} (keep : List Bool) (part : Int) : ∀ (l : List (Nat × List Nat)) (i : Nat) (f : Bool), fits N l → fits N (crashL keep part i f l)
  | [], i, f, h => h
  | p :: l, i, f, h => by
    have hp := h p List.mem_cons_self
    have hl : fits N l := fun q hq => h q (List.mem_cons_of_mem _ hq)
    unfold crashL
    split
    · intro q hq
      rcases List.mem_cons.1 hq with rfl | hq
      · exact hp
      · exact crash_fits keep part l _ _ hl q hq
    · intro q hq
      rcases List.mem_cons.1 hq with rfl | hq
      · refine ⟨?_, fun x hx => hp.2 x (List.mem_of_mem_take hx)⟩
        have : (p.2.take (if f = true then clampP part p.2.length else 0)).length ≤ p.2.length := List.length_take_le' _ _
        show p.1 + (p.2.take (if f = true then clampP part p.2.length else 0)).length ≤ N
        omega
      · exact crash_fits keep part l _ _ hl q hq

def CrashPost (w : World) (d : Nat) (s : DS) (M I : Nat → Prop) (keep : List Bool) (part : Int) (e : Ending) (w' : World) : Prop :=
  e = .returned (.tuple #[]) ∧ Then w d (crashS s keep part) M I w'

set_option maxRecDepth 100000 in
set_option maxHeartbeats 3200000 in
theorem crash_any (d : Nat) (s : DS) (M I : Nat → Prop) (K : Option Addr) (ck : Nat) (keep : List Bool) (part : Int) (w : World) (h : DiskAt w d s M I) (hkl : keep.length ≤ 1000000000000) (hkr : Reads w w.heap.size 1 K keep.length (keep.map Value.bool)) (hK : 0 < keep.length → ∀ ad, K = some ad → ¬ M ad.block) :
    Calls Try.prog 15 #[.pointer (some ⟨d, 0, none⟩), .slice K keep.length ck, .int .i64 part] w (CrashPost w d s M I keep part) := by
  obtain ⟨gd, gs, cd, cs, v, left, ws, h⟩ := h
  have HX := Lib.hid h
  have HKR := Lib.hid hkr
  have HK := Lib.hid hK
  obtain ⟨Av, cv, hv⟩ := h.waits.slice
  subst hv
  have k2 := h.cells.2.2.1
  have hwl : ws.length ≤ 60 := by have := h.ok.few; rw [← h.wsv] at this; simpa using this
  obtain ⟨cl, hcl⟩ : ∃ cl, crashL keep part 0 true s.wait = cl := ⟨_, rfl⟩
  have HI : Hid (SyncSt w w gd cd (seenL s.dur (cl.take 0))) := ⟨Chg.refl _ _, h.dur⟩
  have HCL := Lib.hid hcl
  have HA0 : Hid (allK keep 0 0 = true) := rfl
  clear h hkr hK hcl
  go_enter Try.func15, Try.ntmps15
  go_wp2_with fail
  go_loopw [6, 16] (fun f i wr => ∃ k : Nat, k ≤ ws.length ∧ i = .int .i64 (k : Int) ∧ f = .bool (allK keep 0 k) ∧ Hid (SyncSt w wr gd cd (seenL s.dur (cl.take k)))) (fun _ i _ => ws.length - (intOf i).toNat)
  case atStart => exact ⟨0, by omega, rfl, by rw [HA0.out], HI⟩
  case round =>
    clear HI HA0
    obtain ⟨k, hk, rfl, rfl, HR⟩ := hrel
    by_cases hlt : k < ws.length
    · obtain ⟨⟨a, b, A, c⟩, hx⟩ : ∃ x, ws[k]? = some x := ⟨_, List.getElem?_eq_getElem hlt⟩
      have hW := sync_wait HX.out HR.out.chg
      obtain ⟨g, c', hv, p0, p1⟩ := hW.at_ hx
      injection hv with hAv _ hcv
      subst hAv hcv
      have hB := HX.out.blk.chg HR.out.chg (fun e => HX.out.ds.1 e.symm)
      have q0 : wr.cell? ⟨d, 0, none⟩ = some (.slice (some ⟨gd, 0, none⟩) s.dur.length cd) := by rw [hB.cell]; rfl
      obtain ⟨r1, r2, r3⟩ := hW.byt _ (List.mem_of_getElem? hx)
      have r3' : b.length ≤ c := r3
      have hsw : s.wait[k]? = some (a, b) := by rw [← HX.out.wsv]; simp [hx, wof]
      have hfit := HX.out.ok.fit _ (List.mem_of_getElem? hsw)
      have hab : a + b.length ≤ s.dur.length := hfit.1
      have hN := HX.out.ok.hi
      obtain ⟨N, hNN⟩ : ∃ N, s.dur.length = N := ⟨_, rfl⟩
      rw [hNN] at q0 hab hN
      have hcf : fits s.dur.length cl := by rw [← HCL.out]; exact crash_fits keep part _ _ _ HX.out.ok.fit
      have hlen : (seenL s.dur (cl.take k)).length = N := by rw [← hNN]; exact seen_len _ _ (fits_take hcf k) rfl
      have HLEN := Lib.hid hlen
      have hcd : N ≤ cd := by have := HR.out.dur.len; omega
      have hca := crash_at keep part s.wait 0 true k (a, b) hsw
      rw [HCL.out, Nat.zero_add, Bool.true_and] at hca
      have HTK := Lib.hid (seen_take (d := s.dur) hca)
      have HR1 : Hid (Reads wr wr.heap.size 1 A b.length (b.map byt)) := r1
      have HKW : Hid (Reads wr w.heap.size 1 K keep.length (keep.map Value.bool)) := HKR.out.chg0 HR.out.chg (Nat.le_refl _) (fun hn ad e hm => HK.out hn ad e (by rw [hm]; exact HX.out.mgd))
      have hlw := hB.lt
      have hgw := World.block_lt_of_cell? wr _ p0
      have HSG : Hid (RowB (wr.alloc (.cells #[.int .i64 (a : Int), .slice A b.length c] 77)).drew gd cd (seenL s.dur (cl.take k))) := HR.out.dur.alloc _
      have HRA : Hid (Reads (wr.alloc (.cells #[.int .i64 (a : Int), .slice A b.length c] 77)).drew wr.heap.size 1 A b.length (b.map byt)) := HR1.out.alloc (Nat.le_refl _) _
      have hkk : (k : Int) + 1 ≤ 60 := by omega
      -- how many bytes are written
      have HST : Hid (∀ (m : Nat) (f : Bool), tornP keep part k (allK keep 0 k) (a, b) = (a, b.take m) → f = allK keep 0 (k + 1) → ∀ w5, RowB w5 gd cd (spl (seenL s.dur (cl.take k)) a (b.take m)) → (wr.alloc (.cells #[.int .i64 (a : Int), .slice A b.length c] 77)).drew.grownBy w5 (some gd) → Value.bool f = .bool (allK keep 0 (k + 1)) ∧ SyncSt w w5 gd cd (seenL s.dur (cl.take (k + 1)))) := by
        intro m f hm hf w5 h5 hg5
        refine ⟨by rw [hf], ((HR.out.chg.alloc _).drew).trans (Chg.of_grown (M := fun b => b = gd) hg5 (fun g e => by injection e with e; exact e.symm)) (fun _ _ h => h), ?_⟩
        rw [HTK.out, hm]
        exact h5
      clear hW hB r1 r2 r3 hsw hfit hNN hlen hx hca HR HTK HX hcf HKR HK HR1
      obtain ⟨f0, hf0⟩ : ∃ f0, allK keep 0 k = f0 := ⟨_, rfl⟩
      have HAS := Lib.hid (allK_snoc keep 0 k)
      rw [Nat.zero_add, hf0] at HAS
      rw [hf0] at HST ⊢
      have hcl : clampP part b.length ≤ b.length := Nat.min_le_right _ _
      have hcm : min (max part 0) (b.length : Int) = (clampP part b.length : Nat) := by unfold clampP; omega
      obtain ⟨kb, hkb⟩ : ∃ kb, keep.getD k false = kb := ⟨_, rfl⟩
      have five : (∃ bk o, K = some ⟨bk, o, none⟩ ∧ bk < wr.heap.size ∧ k < keep.length ∧ wr.cell? ⟨bk, o + k, none⟩ = some (.bool kb)) ∨ (keep.length ≤ k ∧ kb = false) := by
        by_cases h1 : k < keep.length
        · obtain ⟨bk, o, e, hb, hc⟩ := HKW.out.head (by omega) (by omega)
          have h2 := hc k (.bool keep[k]) (by simp [h1])
          have h3 : keep.getD k false = keep[k] := by simp [h1]
          have h5 := World.block_lt_of_cell? wr _ h2
          exact .inl ⟨bk, o, e, h5, h1, by rw [← hkb, h3]; exact h2⟩
        · exact .inr ⟨by omega, by rw [← hkb, List.getD_eq_getElem?_getD, List.getElem?_eq_none (by omega)]; rfl⟩
      obtain ⟨W, hW⟩ : ∃ W, wr.alloc (.cells #[.int .i64 (a : Int), .slice A b.length c] 77) = W := ⟨_, rfl⟩
      have HW := Lib.hid hW
      have j0 : W.cell? ⟨wr.heap.size, 0, none⟩ = some (.int .i64 (a : Int)) := by rw [← hW]; exact (Blk.new wr 77 _).cell 0
      have j1 : W.cell? ⟨wr.heap.size, 1, none⟩ = some (.slice A b.length c) := by rw [← hW]; exact (Blk.new wr 77 _).cell 1
      have j2 : W.cell? ⟨d, 0, none⟩ = some (.slice (some ⟨gd, 0, none⟩) N cd) := by rw [← hW]; exact (World.cell?_alloc_lt wr _ _ hlw).trans q0
      rw [hW] at HSG HRA HST
      -- the number of bytes that are written, and whether all were kept
      have HTN : Hid (∀ m : Nat, (kb = true → m = b.length) → (kb = false → f0 = true → m = clampP part b.length) → (kb = false → f0 = false → m = 0) → tornP keep part k f0 (a, b) = (a, b.take m)) := by
        intro m h1 h2 h3
        unfold tornP
        rw [hkb]
        cases kb
        · cases f0
          · rw [h3 rfl rfl]; simp
          · rw [h2 rfl rfl]; simp
        · rw [h1 rfl]; simp
      rw [hkb] at HAS
      have HFIV := Lib.hid five
      clear hW hf0 five HKW hkb
      go_upto_region 5 with fail
      go_cut [34] (fun t wx => t = .bool (!kb) ∧ wx = W)
      case first =>
        rcases HFIV.out with ⟨bk, o, rfl, h0, h1, h2⟩ | ⟨h1, rfl⟩
        · have d1 : decide (keep.length ≤ k) = false := by simpa using h1
          clear HFIV
          go_wp2_with fail
          go_meet
          exact ⟨rfl, HW.out⟩
        · have d1 : decide (keep.length ≤ k) = true := by simpa using h1
          clear HFIV
          go_wp2_with fail
          go_meet
          exact ⟨rfl, HW.out⟩
      case rest =>
        obtain ⟨rfl, rfl⟩ := hcut
        clear HFIV q0 p0 p1
        go_upto_if 34 with fail
        go_cut [6, 9] (fun f n wx => ∃ m : Nat, m ≤ b.length ∧ n = .int .i64 (m : Int) ∧ f = .bool (f0 && kb) ∧ wx = wc ∧ Hid (tornP keep part k f0 (a, b) = (a, b.take m)))
        case first =>
          cases kb
          · cases f0
            · have HT := Lib.hid (HTN.out 0 (by simp) (by simp) (fun _ _ => rfl))
              clear HTN hcm
              go_wp2_with fail
              go_meet
              exact ⟨0, Nat.zero_le _, rfl, rfl, rfl, HT⟩
            · have HT := Lib.hid (HTN.out _ (by simp) (fun _ _ => rfl) (by simp))
              have HCM := Lib.hid hcm
              clear HTN hcm
              go_wp2_with fail
              all_goals
                go_meet
                refine ⟨clampP part b.length, hcl, ?_, rfl, rfl, HT⟩
                rw [← HCM.out]
                refine congrArg (Value.int IntKind.i64) ?_
                omega
          · have HT := Lib.hid (HTN.out b.length (fun _ => rfl) (by simp) (by simp))
            clear HTN hcm
            go_wp2_with fail
            go_meet
            exact ⟨b.length, Nat.le_refl _, rfl, by simp, rfl, HT⟩
        case rest =>
          obtain ⟨m, hm, rfl, rfl, rfl, HT⟩ := hcut
          have HS2 := Lib.hid (HST.out m (f0 && kb) HT.out HAS.out.symm)
          have hmc : m ≤ c := by omega
          have haN' : a ≤ N := by omega
          have hbl : (b.take m).length = m := by rw [List.length_take]; omega
          have HRM : Hid (Reads wc.drew wr.heap.size 1 A (b.take m).length ((b.take m).map byt)) := by
            refine ⟨by simp, fun hp => ?_⟩
            obtain ⟨ad, e, hb, hc⟩ := HRA.out.2 (by omega)
            refine ⟨ad, e, hb, fun j u hu => hc j u ?_⟩
            rw [List.map_take] at hu
            rw [List.getElem?_take] at hu
            split at hu
            · exact hu
            · cases hu
          have HBL := Lib.hid hbl
          clear HST HAS HTN HT hcm hcl hbl
          by_cases haN : cd = a
          · have HBZ : Hid (b.take m = []) := List.eq_nil_of_length_eq_zero (by have := HBL.out; omega)
            have hm0 : m = 0 := by have := HBL.out; omega
            have hNa : N = a := by omega
            have hNc : N = cd := by omega
            subst hNa
            subst hNc
            have HP1 : Hid (([] : List Nat).length = Nat.min m 0) := by unfold Hid; simp
            have HP2 := Lib.hid (copyOk_nil wc.drew (some ⟨gd, 0, none⟩) A gd N)
            have HP3 : Hid (N + ([] : List Nat).length ≤ (seenL s.dur (cl.take k)).length) := by unfold Hid; rw [HLEN.out]; simp
            clear hm0
            go_wp2_with fail
            go_region_law (refine step_copy_r (g := gd) (off := N) (l := seenL s.dur (cl.take k)) (b := []) (dp := some ⟨gd, 0, none⟩) (dLen := 0) (dCap := 0) (sp := A) (sLen := m) (sCap := c) rfl (.tmp 49) (.tmp 53) rfl (by first | rfl | (simp [Act.eval, Act.put]; done)) (by first | rfl | (simp [Act.eval, Act.put]; done)) HSG.out HP1.out HP2.out HP3.out ?_; intro w5 h5 hg5 _; have HF := Lib.hid (HS2.out w5 (by rw [HBZ.out]; exact h5) hg5); clear h5 hg5)
            all_goals
              go_wp2_with fail
              go_roundw
              case rel => exact ⟨k + 1, by omega, by go_num, HF.out.1, HF.out.2⟩
              case measure => simp [intOf]; omega
          · have HP1 : Hid ((b.take m).length = Nat.min m (N - a)) := by have := HBL.out; unfold Hid; rw [this]; exact (Nat.min_eq_left (by omega)).symm
            have HP2 := Lib.hid (copyOk_reads HRM.out gd a)
            have HP3 : Hid (a + (b.take m).length ≤ (seenL s.dur (cl.take k)).length) := by unfold Hid; rw [HLEN.out, HBL.out]; omega
            go_wp2_with fail
            go_region_law (refine step_copy_r (g := gd) (off := a) (l := seenL s.dur (cl.take k)) (b := b.take m) (dp := some ⟨gd, a, none⟩) (dLen := N - a) (dCap := cd - a) (sp := A) (sLen := m) (sCap := c) rfl (.tmp 49) (.tmp 53) rfl (by first | rfl | (simp [Act.eval, Act.put]; done)) (by first | rfl | (simp [Act.eval, Act.put]; done)) HSG.out HP1.out HP2.out HP3.out ?_; intro w5 h5 hg5 _; have HF := Lib.hid (HS2.out w5 h5 hg5); clear h5 hg5)
            all_goals
              go_wp2_with fail
              go_roundw
              case rel => exact ⟨k + 1, by omega, by go_num, HF.out.1, HF.out.2⟩
              case measure => simp [intOf]; omega
    · obtain rfl : k = ws.length := by omega
      have hx := HX.out
      obtain ⟨e1, e2, e3, e4, e5⟩ := hx.ds
      have hwt : s.wait.length = ws.length := by rw [← hx.wsv]; simp
      have hcl2 : cl.length = ws.length := by rw [← HCL.out, crash_len, hwt]
      have htk : cl.take ws.length = cl := List.take_of_length_le (by omega)
      have HRR : Hid (SyncSt w wr gd cd (seenL s.dur cl)) := by
        have := HR.out
        rw [htk] at this
        exact this
      obtain ⟨D, hD⟩ : ∃ D, seenL s.dur cl = D := ⟨_, rfl⟩
      have hcf : fits s.dur.length cl := by rw [← HCL.out]; exact crash_fits keep part _ _ _ hx.ok.fit
      have hDl : D.length = s.dur.length := by rw [← hD]; exact seen_len _ _ hcf rfl
      have hDb : ∀ x ∈ D, x < 256 := by rw [← hD]; exact seen_mem _ _ hcf hx.ok.byt
      have hsl : (seenL s.dur s.wait).length = s.dur.length := seen_len _ _ hx.ok.fit rfl
      rw [hD] at HRR
      have hB := hx.blk.chg HRR.out.chg (fun e => e1 e.symm)
      have hS := hx.seen.chg HRR.out.chg (fun e => hx.ne e.symm)
      have hW := sync_wait hx HRR.out.chg
      have q0 : wr.cell? ⟨d, 0, none⟩ = some (.slice (some ⟨gd, 0, none⟩) s.dur.length cd) := by rw [hB.cell]; rfl
      have q1 : wr.cell? ⟨d, 1, none⟩ = some (.slice (some ⟨gs, 0, none⟩) s.dur.length cs) := by rw [hB.cell]; rfl
      have hRD := HRR.out.dur.reads 0 D.length (by omega)
      rw [List.drop_zero, List.take_length] at hRD
      have hsp : spl (seenL s.dur s.wait) 0 D = D := by
        unfold spl
        rw [List.take_zero, List.nil_append, Nat.zero_add, List.drop_of_length_le (by omega), List.append_nil]
      obtain ⟨N, hNN⟩ : ∃ N, s.dur.length = N := ⟨_, rfl⟩
      rw [hNN] at q0 q1
      have HSG : Hid (RowB wr.drew gs cs (seenL s.dur s.wait)) := hS
      have HP1 : Hid (D.length = Nat.min N N) := by rw [hDl, hNN]; simp [Hid]
      have HP2 : Hid (CopyOk wr.drew (some ⟨gs, 0, none⟩) (some ⟨gd, 0, none⟩) gs 0 D) := copyOk_reads (w := wr.drew) hRD gs 0
      have HP3 : Hid (0 + D.length ≤ (seenL s.dur s.wait).length) := by unfold Hid; omega
      have HFW : Hid (∀ w5, RowB w5 gs cs (spl (seenL s.dur s.wait) 0 D) → wr.drew.grownBy w5 (some gs) →
          Blk w5 d 73 #[.slice (some ⟨gd, 0, none⟩) s.dur.length cd, .slice (some ⟨gs, 0, none⟩) s.dur.length cs, .slice Av ws.length cv, .bool s.off, .bool s.fuse.isSome, .int .i64 left] ∧
          w5.ownsRow 0 77 2 (.slice Av ws.length cv) ws.length (ws.flatMap wcell) ∧ RowB w5 gd cd D ∧ RowB w5 gs cs D ∧ Chg w w5 M) := by
        intro w5 h5 hg5
        rw [hsp] at h5
        refine ⟨hB.drew.grown hg5 (fun e => by injection e with e; exact e2 e.symm), ?_, HRR.out.dur.drew.grown hg5 (fun e => by injection e with e; exact hx.ne e), h5, ?_⟩
        · refine World.ownsRow.kept (w := wr.drew) hW.own hg5 ?_
          cases hb : (Value.slice Av ws.length cv).ownBlock with
          | none => exact .inl rfl
          | some g => exact .inr (fun e => e5 (by rw [hb, e]))
        · exact ((HRR.out.chg.mono (M' := M) (fun i e => by rw [e]; exact hx.mgd)).drew).trans (Chg.of_grown (M := M) hg5 (fun g e => by injection e with e; rw [← e]; exact hx.mgs)) (fun _ _ h => h)
      have HDL := Lib.hid hDl
      have HDB := Lib.hid hDb
      have HDD := Lib.hid hD
      clear hx e1 e2 e3 e4 e5 hwt hcl2 htk hD hcf hDl hDb hsl hB hS hW hRD hsp hNN HR HRR
      go_wp2_with fail
      go_region_law (refine step_copy_r (g := gs) (off := 0) (l := seenL s.dur s.wait) (b := D) (dp := some ⟨gs, 0, none⟩) (dLen := N) (dCap := cs) (sp := some ⟨gd, 0, none⟩) (sLen := N) (sCap := cd) rfl (.tmp 60) (.tmp 65) rfl (by first | rfl | (simp [Act.eval, Act.put]; done)) (by first | rfl | (simp [Act.eval, Act.put]; done)) HSG.out HP1.out HP2.out HP3.out ?_; intro w5 h5 hg5 _; have HF := Lib.hid (HFW.out w5 h5 hg5); clear h5 hg5)
      all_goals
        have HFG := Lib.hid (forget_any d _ _ _ _ _ _ _ _ w5 HF.out.1 HF.out.2.1 (by omega))
        go_wp2_with fail
        refine (HFG.out).mono ?_
        rintro e w6 ⟨rfl, f1, f2, f3, f4⟩
        have z3 := f1.frozen 3
        have z4 := f1.frozen 4
        have z5 := f1.frozen 5
        have y3 : w6.cell? ⟨d, 3, none⟩ = some (.bool s.off) := by rw [f1.cell]; rfl
        have y4 : w6.cell? ⟨d, 4, none⟩ = some (.bool s.fuse.isSome) := by rw [f1.cell]; rfl
        have y5 : w6.cell? ⟨d, 5, none⟩ = some (.int .i64 left) := by rw [f1.cell]; rfl
        have F1 := Lib.hid f1
        have F2 := Lib.hid f2
        have F3 := Lib.hid f3
        clear f1 f2 f3 f4
        go_wp2_with fail
        go_end0
        refine ⟨rfl, ?_⟩
        have hx := HX.out
        obtain ⟨e1, e2, e3, e4, e5⟩ := hx.ds
        have hc6 : Chg w w6 M := HF.out.2.2.2.2.trans F3.out (fun i _ h => by
          rcases h with h | h
          · rw [h]; exact hx.md
          · exact hx.waits.mine _ h)
        have c7 := ((chg_d w6 d 3 (.bool false)).setd 4 (.bool false)).setd 5 (.int .i64 0)
        have hcc := hc6.trans c7 (fun i _ h => by rw [h]; exact hx.md)
        have hgd := (HF.out.2.2.1.chg F3.out (fun h => by
          rcases h with h | h
          · exact e1 h
          · exact e4 h)).chg c7 e1
        have hgs := (HF.out.2.2.2.1.chg F3.out (fun h => by
          rcases h with h | h
          · exact e2 h
          · exact e5 h)).chg c7 e2
        have hb := ((F1.out.set_ 3 (.bool false)).set_ 4 (.bool false)).set_ 5 (.int .i64 0)
        have ho := owns_chg F2.out c7 (fun g hg e => e3 (by rw [← cutV_own, hg, e]))
        have := settle hx (D := D) (off' := false) (fuse' := none) (left' := 0) HDL.out HDB.out hcc (by simpa using hb) hgd hgs ho (fun k hk => by cases hk) ⟨by omega, by omega⟩
        unfold crashS
        rw [HCL.out, HDD.out]
        exact then_same ⟨gd, gs, cd, cs, _, _, [], this⟩ hcc
end Go.Proofs.Ytnjafhlpnoikcaa
