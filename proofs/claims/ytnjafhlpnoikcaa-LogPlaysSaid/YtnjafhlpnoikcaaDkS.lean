/-
  The reference's Write. No condition.
-/
import Derived.Test.YtnjafhlpnoikcaaDkR
namespace Go.Proofs.Ytnjafhlpnoikcaa
open Go.RowKit
set_option linter.unusedVariables false

theorem pd_info : (Try.prog.info? 83).map (fun i => (i.zero, i.size, i.bytes)) = some (some (.agg #[.int .i64 0, .slice none 0 0]), 2, 32) := by kernel_rfl
theorem owns_none2 (w : World) (e : TypeId) : (w.alloc (.cells #[] e)).ownsRow w.heap.size e 2 (.slice (some ⟨w.heap.size, 0, none⟩) 0 0) 0 [] :=
  World.ownsRow_made w #[] 0 (Nat.le_refl _) (by unfold maxLen; omega) (by simp)
theorem wcell_one (ws : List Wr) : ∀ u ∈ ws.flatMap wcell, u.oneCell' = true := fun u hu => by
  obtain ⟨x, _, hx⟩ := List.mem_flatMap.1 hu
  simp [wcell] at hx
  rcases hx with rfl | rfl <;> rfl
theorem Waits.reads {w : World} {e : TypeId} {M I : Nat → Prop} {v : Value} {ws : List Wr} (h : Waits w e M I v ws) : ∃ A c, v = .slice A ws.length c ∧ Reads w w.heap.size 2 A ws.length (ws.flatMap wcell) := by
  obtain ⟨A, c, hv, hr, _⟩ := reads_of_owns h.own
  exact ⟨A, c, hv, hr⟩

/-- a new list of pending writes -/
theorem rwrite_end {w1 w6 : World} {r g c : Nat} {v v6 : Value} {ws : List Wr} {s : DS} {M I : Nat → Prop} {A : Option Addr} {q a : Nat} {b : List Nat}
    (h : RefX w1 r g c v ws s M I) (hb6 : Below w1.heap.size w1 w6) (ho : w6.ownsRow w1.heap.size 83 2 v6 (ws.length + 1) (ws.flatMap wcell ++ [.int .i64 (a : Int), .slice A b.length q]))
    (hr : Reads w6 w6.heap.size 1 A b.length (b.map byt)) (hA : ∀ ad, A = some ad → w1.heap.size ≤ ad.block ∧ ad.block < w6.heap.size ∧ v6.ownBlock ≠ some ad.block) (hq : b.length ≤ q) (hw : s.wait.length < 60) (hf : a + b.length ≤ s.dur.length) (hb : ∀ x ∈ b, x < 256) :
    RThen w1 r { s with wait := s.wait ++ [(a, b)] } M I (w6.setCell ⟨r, 1, none⟩ v6) := by
  have hs := hb6.size
  have c6 : Chg w1 w6 M := ⟨hb6.os, hb6.tape, hb6.output, hb6.size, fun i hi _ => hb6.block i hi⟩
  have c7 : Chg w1 (w6.setCell ⟨r, 1, none⟩ v6) M := c6.setCell (p := ⟨r, 1, none⟩) (.inl h.mr) _
  have c67 := chg_d w6 r 1 v6
  have hv6 : ∀ x, v6.ownBlock = some x → w1.heap.size ≤ x := own_from ho
  have hlt : ∀ x, M x ∨ I x → x < w1.heap.size := h.lt
  have hrl : r < w1.heap.size := h.blk.lt
  refine ⟨fun x => M x ∨ v6.ownBlock = some x, fun x => I x ∨ ∃ ad, A = some ad ∧ x = ad.block, ⟨g, c, v6, ws ++ [(a, b, A, q)], ?_⟩, c7, ?_, ?_⟩
  · refine ⟨?_, ?_, .inl h.mr, .inl h.mg, ⟨?_, fun g hg => .inr hg, fun x hx => ?_⟩, by simp [h.wsv, wof], ⟨h.ok.lo, h.ok.hi, h.ok.byt, by simp; omega, fun p hp => ?_⟩, h.left, fun x hm hi => ?_, fun x hx => ?_⟩
    · simpa using (h.blk.below hb6 hrl).set_ 1 v6
    · exact (h.dur.chg (M := fun b => w1.heap.size ≤ b) (Chg.of_below hb6 (fun _ h => h)) (by have := h.dur.lt; omega)).chg c67 h.ds.1
    · have h1 : (w6.setCell ⟨r, 1, none⟩ v6).ownsRow 0 83 2 v6 (ws.length + 1) (ws.flatMap wcell ++ [.int .i64 (a : Int), .slice A b.length q]) :=
        owns_chg (owns_up ho (fun _ _ => Nat.zero_le _)) c67 (fun x hx e => by have := hv6 x hx; omega)
      simpa [wcell] using h1
    · rcases List.mem_append.1 hx with hx | hx
      · obtain ⟨q1, q2, q3⟩ := h.waits.byt x hx
        exact ⟨(q1.chg c7 (Nat.le_refl _) (fun ad e hm => h.apart _ hm (q2 ad e))).more c7.size, fun ad e => .inl (q2 ad e), q3⟩
      · simp at hx
        subst hx
        refine ⟨?_, fun ad e => .inr ⟨ad, e, rfl⟩, hq⟩
        exact (hr.chg c67 (Nat.le_refl _) (fun ad e hm => by have := (hA ad e).1; omega)).more c67.size
    · rcases List.mem_append.1 hp with hp | hp
      · exact h.ok.fit p hp
      · simp at hp; subst hp; exact ⟨hf, hb⟩
    · rcases hi with hi | ⟨ad, e, rfl⟩
      · rcases hm with hm | hm
        · exact h.apart x hm hi
        · have := hv6 x hm; have := hlt x (.inr hi); omega
      · rcases hm with hm | hm
        · have := hlt _ (.inl hm); have := (hA ad e).1; omega
        · exact (hA ad e).2.2 hm
    · have hle : w6.heap.size ≤ (w6.setCell ⟨r, 1, none⟩ v6).heap.size := by simp [World.setCell]
      rcases hx with (hx | hx) | (hx | ⟨ad, e, rfl⟩)
      · have := hlt x (.inl hx); omega
      · have := own_lt ho x hx; omega
      · have := hlt x (.inr hx); omega
      · have := (hA ad e).2.1; omega
  · intro x hx
    rcases hx with hx | hx
    · exact .inl hx
    · exact .inr (hv6 x hx)
  · intro x hx
    rcases hx with hx | ⟨ad, e, rfl⟩
    · exact .inl hx
    · exact .inr (hA ad e).1

def RWritePost (w : World) (r : Nat) (s : DS) (M I : Nat → Prop) (a : Int) (b : List Nat) (e : Ending) (w' : World) : Prop :=
  e = .returned (.int .i64 (writeS s a b).1) ∧ RThen w r (writeS s a b).2 M I w'

set_option maxRecDepth 100000 in
set_option maxHeartbeats 1600000 in
theorem rwrite_any (r : Nat) (s : DS) (M I : Nat → Prop) (a : Int) (A : Option Addr) (cb : Nat) (b : List Nat) (w : World) (h : RefAt w r s M I) (hb : ∀ x ∈ b, x < 256) (hbl : b.length ≤ 1000000000) (hr : Reads w w.heap.size 1 A b.length (b.map byt)) (hA : 0 < b.length → ∀ ad, A = some ad → ¬ M ad.block) :
    Calls Try.prog 19 #[.pointer (some ⟨r, 0, none⟩), .int .i64 a, .slice A b.length cb] w (RWritePost w r s M I a b) := by
  have hat := h
  obtain ⟨g, c, v, ws, h⟩ := h
  obtain ⟨c0, c1, c2, c3⟩ := h.cells
  have hN := h.ok.hi
  have HI := Lib.hid (rinside_any r g s.dur.length c a b.length w hN (by omega) c0)
  obtain ⟨Av, cv, hv⟩ := h.waits.slice
  have hwl : s.wait.length = ws.length := by rw [← h.wsv]; simp
  unfold RWritePost writeS
  cases ho : s.off with
  | true =>
    rw [if_pos rfl]
    have HE : Hid (RThen w r s M I w) := rthen_same hat (Chg.refl _ _)
    rw [ho] at c3
    clear h hat ho hwl hr hA hb hv
    go_enter Try.func19, Try.ntmps19
    go_wp2_with fail
    go_ret
    exact ⟨rfl, HE.out⟩
  | false =>
  rw [if_neg (by decide)]
  rw [ho] at c3
  cases hi : insideB s.dur.length a b.length with
  | false =>
    rw [if_pos (by decide)]
    rw [hi] at HI
    have HE : Hid (RThen w r s M I w) := rthen_same hat (Chg.refl _ _)
    clear h hat ho hwl hr hA hb hv hi
    go_enter Try.func19, Try.ntmps19
    go_wp2_with fail
    refine (HI.out).mono ?_
    rintro e w1 ⟨rfl, rfl⟩
    go_wp2_with fail
    go_ret
    exact ⟨rfl, HE.out⟩
  | true =>
  rw [if_neg (by decide)]
  rw [hi] at HI
  subst hv
  by_cases hfull : 60 ≤ s.wait.length
  · rw [if_pos hfull]
    have HE : Hid (RThen w r s M I w) := rthen_same hat (Chg.refl _ _)
    have hf2 : 60 ≤ ws.length := by omega
    clear h hat ho hwl hr hA hb hi hfull
    go_enter Try.func19, Try.ntmps19
    go_wp2_with fail
    refine (HI.out).mono ?_
    rintro e w1 ⟨rfl, rfl⟩
    go_wp2_with fail
    go_ret
    exact ⟨rfl, HE.out⟩
  rw [if_neg hfull]
  have hf2 : ws.length < 60 := by omega
  have HS := Lib.hid (burn_any r g c _ ws s M I w h)
  unfold BurnPost at HS
  have HM : Hid (M r) := h.mr
  cases hsp : (spendS s).1 with
  | false =>
    rw [if_neg (by decide)]
    rw [hsp] at HS
    clear h hat ho hwl hr hA hb hi hfull hsp
    go_enter Try.func19, Try.ntmps19
    go_wp2_with fail
    refine (HI.out).mono ?_
    rintro e w1 ⟨rfl, rfl⟩
    go_wp2_with fail
    refine (HS.out).mono ?_
    rintro e w1 ⟨rfl, hx', hc1, hs1⟩
    have HE : Hid (RThen w r (spendS s).2 M I w1) := rthen_same ⟨g, c, _, ws, hx'⟩ (hc1.mono (fun i e => by rw [e]; exact HM.out))
    clear hx' hc1 hs1
    go_wp2_with fail
    go_ret
    exact ⟨rfl, HE.out⟩
  | true =>
  rw [if_pos rfl]
  rw [hsp] at HS
  obtain ⟨a', n', rfl, hn', han⟩ := inside_parts hi
  have hbn : b.length = n' := by omega
  subst hbn
  obtain ⟨i0, hiI, hz0, hz1, hz2⟩ := info_parts pd_info
  obtain ⟨i5, hi5, hy0, hy1, hy2⟩ := info_parts byte_info
  have HII := Lib.hid hiI
  have HZ0 := Lib.hid hz0
  have HZ1 := Lib.hid hz1
  have HZ2 := Lib.hid hz2
  have HI5 := Lib.hid hi5
  have HY0 := Lib.hid hy0
  have HY1 := Lib.hid hy1
  have HY2 := Lib.hid hy2
  have HR := Lib.hid hr
  have HAA := Lib.hid hA
  have HB := Lib.hid hb
  have hd1 := (spend_dur s).1
  have hd2 := (spend_dur s).2
  obtain ⟨s1, hs1⟩ : ∃ s1, (spendS s).2 = s1 := ⟨_, rfl⟩
  rw [hs1] at HS hd1 hd2
  show Calls Try.prog _ _ w (fun e w' => e = .returned (.int .i64 0) ∧ RThen w r { dur := (spendS s).2.dur, wait := s.wait ++ [((a' : Int).toNat, b)], off := (spendS s).2.off, fuse := (spendS s).2.fuse } M I w')
  rw [hs1, ← hd2]
  have HHAN : Hid (a' + b.length ≤ s1.dur.length) := by unfold Hid; rw [hd1]; exact han
  clear h hat ho hwl hr hA hb hi hfull hsp hiI hz0 hz1 hz2 hi5 hy0 hy1 hy2 hd1 hd2 hs1 hn' han hN
  go_enter Try.func19, Try.ntmps19
  go_wp2_with fail
  refine (HI.out).mono ?_
  rintro e w1 ⟨rfl, rfl⟩
  go_wp2_with fail
  refine (HS.out).mono ?_
  rintro e w1 ⟨rfl, hx', hc1, hsz1⟩
  obtain ⟨e0, e1, e2, e3⟩ := hx'.cells
  have g1 := hx'.blk.frozen 1
  have hr1 : Reads w1 w1.heap.size 1 A b.length (b.map byt) := (HR.out.chg0 hc1 (Nat.le_refl _) (fun hn ad e hm => HAA.out hn ad e (by rw [hm]; exact HM.out))).more hc1.size
  have HX1 := Lib.hid hx'
  have HR1 := Lib.hid hr1
  have HC1 : Hid (Chg w w1 M) := hc1.mono (fun i e => by rw [e]; exact HM.out)
  have HSZ := Lib.hid hsz1
  obtain ⟨Av', cv', hv', hwr⟩ := hx'.waits.reads
  injection hv' with hv1 _ hv3
  subst hv1 hv3
  have HWS := Lib.hid (src_reads (P := Try.prog) _ Try.underlying79 cv (hwr.alloc (Nat.le_refl _) (.cells #[] 83)) (wcell_one ws))
  have hrl := hx'.blk.lt
  clear hx' hc1 hsz1 hr1 HS HI c0 c1 c2 c3 hwr
  go_wp2_with (first
    | (at_builtin; refine wpList_append_row _ rfl (.tmp 31) (.tmp 35) 79 79 rfl w1.heap.size 83 i0 (.agg #[.int .i64 0, .slice none 0 0]) 2 32 Try.underlying79 HII.out HZ0.out HZ1.out HZ2.out rfl (by decide) _ _ _ rfl (owns_none2 w1 83) _ ws.length (ws.flatMap wcell) rfl HWS.out ?c1 ?c2 ?c3 ?_))
  case c1 => unfold maxLen; omega
  case c2 => omega
  case c3 => simp
  intro v2 w2 hown2 hg2
  have hB2 : Below w1.heap.size w1 w2 := ((Below.refl _ w1).alloc (Nat.le_refl _) _).trans (hg2.below (by simp) (fun g hg => by simp [Value.ownBlock] at hg; omega))
  have HO2 := Lib.hid hown2
  have HB2 := Lib.hid hB2
  have HSB := Lib.hid (src_reads (P := Try.prog) _ Try.underlying32 cb ((HR1.out.up (Nat.le_refl _) hB2).alloc (Nat.le_refl _) (.cells #[] 5)) (byt_one b))
  have hk2 := HX1.out.blk.below hB2 hrl
  have k20 := hk2.lt
  clear hown2 hg2 hB2 HWS hk2
  go_wp2_with (first
    | (at_builtin; refine wpList_append_row _ rfl (.tmp 38) (.tmp 39) 32 32 rfl w2.heap.size 5 i5 (.int .u8 0) 1 1 Try.underlying32 HI5.out HY0.out HY1.out HY2.out rfl (by decide) _ _ _ rfl (owns_none w2 5) _ b.length (b.map byt) rfl HSB.out ?c4 ?c5 ?c6 ?_))
  case c4 => unfold maxLen; omega
  case c5 => omega
  case c6 => simp
  intro v3 w3 hown3 hg3
  have hB3 : Below w2.heap.size w2 w3 := ((Below.refl _ w2).alloc (Nat.le_refl _) _).trans (hg3.below (by simp) (fun g hg => by simp [Value.ownBlock] at hg; omega))
  obtain ⟨A3, q3, rfl, hrd3, hat3⟩ := reads_of_owns hown3
  have HO23 := Lib.hid (owns_below HO2.out hB3 (own_lt HO2.out))
  have HRD3 : Hid (Reads w3 w3.heap.size 1 A3 b.length (b.map byt)) := by simpa [Hid] using hrd3
  have HA3 : Hid (∀ ad, A3 = some ad → w2.heap.size ≤ ad.block ∧ ad.block < w3.heap.size) := fun ad e => ⟨(hat3 ad e).1, own_lt hown3 ad.block (by rw [e]; rfl)⟩
  have HQ3 : Hid (b.length ≤ q3) := by have := own_cap hown3; unfold Hid; omega
  have HB3 := Lib.hid (HB2.out.trans (hB3.mono HB2.out.size))
  have HL2 := Lib.hid (own_lt HO2.out)
  have hz23 := hB3.size
  clear hown3 hg3 hB3 hrd3 hat3 HSB
  try rw [Nat.zero_add]
  go_wp2_with (first
    | (at_builtin; refine wpList_append_row _ rfl (.tmp 36) (.tmp 42) 79 79 rfl w1.heap.size 83 i0 (.agg #[.int .i64 0, .slice none 0 0]) 2 32 Try.underlying79 HII.out HZ0.out HZ1.out HZ2.out rfl (by decide) v2 _ _ rfl (HO23.out.alloc _) _ 1 [.int .i64 (a' : Int), .slice A3 b.length q3] rfl (src_new w3 Try.underlying79 [.int .i64 (a' : Int), .slice A3 b.length q3] 2 1 1 83 rfl (by intro u hu; simp at hu; rcases hu with rfl | rfl <;> rfl)) ?c7 ?c8 ?c9 ?_))
  case c7 => unfold maxLen; omega
  case c8 => omega
  case c9 => have := HB3.out.size; simp; omega
  intro v4 w4 hown4 hg4
  obtain ⟨A4, q4v, rfl, -, -⟩ := reads_of_owns hown4
  have hz3 := HB3.out.size
  have hB4 : Below w1.heap.size w1 w4 := (HB3.out.trans (((Below.refl _ w3).alloc (by omega) _))).trans (hg4.below (by simp; omega) (fun g hg => own_from HO23.out g hg))
  have hg34 := hg4.grown.size
  have hz12 := HB2.out.size
  simp only [World.alloc, Array.size_push] at hg34
  have hr4 : Reads w4 w4.heap.size 1 A3 b.length (b.map byt) := ((HRD3.out.alloc (Nat.le_refl _) _).chg (M := fun x => v2.ownBlock = some x) (Chg.of_grown hg4.grown (fun _ e => e)) (by simp) (fun ad e hm => by have := HL2.out _ hm; have := (HA3.out ad e).1; omega)).more (by omega)
  have hA4 : ∀ ad, A3 = some ad → w1.heap.size ≤ ad.block ∧ ad.block < w4.heap.size ∧ (Value.slice A4 (ws.length + 1) q4v).ownBlock ≠ some ad.block := fun ad e => by
    have h1 := HA3.out ad e
    refine ⟨by omega, by omega, fun hm => ?_⟩
    rcases hg4.own _ hm with h2 | h2
    · have := HL2.out _ h2; omega
    · simp only [World.alloc, Array.size_push] at h2; omega
  have hw60 : s1.wait.length < 60 := by rw [← HX1.out.wsv]; simpa using hf2
  have ht := rwrite_end HX1.out hB4 hown4 hr4 hA4 HQ3.out hw60 HHAN.out HB.out
  obtain ⟨M', I', q1, q2, q3', q4⟩ := ht
  have HE : Hid (RThen w r { dur := s1.dur, wait := s1.wait ++ [((a' : Int).toNat, b)], off := s1.off, fuse := s1.fuse } M I (w4.setCell ⟨r, 1, none⟩ (.slice A4 (ws.length + 1) q4v))) := by
    rw [Int.toNat_natCast]
    refine ⟨M', I', q1, HC1.out.trans q2 (fun _ _ h => h), fun x hx => ?_, fun x hx => ?_⟩
    · have := q3' x hx
      rw [HSZ.out] at this
      exact this
    · have := q4 x hx
      rw [HSZ.out] at this
      exact this
  have hk4 := HX1.out.blk.below hB4 hrl
  have k41 : w4.cell? ⟨r, 1, none⟩ = some (.slice Av ws.length cv) := by rw [hk4.cell]; rfl
  have l41 := hk4.frozen 1
  clear hown4 hg4 hB4 hr4 hA4 hw60 q1 q2 q3' q4 hk4 hg34 HO23 HRD3 HA3 HQ3 HB3 HL2 HX1 HR1 HC1 HSZ
  go_wp2_with fail
  go_ret
  exact ⟨rfl, HE.out⟩
end Go.Proofs.Ytnjafhlpnoikcaa
