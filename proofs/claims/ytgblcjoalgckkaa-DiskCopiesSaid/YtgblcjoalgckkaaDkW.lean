/-
  Two disks, the program's and the reference's; small, alike. No condition.
-/
import Derived.Test.YtgblcjoalgckkaaDkV
namespace Go.Proofs.Ytgblcjoalgckkaa
open Go.RowKit
set_option linter.unusedVariables false

/-- the program's disk in state s, the reference's in state t, apart, and both of the law's own -/
structure TwoX (w0 w : World) (d : Nat) (s : DS) (r : Nat) (t : DS) (M I Mr Ir : Nat → Prop) : Prop where
  disk : DiskAt w d s M I
  ref : RefAt w r t Mr Ir
  ap1 : ∀ b, M b → ¬ Mr b ∧ ¬ Ir b
  ap2 : ∀ b, Mr b → ¬ I b
  own : ∀ b, M b ∨ Mr b → w0.heap.size ≤ b
  bel : Below w0.heap.size w0 w
def Two (w0 w : World) (d : Nat) (s : DS) (r : Nat) (t : DS) : Prop := ∃ M I Mr Ir, TwoX w0 w d s r t M I Mr Ir
section
variable {w0 w w' : World} {d r : Nat} {s t s' t' : DS} {M I Mr Ir : Nat → Prop}
theorem DiskAt.lt (h : DiskAt w d s M I) : ∀ b, M b ∨ I b → b < w.heap.size := by obtain ⟨_, _, _, _, _, _, _, hx⟩ := h; exact hx.lt
theorem RefAt.lt (h : RefAt w r s M I) : ∀ b, M b ∨ I b → b < w.heap.size := by obtain ⟨_, _, _, _, hx⟩ := h; exact hx.lt
theorem DiskAt.ok (h : DiskAt w d s M I) : s.ok := by obtain ⟨_, _, _, _, _, _, _, hx⟩ := h; exact hx.ok
theorem TwoX.op (h : TwoX w0 w d s r t M I Mr Ir) (ho : Then w d s' M I w') : ∃ M' I', TwoX w0 w' d s' r t M' I' Mr Ir ∧ Chg w w' M ∧ ∀ b, M' b → M b ∨ w.heap.size ≤ b := by
  obtain ⟨M', I', h1, h2, h3, h4⟩ := ho
  have hs := h.bel.size
  have hr := h.ref.lt
  refine ⟨M', I', ⟨h1, h.ref.chg h2 (fun b hm => (h.ap1 b hm).1) (fun b hm => (h.ap1 b hm).2), fun b hb => ?_, fun b hb hi => ?_, fun b hb => ?_, h.bel.trans (h2.below hs (fun b hb => h.own b (.inl hb)))⟩, h2, h3⟩
  · rcases h3 b hb with h5 | h5
    · exact h.ap1 b h5
    · exact ⟨fun hm => by have := hr b (.inl hm); omega, fun hm => by have := hr b (.inr hm); omega⟩
  · rcases h4 b hi with h5 | h5
    · exact h.ap2 b hb h5
    · have := hr b (.inl hb); omega
  · rcases hb with hb | hb
    · rcases h3 b hb with h5 | h5
      · exact h.own b (.inl h5)
      · omega
    · exact h.own b (.inr hb)
theorem TwoX.rop (h : TwoX w0 w d s r t M I Mr Ir) (ho : RThen w r t' Mr Ir w') : ∃ Mr' Ir', TwoX w0 w' d s r t' M I Mr' Ir' ∧ Chg w w' Mr ∧ ∀ b, Mr' b → Mr b ∨ w.heap.size ≤ b := by
  obtain ⟨M', I', h1, h2, h3, h4⟩ := ho
  have hs := h.bel.size
  have hd := h.disk.lt
  refine ⟨M', I', ⟨h.disk.chg h2 (fun b hm hb => (h.ap1 b hb).1 hm) (fun b hm => h.ap2 b hm), h1, fun b hb => ⟨fun hm => ?_, fun hm => ?_⟩, fun b hb hi => ?_, fun b hb => ?_, h.bel.trans (h2.below hs (fun b hb => h.own b (.inr hb)))⟩, h2, h3⟩
  · rcases h3 b hm with h5 | h5
    · exact (h.ap1 b hb).1 h5
    · have := hd b (.inl hb); omega
  · rcases h4 b hm with h5 | h5
    · exact (h.ap1 b hb).2 h5
    · have := hd b (.inl hb); omega
  · rcases h3 b hb with h5 | h5
    · exact h.ap2 b h5 hi
    · have := hd b (.inr hi); omega
  · rcases hb with hb | hb
    · exact h.own b (.inl hb)
    · rcases h3 b hb with h5 | h5
      · exact h.own b (.inr h5)
      · omega
theorem TwoX.on (h : TwoX w0 w d s r t M I Mr Ir) (hb : Below w.heap.size w w') : TwoX w0 w' d s r t M I Mr Ir := by
  have hd := h.disk.lt
  have hr := h.ref.lt
  have hc : Chg w w' (fun b => w.heap.size ≤ b) := Chg.of_below hb (fun _ h => h)
  exact ⟨h.disk.chg hc (fun b hg hm => by have := hd b (.inl hm); omega) (fun b hg hm => by have := hd b (.inr hm); omega), h.ref.chg hc (fun b hg hm => by have := hr b (.inl hm); omega) (fun b hg hm => by have := hr b (.inr hm); omega), h.ap1, h.ap2, h.own, h.bel.trans (hb.mono h.bel.size)⟩
theorem Two.on (h : Two w0 w d s r t) (hb : Below w.heap.size w w') : Two w0 w' d s r t := by
  obtain ⟨M, I, Mr, Ir, h⟩ := h
  exact ⟨M, I, Mr, Ir, h.on hb⟩
theorem Two.bel (h : Two w0 w d s r t) : Below w0.heap.size w0 w := by
  obtain ⟨M, I, Mr, Ir, h⟩ := h
  exact h.bel
end

theorem read_mem (s : DS) (hs : s.ok) (a n : Int) : ∀ x ∈ (readS s a n).1, x < 256 := by
  unfold readS
  split
  · simp
  · split
    · simp
    · intro x hx
      exact seen_mem _ _ hs.fit hs.byt x (List.mem_of_mem_drop (List.mem_of_mem_take hx))

set_option maxRecDepth 100000 in
set_option maxHeartbeats 1600000 in
theorem alike_any (d r : Nat) (s : DS) (w0 w : World) (h : Two w0 w d s r s) :
    Calls Try.prog 20 #[.pointer (some ⟨d, 0, none⟩), .pointer (some ⟨r, 0, none⟩)] w fun e w' => e = .returned (.bool true) ∧ Below w.heap.size w w' := by
  obtain ⟨M, I, Mr, Ir, hT⟩ := h
  have hok := hT.disk.ok
  have hlen : (s.dur.length : Int) ≤ 9223372036854775807 := by have := hok.hi; omega
  have HSZ := Lib.hid (rsize_any r s Mr Ir w hT.ref)
  have HRD := Lib.hid (read_any d s M I 0 s.dur.length w hT.disk hlen)
  have HT := Lib.hid hT
  obtain ⟨N, hN⟩ : ∃ N, s.dur.length = N := ⟨_, rfl⟩
  have HNN := Lib.hid hN
  have HOK := Lib.hid hok
  rw [hN] at HSZ HRD hlen
  obtain ⟨q, hq⟩ : ∃ q, readS s 0 (N : Int) = q := ⟨_, rfl⟩
  have HQ := Lib.hid hq
  rw [hq] at HRD
  clear hT hok hN hq
  go_enter Try.func20, Try.ntmps20
  go_wp2_with fail
  refine (HSZ.out).mono ?_
  rintro e w1 ⟨rfl, rfl⟩
  go_wp2_with fail
  refine (HRD.out).mono ?_
  rintro e w1 ⟨A1, c1, rfl, hr1, -, -, hb1⟩
  have hT1 := HT.out.on hb1
  have HSZ1 := Lib.hid (rsize_any r s Mr Ir w1 hT1.ref)
  have HRD1 := Lib.hid (rread_any r s Mr Ir 0 (N : Int) w1 hT1.ref hlen)
  rw [HNN.out] at HSZ1
  rw [HQ.out] at HRD1
  have HT1 := Lib.hid hT1
  have HR1 := Lib.hid hr1
  have HB1 := Lib.hid hb1
  clear hT1 hr1 hb1 HRD HSZ
  go_wp2_with fail
  refine (HSZ1.out).mono ?_
  rintro e w2 ⟨rfl, rfl⟩
  go_wp2_with fail
  refine (HRD1.out).mono ?_
  rintro e w2 ⟨A2, c2, rfl, hr2, -, -, hb2⟩
  have HT2 := Lib.hid (HT1.out.on hb2)
  have HR12 := Lib.hid (HR1.out.up (Nat.le_refl _) hb2)
  have hqm : ∀ x ∈ q.1, x < 256 := by rw [← HQ.out]; exact read_mem s HOK.out 0 N
  have HSM := Lib.hid (same_any A1 A2 c1 c2 q.1 q.1 w2 _ _ HR12.out hr2 hqm hqm)
  rw [decide_eq_true rfl] at HSM
  have HO := Lib.hid (off_any d s M I w2 HT2.out.disk)
  have HO' := Lib.hid (roff_any r s Mr Ir w2 HT2.out.ref)
  have HP := Lib.hid (pending_any d s M I w2 HT2.out.disk)
  have HP' := Lib.hid (rpending_any r s Mr Ir w2 HT2.out.ref)
  have HZ := Lib.hid (size_any d s M I w2 HT2.out.disk)
  have HZ' := Lib.hid (rsize_any r s Mr Ir w2 HT2.out.ref)
  have HB2 := Lib.hid (HB1.out.trans (hb2.mono HB1.out.size))
  clear hr2 hb2 HRD1 HSZ1 hqm HR1 HT1
  go_wp2_with fail
  refine (HSM.out).mono ?_
  rintro e w3 ⟨rfl, rfl⟩
  go_wp2_with fail
  refine (HO.out).mono ?_
  rintro e w3 ⟨rfl, rfl⟩
  go_wp2_with fail
  refine (HO'.out).mono ?_
  rintro e w3 ⟨rfl, rfl⟩
  go_wp2_with fail
  refine (HP.out).mono ?_
  rintro e w3 ⟨rfl, rfl⟩
  go_wp2_with fail
  refine (HP'.out).mono ?_
  rintro e w3 ⟨rfl, rfl⟩
  go_wp2_with fail
  refine (HZ.out).mono ?_
  rintro e w3 ⟨rfl, rfl⟩
  go_wp2_with fail
  refine (HZ'.out).mono ?_
  rintro e w3 ⟨rfl, rfl⟩
  go_wp2_with fail
  go_ret
  exact ⟨rfl, HB2.out⟩
end Go.Proofs.Ytgblcjoalgckkaa
