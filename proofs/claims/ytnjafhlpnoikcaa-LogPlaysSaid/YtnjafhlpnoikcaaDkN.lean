/-
  A disk and the blocks that it uses: the calls' contracts, one form for all. Mod. No condition.
-/
import Derived.Test.YtnjafhlpnoikcaaDkL
namespace Go.Proofs.Ytnjafhlpnoikcaa
open Go.RowKit
set_option linter.unusedVariables false

/-- a disk at d in state s; it uses blocks of F alone -/
structure Mine (w : World) (d : Nat) (s : DS) (F : Nat → Prop) : Prop where
  at_ : ∃ M I, DiskAt w d s M I ∧ ∀ b, M b ∨ I b → F b
  lt : ∀ b, F b → b < w.heap.size
/-- what a call leaves -/
def OpPost (w : World) (d : Nat) (s' : DS) (F : Nat → Prop) (w' : World) : Prop := ∃ F', Mine w' d s' F' ∧ Chg w w' F ∧ ∀ b, F' b → F b ∨ w.heap.size ≤ b
section
variable {w w' : World} {d : Nat} {s : DS} {F G : Nat → Prop}
theorem DiskX.lo {gd gs cd cs : Nat} {v : Value} {left : Int} {ws : List Wr} {M I : Nat → Prop} (h : DiskX w d gd gs cd cs v left ws s M I) : s.ok := h.ok
theorem Mine.ok (h : Mine w d s F) : s.ok := by
  obtain ⟨M, I, ⟨_, _, _, _, _, _, _, hx⟩, _⟩ := h.at_
  exact hx.ok
theorem Mine.chg (h : Mine w d s F) (hc : Chg w w' G) (hd : ∀ b, F b → ¬ G b) : Mine w' d s F := by
  obtain ⟨M, I, hat, hF⟩ := h.at_
  exact ⟨⟨M, I, hat.chg hc (fun b hg hm => hd b (hF b (.inl hm)) hg) (fun b hg hi => hd b (hF b (.inr hi)) hg), hF⟩, fun b hb => Nat.lt_of_lt_of_le (h.lt b hb) hc.size⟩
theorem Mine.below {B : Nat} (h : Mine w d s F) (hb : Below B w w') (hB : w.heap.size ≤ B) : Mine w' d s F :=
  h.chg (G := fun b => w.heap.size ≤ b) (Chg.of_below hb (fun i hi => by omega)) (fun b hF hG => by have := h.lt b hF; omega)
theorem Mine.alloc (h : Mine w d s F) (o : Obj) : Mine (w.alloc o) d s F := h.below (B := w.heap.size) ((Below.refl _ w).alloc (Nat.le_refl _) o) (Nat.le_refl _)
theorem Mine.drewN (h : Mine w d s F) (n : Nat) : Mine (w.drewN n) d s F := h.below (B := w.heap.size) (below_drewN (Below.refl _ w) n) (Nat.le_refl _)
theorem OpPost.of_then {M I : Nat → Prop} {s' : DS} (h : Mine w d s F) (hF : ∀ b, M b ∨ I b → F b) (ht : Then w d s' M I w') : OpPost w d s' F w' := by
  obtain ⟨M', I', h1, h2, h3, h4⟩ := ht
  have hlt : ∀ b, M' b ∨ I' b → b < w'.heap.size := by
    obtain ⟨_, _, _, _, _, _, _, hx⟩ := h1
    exact hx.lt
  refine ⟨fun b => M' b ∨ I' b, ⟨⟨M', I', h1, fun _ h => h⟩, hlt⟩, h2.mono (fun i hi => hF i (.inl hi)), fun b hb => ?_⟩
  rcases hb with hb | hb
  · rcases h3 b hb with h | h
    · exact .inl (hF b (.inl h))
    · exact .inr h
  · rcases h4 b hb with h | h
    · exact .inl (hF b (.inr h))
    · exact .inr h
end

theorem write_m (d : Nat) (s : DS) (F : Nat → Prop) (a : Int) (A : Option Addr) (c : Nat) (b : List Nat) (w : World) (h : Mine w d s F) (hb : ∀ x ∈ b, x < 256) (hbl : b.length ≤ 1000000000) (hr : Reads w w.heap.size 1 A b.length (b.map byt)) (hA : 0 < b.length → ∀ ad, A = some ad → ¬ F ad.block) :
    Calls Try.prog 12 #[.pointer (some ⟨d, 0, none⟩), .int .i64 a, .slice A b.length c] w fun e w' => e = .returned (.int .i64 (writeS s a b).1) ∧ OpPost w d (writeS s a b).2 F w' := by
  obtain ⟨M, I, hat, hF⟩ := h.at_
  exact (write_any d s M I a A c b w hat hb hbl hr (fun hn ad e hm => hA hn ad e (hF _ (.inl hm)))).mono fun e w' ⟨h1, h2⟩ => ⟨h1, OpPost.of_then h hF h2⟩
theorem sync_m (d : Nat) (s : DS) (F : Nat → Prop) (w : World) (h : Mine w d s F) :
    Calls Try.prog 73 #[.pointer (some ⟨d, 0, none⟩)] w fun e w' => e = .returned (.int .i64 (syncS s).1) ∧ OpPost w d (syncS s).2 F w' := by
  obtain ⟨M, I, hat, hF⟩ := h.at_
  exact (sync_any d s M I w hat).mono fun e w' ⟨h1, h2⟩ => ⟨h1, OpPost.of_then h hF h2⟩
theorem crash_m (d : Nat) (s : DS) (F : Nat → Prop) (K : Option Addr) (ck : Nat) (keep : List Bool) (part : Int) (w : World) (h : Mine w d s F) (hkl : keep.length ≤ 1000000000000) (hkr : Reads w w.heap.size 1 K keep.length (keep.map Value.bool)) (hK : 0 < keep.length → ∀ ad, K = some ad → ¬ F ad.block) :
    Calls Try.prog 15 #[.pointer (some ⟨d, 0, none⟩), .slice K keep.length ck, .int .i64 part] w fun e w' => e = .returned (.tuple #[]) ∧ OpPost w d (crashS s keep part) F w' := by
  obtain ⟨M, I, hat, hF⟩ := h.at_
  exact (crash_any d s M I K ck keep part w hat hkl hkr (fun hn ad e hm => hK hn ad e (hF _ (.inl hm)))).mono fun e w' ⟨h1, h2⟩ => ⟨h1, OpPost.of_then h hF h2⟩
theorem fuse_m (d : Nat) (s : DS) (F : Nat → Prop) (n : Int) (w : World) (h : Mine w d s F) (hn : n ≤ 9223372036854775807) :
    Calls Try.prog 11 #[.pointer (some ⟨d, 0, none⟩), .int .i64 n] w fun e w' => e = .returned (.tuple #[]) ∧ OpPost w d (fuseS s n) F w' := by
  obtain ⟨M, I, hat, hF⟩ := h.at_
  have hmd : M d := by obtain ⟨_, _, _, _, _, _, _, hx⟩ := hat; exact hx.md
  exact (fuse_any d s M I n w hat hn).mono fun e w' ⟨h1, h2, h3, h4⟩ => ⟨h1, OpPost.of_then h hF (then_same h2 (h3.mono (fun i e => by rw [e]; exact hmd)))⟩
theorem read_m (d : Nat) (s : DS) (F : Nat → Prop) (a n : Int) (w : World) (h : Mine w d s F) (hn : n ≤ 9223372036854775807) :
    Calls Try.prog 46 #[.pointer (some ⟨d, 0, none⟩), .int .i64 a, .int .i64 n] w (ReadPost w (readS s a n)) := by
  obtain ⟨M, I, hat, hF⟩ := h.at_
  exact read_any d s M I a n w hat hn
theorem pending_m (d : Nat) (s : DS) (F : Nat → Prop) (w : World) (h : Mine w d s F) : Calls Try.prog 49 #[.pointer (some ⟨d, 0, none⟩)] w fun e w' => e = .returned (.int .i64 s.wait.length) ∧ w = w' := by
  obtain ⟨M, I, hat, hF⟩ := h.at_
  exact pending_any d s M I w hat
theorem size_m (d : Nat) (s : DS) (F : Nat → Prop) (w : World) (h : Mine w d s F) : Calls Try.prog 29 #[.pointer (some ⟨d, 0, none⟩)] w fun e w' => e = .returned (.int .i64 s.dur.length) ∧ w = w' := by
  obtain ⟨M, I, hat, hF⟩ := h.at_
  exact size_any d s M I w hat
theorem new_m (n : Nat) (w : World) (h1 : 64 ≤ n) (h2 : n ≤ 131072) : Calls Try.prog 9 #[.int .i64 (n : Int)] w fun e w' =>
    ∃ d F, e = .returned (.tuple #[.pointer (some ⟨d, 0, none⟩), .int .i64 0]) ∧ Mine w' d (newS n) F ∧ (∀ b, F b → w.heap.size ≤ b) ∧ Below w.heap.size w w' :=
  (new_yes n w h1 h2).mono fun e w' ⟨d, M, he, hat, hM, hb⟩ => ⟨d, M, he, ⟨⟨M, _, hat, fun b hb => by
    rcases hb with hb | hb
    · exact hb
    · exact hb.elim⟩, fun b hb => by
    obtain ⟨_, _, _, _, _, _, _, hx⟩ := hat
    exact hx.lt b (.inl hb)⟩, hM, hb⟩

/-- from the law's first world on: a disk of the law's own -/
structure Mine0 (w0 w : World) (d : Nat) (s : DS) (F : Nat → Prop) : Prop where
  mine : Mine w d s F
  own : ∀ b, F b → w0.heap.size ≤ b
  bel : Below w0.heap.size w0 w
theorem Mine0.op {w0 w w' : World} {d : Nat} {s s' : DS} {F : Nat → Prop} (h : Mine0 w0 w d s F) (ho : OpPost w d s' F w') : ∃ F', Mine0 w0 w' d s' F' ∧ Chg w w' F ∧ ∀ b, F' b → F b ∨ w.heap.size ≤ b := by
  obtain ⟨F', h1, h2, h3⟩ := ho
  have hs := h.bel.size
  refine ⟨F', ⟨h1, fun b hb => ?_, h.bel.trans ((h2.below (B := w0.heap.size) hs h.own))⟩, h2, h3⟩
  rcases h3 b hb with h4 | h4
  · exact h.own b h4
  · omega
theorem Mine0.on {w0 w w' : World} {d : Nat} {s : DS} {F : Nat → Prop} (h : Mine0 w0 w d s F) (hb : Below w.heap.size w w') : Mine0 w0 w' d s F :=
  ⟨h.mine.below hb (Nat.le_refl _), h.own, h.bel.trans (hb.mono h.bel.size)⟩
theorem Mine0.alloc {w0 w : World} {d : Nat} {s : DS} {F : Nat → Prop} (h : Mine0 w0 w d s F) (o : Obj) : Mine0 w0 (w.alloc o) d s F :=
  h.on ((Below.refl _ w).alloc (Nat.le_refl _) o)
/-- bytes in a block that was just made -/
theorem bytes_new (w : World) (l : List Nat) : Reads (w.alloc (.cells (l.map byt).toArray 5)) (w.alloc (.cells (l.map byt).toArray 5)).heap.size 1 (some ⟨w.heap.size, 0, none⟩) l.length (l.map byt) := by
  have := blk_reads (Blk.new w 5 (l.map byt).toArray) 0 l.length (by omega)
  rw [List.drop_zero, List.take_length] at this
  exact this
theorem Mine.fresh {w : World} {d : Nat} {s : DS} {F : Nat → Prop} {n : Nat} (h : Mine w d s F) : 0 < n → ∀ ad, some (⟨w.heap.size, 0, none⟩ : Addr) = some ad → ¬ F ad.block := fun _ ad e hF => by
  injection e with e
  have := h.lt _ hF
  rw [← e] at this
  simp at this

theorem mod_spelt (z m : Int) (h0 : 0 < m) : (z % m = if z.tmod m < 0 then z.tmod m + m else z.tmod m) ∧ -m < z.tmod m ∧ z.tmod m < m := by
  have hne : ¬ m = 0 := by omega
  have h1 := Int.tmod_eq_emod (a := z) (b := m)
  have h2 := Int.emod_nonneg z hne
  have h3 := Int.emod_lt_of_pos z h0
  have h5 : ∀ q : Int, (0 ≤ z ∨ m ∣ z) ∨ ¬ (0 ≤ z ∨ m ∣ z) := fun _ => Classical.em _
  rcases h5 0 with h | h
  · rw [if_pos h] at h1
    refine ⟨?_, by omega, by omega⟩
    rw [if_neg (by omega)]; omega
  · rw [if_neg h] at h1
    have h6 : z % m ≠ 0 := fun e => h (.inr (Int.dvd_of_emod_eq_zero e))
    refine ⟨?_, by omega, by omega⟩
    rw [if_pos (by omega)]; omega

set_option maxRecDepth 100000 in
set_option maxHeartbeats 400000 in
theorem mod_any (z m : Int) (w : World) (h0 : 0 < m) (hm : m ≤ 1000000000) (hz1 : -9223372036854775808 ≤ z) (hz2 : z ≤ 9223372036854775807) :
    Calls Try.prog 10 #[.int .i64 z, .int .i64 m] w fun e w' => e = .returned (.int .i64 (z % m)) ∧ w = w' := by
  have hne : ¬ m = 0 := by omega
  have hne' : (m == 0) = false := by simpa using hne
  obtain ⟨ht, hr1, hr2⟩ := mod_spelt z m h0
  obtain ⟨r, hr⟩ : ∃ r, z % m = r := ⟨_, rfl⟩
  obtain ⟨q, hq⟩ : ∃ q, z.tmod m = q := ⟨_, rfl⟩
  rw [hr] at ht ⊢
  rw [hq] at ht hr1 hr2
  clear hr
  by_cases hneg : q < 0
  · rw [if_pos hneg] at ht
    subst ht
    go_enter Try.func10, Try.ntmps10
    go_wp2_with fail
    go_ret
    simp
    have h9 := Int.emod_eq_of_lt (show 0 ≤ q + m by omega) (show q + m < m by omega)
    first | (rw [Int.add_emod_right] at h9; exact h9) | (rw [Int.add_emod_self] at h9; exact h9)
  · rw [if_neg hneg] at ht
    subst ht
    go_enter Try.func10, Try.ntmps10
    go_wp2_with fail
    go_ret
    simp
    exact Int.emod_eq_of_lt (by omega) hr2
end Go.Proofs.Ytnjafhlpnoikcaa
