/-
  The reference's disk with the blocks that it uses, and its log in memory; the log's small functions. No condition.
-/
import Derived.Test.YtnjafhlpnoikcaaDkU
import Derived.Test.YtnjafhlpnoikcaaDkV
import Derived.Test.YtnjafhlpnoikcaaLgY
namespace Go.Proofs.Ytnjafhlpnoikcaa
open Go.RowKit
set_option linter.unusedVariables false

/-- the reference's disk at r in state s; it uses blocks of F alone -/
structure RMine (w : World) (r : Nat) (s : DS) (F : Nat → Prop) : Prop where
  at_ : ∃ M I, RefAt w r s M I ∧ ∀ b, M b ∨ I b → F b
  lt : ∀ b, F b → b < w.heap.size
def ROpPost (w : World) (r : Nat) (s' : DS) (F : Nat → Prop) (w' : World) : Prop := ∃ F', RMine w' r s' F' ∧ Chg w w' F ∧ ∀ b, F' b → F b ∨ w.heap.size ≤ b
section
variable {w w' : World} {r : Nat} {s : DS} {F G : Nat → Prop}
theorem RefAt.lt {M I : Nat → Prop} (h : RefAt w r s M I) : ∀ b, M b ∨ I b → b < w.heap.size := by obtain ⟨_, _, _, _, hx⟩ := h; exact hx.lt
theorem RMine.ok (h : RMine w r s F) : s.ok := by
  obtain ⟨M, I, ⟨_, _, _, _, hx⟩, _⟩ := h.at_
  exact hx.ok
theorem RMine.chg (h : RMine w r s F) (hc : Chg w w' G) (hd : ∀ b, F b → ¬ G b) : RMine w' r s F := by
  obtain ⟨M, I, hat, hF⟩ := h.at_
  exact ⟨⟨M, I, hat.chg hc (fun b hg hm => hd b (hF b (.inl hm)) hg) (fun b hg hi => hd b (hF b (.inr hi)) hg), hF⟩, fun b hb => Nat.lt_of_lt_of_le (h.lt b hb) hc.size⟩
theorem RMine.below (h : RMine w r s F) (hb : Below w.heap.size w w') : RMine w' r s F :=
  h.chg (G := fun b => w.heap.size ≤ b) (Chg.of_below hb (fun i hi => hi)) (fun b hF hG => by have := h.lt b hF; omega)
theorem RMine.alloc (h : RMine w r s F) (o : Obj) : RMine (w.alloc o) r s F := h.below ((Below.refl _ w).alloc (Nat.le_refl _) o)
theorem RMine.drewN (h : RMine w r s F) (n : Nat) : RMine (w.drewN n) r s F := h.below (below_drewN (Below.refl _ w) n)
theorem ROpPost.of_then {M I : Nat → Prop} {s' : DS} (h : RMine w r s F) (hF : ∀ b, M b ∨ I b → F b) (ht : RThen w r s' M I w') : ROpPost w r s' F w' := by
  obtain ⟨M', I', h1, h2, h3, h4⟩ := ht
  refine ⟨fun b => M' b ∨ I' b, ⟨⟨M', I', h1, fun _ h => h⟩, h1.lt⟩, h2.mono (fun i hi => hF i (.inl hi)), fun b hb => ?_⟩
  rcases hb with hb | hb
  · rcases h3 b hb with h | h
    · exact .inl (hF b (.inl h))
    · exact .inr h
  · rcases h4 b hb with h | h
    · exact .inl (hF b (.inr h))
    · exact .inr h
theorem ROpPost.trans {w1 w2 : World} {s2 : DS} {F1 : Nat → Prop} (hc : Chg w w1 F) (hF : ∀ b, F1 b → F b ∨ w.heap.size ≤ b) (h2 : ROpPost w1 r s2 F1 w2) : ROpPost w r s2 F w2 := by
  obtain ⟨F2, m2, c2, f2⟩ := h2
  refine ⟨F2, m2, ⟨c2.os.trans hc.os, c2.tape.trans hc.tape, c2.output.trans hc.output, Nat.le_trans hc.size c2.size, fun i hi hn => ?_⟩, fun b hb => ?_⟩
  · refine (c2.block i (Nat.lt_of_lt_of_le hi hc.size) (fun hf => ?_)).trans (hc.block i hi hn)
    rcases hF i hf with h | h
    · exact hn h
    · omega
  · rcases f2 b hb with h | h
    · exact hF b h
    · have := hc.size
      exact .inr (by omega)
end
theorem rwrite_m (r : Nat) (s : DS) (F : Nat → Prop) (a : Int) (A : Option Addr) (c : Nat) (b : List Nat) (w : World) (h : RMine w r s F) (hb : ∀ x ∈ b, x < 256) (hbl : b.length ≤ 1000000000) (hr : Reads w w.heap.size 1 A b.length (b.map byt)) (hA : 0 < b.length → ∀ ad, A = some ad → ¬ F ad.block) :
    Calls Try.prog 19 #[.pointer (some ⟨r, 0, none⟩), .int .i64 a, .slice A b.length c] w fun e w' => e = .returned (.int .i64 (writeS s a b).1) ∧ ROpPost w r (writeS s a b).2 F w' := by
  obtain ⟨M, I, hat, hF⟩ := h.at_
  exact (rwrite_any r s M I a A c b w hat hb hbl hr (fun hn ad e hm => hA hn ad e (hF _ (.inl hm)))).mono fun e w' ⟨h1, h2⟩ => ⟨h1, ROpPost.of_then h hF h2⟩
theorem rsync_m (r : Nat) (s : DS) (F : Nat → Prop) (w : World) (h : RMine w r s F) :
    Calls Try.prog 57 #[.pointer (some ⟨r, 0, none⟩)] w fun e w' => e = .returned (.int .i64 (syncS s).1) ∧ ROpPost w r (syncS s).2 F w' := by
  obtain ⟨M, I, hat, hF⟩ := h.at_
  exact (rsync_any r s M I w hat).mono fun e w' ⟨h1, h2⟩ => ⟨h1, ROpPost.of_then h hF h2⟩
theorem rcrash_m (r : Nat) (s : DS) (F : Nat → Prop) (K : Option Addr) (ck : Nat) (keep : List Bool) (part : Int) (w : World) (h : RMine w r s F) (hkl : keep.length ≤ 1000000000000) (hkr : Reads w w.heap.size 1 K keep.length (keep.map Value.bool)) (hK : 0 < keep.length → ∀ ad, K = some ad → ¬ F ad.block) :
    Calls Try.prog 28 #[.pointer (some ⟨r, 0, none⟩), .slice K keep.length ck, .int .i64 part] w fun e w' => e = .returned (.tuple #[]) ∧ ROpPost w r (crashS s keep part) F w' := by
  obtain ⟨M, I, hat, hF⟩ := h.at_
  exact (rcrash_any r s M I K ck keep part w hat hkl hkr (fun hn ad e hm => hK hn ad e (hF _ (.inl hm)))).mono fun e w' ⟨h1, h2⟩ => ⟨h1, ROpPost.of_then h hF h2⟩
theorem rfuse_m (r : Nat) (s : DS) (F : Nat → Prop) (n : Int) (w : World) (h : RMine w r s F) (hn : n ≤ 9223372036854775807) :
    Calls Try.prog 27 #[.pointer (some ⟨r, 0, none⟩), .int .i64 n] w fun e w' => e = .returned (.tuple #[]) ∧ ROpPost w r (fuseS s n) F w' := by
  obtain ⟨M, I, hat, hF⟩ := h.at_
  exact (rfuse_any r s M I n w hat hn).mono fun e w' ⟨h1, h2⟩ => ⟨h1, ROpPost.of_then h hF h2⟩
theorem rread_m (r : Nat) (s : DS) (F : Nat → Prop) (a n : Int) (w : World) (h : RMine w r s F) (hn : n ≤ 9223372036854775807) :
    Calls Try.prog 42 #[.pointer (some ⟨r, 0, none⟩), .int .i64 a, .int .i64 n] w (ReadPost w (readS s a n)) := by
  obtain ⟨M, I, hat, hF⟩ := h.at_
  exact rread_any r s M I a n w hat hn
theorem rpending_m (r : Nat) (s : DS) (F : Nat → Prop) (w : World) (h : RMine w r s F) : Calls Try.prog 50 #[.pointer (some ⟨r, 0, none⟩)] w fun e w' => e = .returned (.int .i64 s.wait.length) ∧ w = w' := by
  obtain ⟨M, I, hat, hF⟩ := h.at_
  exact rpending_any r s M I w hat
theorem rsize_m (r : Nat) (s : DS) (F : Nat → Prop) (w : World) (h : RMine w r s F) : Calls Try.prog 43 #[.pointer (some ⟨r, 0, none⟩)] w fun e w' => e = .returned (.int .i64 s.dur.length) ∧ w = w' := by
  obtain ⟨M, I, hat, hF⟩ := h.at_
  exact rsize_any r s M I w hat
theorem rnew_m (n : Nat) (w : World) (h1 : 64 ≤ n) (h2 : n ≤ 131072) : Calls Try.prog 18 #[.int .i64 (n : Int)] w fun e w' =>
    ∃ r F, e = .returned (.tuple #[.pointer (some ⟨r, 0, none⟩), .int .i64 0]) ∧ RMine w' r (newS n) F ∧ (∀ b, F b → w.heap.size ≤ b) ∧ Below w.heap.size w w' :=
  (rnew_yes n w h1 h2).mono fun e w' ⟨r, M, he, hat, hM, hb⟩ => ⟨r, M, he, ⟨⟨M, _, hat, fun b hb => by
    rcases hb with hb | hb
    · exact hb
    · exact hb.elim⟩, fun b hb => hat.lt b (.inl hb)⟩, hM, hb⟩

/-- the reference's log at block g over the disk at r -/
structure RLogX (w : World) (g r : Nat) (l : LS) (v : Value) (rs : List Rc) (K : Nat → Prop) : Prop where
  blk : Blk w g 85 #[.pointer (some ⟨r, 0, none⟩), v, .bool l.second, .int .i64 (l.fin : Int), .bool l.dead]
  own : w.ownsRow 0 32 1 v rs.length (rs.flatMap rcell)
  rsb : rs.map (·.b) = l.recs
  good : ∀ r ∈ rs, Reads w w.heap.size 1 r.A r.b.length (r.b.map byt) ∧ (0 < r.b.length → ∀ ad, r.A = some ad → K ad.block ∧ v.ownBlock ≠ some ad.block ∧ ad.block ≠ g)
  kg : K g
  kv : ∀ b, v.ownBlock = some b → K b
  lt : ∀ b, K b → b < w.heap.size
  half : l.half ≤ 65536
  fin : l.fin ≤ l.half
  few : 5 * l.recs.length ≤ l.fin
  byte : ∀ b ∈ l.recs, ∀ x ∈ b, x < 256
  small : ∀ b ∈ l.recs, b.length ≤ 65536
def RLogAt (w : World) (g r : Nat) (l : LS) (K : Nat → Prop) : Prop := ∃ v rs, RLogX w g r l v rs K
section
variable {w w' : World} {g r : Nat} {l : LS} {v : Value} {rs : List Rc} {K G : Nat → Prop}
theorem RLogX.chg (h : RLogX w g r l v rs K) (hc : Chg w w' G) (hd : ∀ b, K b → ¬ G b) : RLogX w' g r l v rs K :=
  ⟨h.blk.chg hc (hd g h.kg), owns_chg h.own hc (fun b hb => hd b (h.kv b hb)), h.rsb, fun r hr => ⟨((h.good r hr).1.chg0 hc (Nat.le_refl _) (fun hn ad ha => hd _ ((h.good r hr).2 hn ad ha).1)).more hc.size, (h.good r hr).2⟩, h.kg, h.kv, fun b hb => Nat.lt_of_lt_of_le (h.lt b hb) hc.size, h.half, h.fin, h.few, h.byte, h.small⟩
theorem RLogX.below (h : RLogX w g r l v rs K) (hb : Below w.heap.size w w') : RLogX w' g r l v rs K :=
  h.chg (G := fun b => w.heap.size ≤ b) (Chg.of_below hb (fun i hi => hi)) (fun b hK hG => by have := h.lt b hK; omega)
theorem RLogAt.chg (h : RLogAt w g r l K) (hc : Chg w w' G) (hd : ∀ b, K b → ¬ G b) : RLogAt w' g r l K := by
  obtain ⟨v, rs, hx⟩ := h
  exact ⟨v, rs, hx.chg hc hd⟩
theorem RLogAt.below (h : RLogAt w g r l K) (hb : Below w.heap.size w w') : RLogAt w' g r l K := by
  obtain ⟨v, rs, hx⟩ := h
  exact ⟨v, rs, hx.below hb⟩
theorem RLogX.len (h : RLogX w g r l v rs K) : rs.length = l.recs.length := by rw [← h.rsb, List.length_map]
theorem RLogX.slice (h : RLogX w g r l v rs K) : ∃ A c, v = .slice A rs.length c := by
  obtain ⟨A, c, hv, -, -⟩ := reads_of_owns h.own
  exact ⟨A, c, hv⟩
end
/-- the reference's disk and log, each with blocks of its own -/
structure RBoth (w : World) (g r : Nat) (s : DS) (l : LS) (F K : Nat → Prop) : Prop where
  disk : RMine w r s F
  log : RLogAt w g r l K
  apart : ∀ b, F b → ¬ K b
  hh : l.half = (s.dur.length - 1) / 2
theorem RBoth.below {w w' : World} {g r : Nat} {s : DS} {l : LS} {F K : Nat → Prop} (h : RBoth w g r s l F K) (hb : Below w.heap.size w w') : RBoth w' g r s l F K := ⟨h.disk.below hb, h.log.below hb, h.apart, h.hh⟩

set_option maxRecDepth 100000 in
set_option maxHeartbeats 400000 in
theorem rhalf_any (n : Nat) (w : World) (h1 : 1 ≤ n) (h2 : n ≤ 131072) : Calls Try.prog 44 #[.int .i64 (n : Int)] w fun e w' => e = .returned (.int .i64 (((n - 1) / 2 : Nat) : Int)) ∧ w = w' := by
  have q : ((n : Int) - 1) / 2 = (((n - 1) / 2 : Nat) : Int) := by omega
  generalize (n - 1) / 2 = m at q ⊢
  go_enter Try.func44, Try.ntmps44
  go_wp2_with fail
  go_ret
  exact ⟨by show Ending.returned (.int .i64 (((n : Int) - 1) / 2)) = _; rw [q], rfl⟩

set_option maxRecDepth 100000 in
set_option maxHeartbeats 400000 in
theorem rdead_any {w : World} {g r : Nat} {l : LS} {K : Nat → Prop} (h : RLogAt w g r l K) : Calls Try.prog 48 #[.pointer (some ⟨g, 0, none⟩)] w fun e w' => e = .returned (.bool l.dead) ∧ w = w' := by
  obtain ⟨v, rs, hx⟩ := h
  have c4 := hx.blk.cell 4
  simp at c4
  clear hx
  go_enter Try.func48, Try.ntmps48
  go_wp2_with fail
  go_ret
  exact ⟨rfl, rfl⟩

set_option maxRecDepth 100000 in
set_option maxHeartbeats 400000 in
theorem rbase_any {w : World} {g r : Nat} {s : DS} {l : LS} {F K : Nat → Prop} (h : RBoth w g r s l F K) : Calls Try.prog 45 #[.pointer (some ⟨g, 0, none⟩)] w fun e w' => e = .returned (.int .i64 (startS l.half l.second : Nat)) ∧ w = w' := by
  obtain ⟨v, rs, hx⟩ := h.log
  have c0 := hx.blk.cell 0
  have c2 := hx.blk.cell 2
  have hok := h.disk.ok
  have hlo := hok.lo
  have hhi := hok.hi
  have HS := Lib.hid (rsize_m r s F w h.disk)
  have hhf := Lib.hid (rhalf_any s.dur.length w (by omega) (by omega))
  rw [← h.hh] at hhf
  have hhalf := hx.half
  simp at c0 c2
  clear hx h hok
  cases hs : l.second with
  | true =>
    rw [hs] at c2
    clear hs
    go_enter Try.func45, Try.ntmps45
    go_wp2_with fail
    refine (HS.out).mono ?_
    rintro e w1 ⟨rfl, rfl⟩
    go_wp2_with fail
    refine (hhf.out).mono ?_
    rintro e w1 ⟨rfl, rfl⟩
    go_wp2_with fail
    go_ret
    exact ⟨rfl, rfl⟩
  | false =>
    rw [hs] at c2
    clear hs
    go_enter Try.func45, Try.ntmps45
    go_wp2_with fail
    go_ret
    exact ⟨rfl, rfl⟩

set_option maxRecDepth 100000 in
set_option maxHeartbeats 400000 in
theorem rlength_any (n : Nat) (w : World) (hn : n ≤ 1000000000) :
    Calls Try.prog 52 #[.int .i64 (n : Int)] w fun e w' => e = .returned (.slice (some ⟨w.heap.size, 0, none⟩) 4 4) ∧ w' = w.alloc (.cells ((be4 n).map byt).toArray 5) := by
  have HB := Lib.hid (be4_cells hn)
  go_enter Try.func52, Try.ntmps52
  go_wp2_with fail
  go_ret
  rw [HB.out]
  exact ⟨rfl, rfl⟩

set_option maxRecDepth 100000 in
set_option maxHeartbeats 400000 in
theorem rroom_any {w : World} {g r : Nat} {s : DS} {l : LS} {F K : Nat → Prop} (h : RBoth w g r s l F K) : Calls Try.prog 47 #[.pointer (some ⟨g, 0, none⟩)] w fun e w' => e = .returned (.int .i64 (roomS l)) ∧ ∃ k, w' = w.drewN k := by
  obtain ⟨v, rs, hx⟩ := h.log
  have c0 := hx.blk.cell 0
  have c3 := hx.blk.cell 3
  have c4 := hx.blk.cell 4
  have hok := h.disk.ok
  have hlo := hok.lo
  have hhi := hok.hi
  have HS := Lib.hid (fun n => rsize_m r s F (w.drewN n) (h.disk.drewN n))
  have hhf := fun n => rhalf_any s.dur.length (w.drewN n) (by omega) (by omega)
  rw [← h.hh] at hhf
  replace hhf := Lib.hid hhf
  have hhalf := hx.half
  have hfin := hx.fin
  simp at c0 c3 c4
  have hr : roomS l = if l.dead ∨ l.half < l.fin + 6 then -1 else (l.half : Int) - l.fin - 6 := rfl
  rw [hr]
  clear hx h hok hr
  cases hs : l.dead with
  | true =>
    rw [hs] at c4
    rw [if_pos (.inl rfl)]
    clear hs
    go_enter Try.func47, Try.ntmps47
    go_wp2_with fail
    go_ret
    exact ⟨rfl, 0, rfl⟩
  | false =>
    rw [hs] at c4
    clear hs
    go_enter Try.func47, Try.ntmps47
    by_cases hlt : l.half < l.fin + 6
    · rw [if_pos (.inr hlt)]
      go_wp2_with fail
      go_quiet (first | (go_at_call 43; exact quiet_left (HS.out _)) | (go_at_call 44; exact quiet_left (hhf.out _)))
      go_wp2_with fail
      all_goals
        go_ret
        first
          | exact ⟨rfl, _, rfl⟩
          | exact ⟨by show Ending.returned (.int .i64 ((l.half : Int) - (l.fin : Int) - 6)) = _; rw [show (l.half : Int) - (l.fin : Int) - 6 = -1 by omega], _, rfl⟩
    · rw [if_neg (by simp; omega)]
      go_wp2_with fail
      go_quiet (first | (go_at_call 43; exact quiet_left (HS.out _)) | (go_at_call 44; exact quiet_left (hhf.out _)))
      go_wp2_with fail
      go_ret
      exact ⟨rfl, _, rfl⟩
end Go.Proofs.Ytnjafhlpnoikcaa
