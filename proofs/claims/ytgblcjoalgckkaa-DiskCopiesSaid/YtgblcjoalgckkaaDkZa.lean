/-
  A copy of a disk: what its loop keeps; a clone of one's own. No condition.
-/
import Derived.Test.YtgblcjoalgckkaaDkV
namespace Go.Proofs.Ytgblcjoalgckkaa
open Go.RowKit
set_option linter.unusedVariables false

/-- a copy of bytes, of which there are some: a row of a new block -/
def CloneRow (w : World) (b : List Nat) (e : Ending) (w' : World) : Prop :=
  ∃ g c, e = .returned (.slice (some ⟨g, 0, none⟩) b.length c) ∧ w.heap.size ≤ g ∧ RowB w' g c b ∧ Below w.heap.size w w'
set_option maxRecDepth 100000 in
set_option maxHeartbeats 400000 in
theorem clone_row (A : Option Addr) (c B : Nat) (b : List Nat) (w : World) (hb : b.length ≤ 1000000000) (h0 : 0 < b.length) (hr : Reads w B 1 A b.length (b.map byt)) (hB : B ≤ w.heap.size) :
    Calls Try.prog 28 #[.slice A b.length c] w (CloneRow w b) := by
  obtain ⟨i0, hi, hi0, hi1, hi2⟩ := info_parts byte_info
  have hq := fun (w : World) (a : Option Addr) (n c : Nat) => Lib.run_eql_slice_nil (P := Try.prog) w 22 5 a n c 0 0 Try.underlying22
  cases A with
  | none =>
    obtain ⟨ad, e, _⟩ := hr.2 h0
    cases e
  | some ad =>
    have HS := Lib.hid (src_reads (P := Try.prog) _ Try.underlying22 c ((hr.more hB).alloc (Nat.le_refl _) (.cells #[] 5)) (byt_one b))
    have H0 := Lib.hid h0
    clear hr h0
    go_enter Try.func28, Try.ntmps28
    go_wp2_with (at_builtin; refine wpList_append_row _ rfl (.tmp 5) (.tmp 6) 22 22 rfl w.heap.size 5 i0 (.int .u8 0) 1 1 Try.underlying22 hi hi0 hi1 hi2 rfl (by decide) _ _ _ rfl (owns_none w 5) _ b.length (b.map byt) rfl HS.out ?c1 ?c2 ?c3 ?_)
    case c1 => unfold maxLen; omega
    case c2 => omega
    case c3 => simp
    intro v1 w1 hown1 hg1
    have hB1 : Below w.heap.size w w1 := ((Below.refl _ w).alloc (Nat.le_refl _) _).trans (hg1.below (by simp) (fun g hg => by simp [Value.ownBlock] at hg; omega))
    obtain ⟨A', c', rfl, hrd, hat⟩ := reads_of_owns hown1
    have hown2 : w1.ownsRow w.heap.size 5 1 (.slice A' b.length c') b.length (b.map byt) := by simpa using hown1
    obtain ⟨g, rfl, hg, hrow, -⟩ := RowB.of_own hown2 H0.out
    have HE : Hid (CloneRow w b (.returned (.slice (some ⟨g, 0, none⟩) b.length c')) w1) := ⟨g, c', rfl, hg, hrow, hB1⟩
    clear hown1 hown2 hg1 hB1 hrd hat hrow
    go_wp2_with fail
    go_ret
    exact HE.out

/-- a disk whose reader sees S -/
structure CpX (w : World) (d gd gs cd cs : Nat) (v : Value) (left : Int) (ws : List Wr) (s : DS) (S : List Nat) (M I : Nat → Prop) : Prop where
  blk : Blk w d 59 #[.slice (some ⟨gd, 0, none⟩) s.dur.length cd, .slice (some ⟨gs, 0, none⟩) s.dur.length cs, v, .bool s.off, .bool s.fuse.isSome, .int .i64 left]
  dur : RowB w gd cd s.dur
  seen : RowB w gs cs S
  ne : gd ≠ gs
  md : M d
  mgd : M gd
  mgs : M gs
  waits : Waits w 63 M I v ws
  wsv : ws.map wof = s.wait
  ok : s.ok
  fuse : ∀ k, s.fuse = some k → left = (k : Int)
  left : 0 ≤ left ∧ left ≤ 9223372036854775807
  apart : ∀ b, M b → ¬ I b
  lt : ∀ b, M b ∨ I b → b < w.heap.size
section
variable {w w' : World} {M I M' : Nat → Prop} {d gd gs cd cs : Nat} {v : Value} {left : Int} {ws : List Wr} {s : DS} {S : List Nat}
theorem CpX.disk (h : CpX w d gd gs cd cs v left ws s (seenL s.dur s.wait) M I) : DiskX w d gd gs cd cs v left ws s M I :=
  ⟨h.blk, h.dur, h.seen, h.ne, h.md, h.mgd, h.mgs, h.waits, h.wsv, h.ok, h.fuse, h.left, h.apart, h.lt⟩
theorem CpX.chg (h : CpX w d gd gs cd cs v left ws s S M I) (hc : Chg w w' M') (h1 : ∀ b, M' b → ¬ M b) (h2 : ∀ b, M' b → ¬ I b) : CpX w' d gd gs cd cs v left ws s S M I :=
  ⟨h.blk.chg hc (fun hm => h1 _ hm h.md), h.dur.chg hc (fun hm => h1 _ hm h.mgd), h.seen.chg hc (fun hm => h1 _ hm h.mgs), h.ne, h.md, h.mgd, h.mgs, h.waits.chg hc h1 h2, h.wsv, h.ok, h.fuse, h.left, h.apart, fun b hb => Nat.lt_of_lt_of_le (h.lt b hb) hc.size⟩
end
theorem cp_step {S : List Nat} {w1 w2 w3 w5 : World} {d gd gs cd cs : Nat} {v v3 : Value} {left : Int} {ws : List Wr} {s : DS} {M I : Nat → Prop} {A : Option Addr} {c a : Nat} {b : List Nat} {o : Obj}
    (h : CpX w1 d gd gs cd cs v left ws s S M I) (hr2 : Reads w2 w2.heap.size 1 A b.length (b.map byt)) (hA : ∀ ad, A = some ad → w1.heap.size ≤ ad.block ∧ ad.block < w2.heap.size) (hcp : b.length ≤ c) (hb2 : Below w1.heap.size w1 w2)
    (ho3 : w3.ownsRow 0 63 2 v3 (ws.length + 1) (ws.flatMap wcell ++ [.int .i64 (a : Int), .slice A b.length c])) (hg3 : Grows (w2.alloc o) w3 v v3)
    (hs5 : RowB w5 gs cs S) (hg5 : (w3.setCell ⟨d, 2, none⟩ v3).grownBy w5 (some gs)) (hw : s.wait.length < 60) (hf : a + b.length ≤ s.dur.length) (hb : ∀ x ∈ b, x < 256) :
    ∃ M' I', CpX w5 d gd gs cd cs v3 left (ws ++ [(a, b, A, c)]) { s with wait := s.wait ++ [(a, b)] } S M' I' ∧ Chg w1 w5 M ∧ (∀ x, M' x → M x ∨ w1.heap.size ≤ x) ∧ (∀ x, I' x → I x ∨ w1.heap.size ≤ x) := by
  have hs1 := hb2.size
  have hs3 := hg3.size
  simp only [World.alloc, Array.size_push] at hs3
  have hsz5 := hg5.size
  have hsz4 : (w3.setCell ⟨d, 2, none⟩ v3).heap.size = w3.heap.size := by simp [World.setCell]
  have hdne : v.ownBlock ≠ some d := own_blk_ne h.waits.own h.blk (by decide)
  have hv1 : ∀ g, v.ownBlock = some g → M g := h.waits.mine
  have hlt : ∀ x, M x → x < w1.heap.size := fun x hx => h.lt x (.inl hx)
  have hv3 : ∀ g, v3.ownBlock = some g → M g ∨ w2.heap.size < g := fun g hg => by
    rcases hg3.own g hg with h1 | h1
    · exact .inl (hv1 g h1)
    · right
      simp only [World.alloc, Array.size_push] at h1
      omega
  -- the changes, one after another
  have c2 : Chg w1 w2 M := ⟨hb2.os, hb2.tape, hb2.output, hb2.size, fun i hi _ => hb2.block i hi⟩
  have c3 : Chg w1 w3 M := (c2.alloc o).trans (Chg.of_grown (M := M) hg3.grown hv1) (fun _ _ h => h)
  have c4 : Chg w1 (w3.setCell ⟨d, 2, none⟩ v3) M := c3.setCell (p := ⟨d, 2, none⟩) (.inl h.md) _
  have c5 : Chg w1 w5 M := c4.trans (Chg.of_grown (M := M) hg5 (fun g e => by injection e with e; rw [← e]; exact h.mgs)) (fun _ _ h => h)
  have egd : gd ≠ d := h.dur.ne_ h.blk (by decide)
  have egs : gs ≠ d := h.seen.ne_ h.blk (by decide)
  have evd : v.ownBlock ≠ some gd := h.dur.own_ne h.waits.own (by decide)
  have evs : v.ownBlock ≠ some gs := h.seen.own_ne h.waits.own (by decide)
  have bd3 : Blk w3 d 59 _ := hg3.blk ((h.blk.below hb2 h.blk.lt).alloc o) hdne
  have bd4 := bd3.set_ 2 v3
  have bd5 := bd4.grown hg5 (fun e => by injection e with e; exact egs e.symm)
  have bg3 : RowB w3 gd cd s.dur := ((h.dur.below hb2 h.dur.lt).alloc o).grows hg3 evd
  have bg5 := (bg3.far (p := ⟨d, 2, none⟩) egd v3).grown hg5 (fun e => by injection e with e; exact h.ne e)
  refine ⟨fun x => M x ∨ v3.ownBlock = some x, fun x => I x ∨ ∃ ad, A = some ad ∧ x = ad.block, ?_, c5, ?_, ?_⟩
  · refine ⟨by simpa using bd5, bg5, ?_, h.ne, .inl h.md, .inl h.mgd, .inl h.mgs, ⟨?_, fun g hg => .inr hg, fun x hx => ?_⟩, by simp [h.wsv, wof], ⟨h.ok.lo, h.ok.hi, h.ok.byt, by simp; omega, fun p hp => ?_⟩, h.fuse, h.left, fun x hm hi => ?_, fun x hx => ?_⟩
    · exact hs5
    · have : w5.ownsRow 0 63 2 v3 (ws.length + 1) (ws.flatMap wcell ++ [.int .i64 (a : Int), .slice A b.length c]) := by
        refine (owns_chg ho3 (chg_d w3 d 2 v3) (fun g hg e => ?_)).kept hg5 ?_
        · have := hv3 g hg
          rw [e] at hg
          exact own_blk_ne ho3 bd3 (by decide) hg
        · cases hb : v3.ownBlock with
          | none => exact .inl rfl
          | some g =>
            refine .inr (fun e => ?_)
            injection e with e
            rw [e] at hb
            have bs3 : RowB w3 gs cs S := ((h.seen.below hb2 h.seen.lt).alloc o).grows hg3 evs
            exact bs3.own_ne ho3 (by decide) hb
      simpa [wcell] using this
    · rcases List.mem_append.1 hx with hx | hx
      · obtain ⟨q1, q2, q3⟩ := h.waits.byt x hx
        exact ⟨(q1.chg c5 (Nat.le_refl _) (fun ad e hm => h.apart _ hm (q2 ad e))).more c5.size, fun ad e => .inl (q2 ad e), q3⟩
      · simp at hx
        subst hx
        refine ⟨?_, fun ad e => .inr ⟨ad, e, rfl⟩, hcp⟩
        have c25 : Chg w2 w5 (fun x => M x) := by
          have d3 : Chg w2 w3 M := ((Chg.refl w2 M).alloc o).trans (Chg.of_grown (M := M) hg3.grown hv1) (fun _ _ h => h)
          have d4 : Chg w2 (w3.setCell ⟨d, 2, none⟩ v3) M := d3.setCell (p := ⟨d, 2, none⟩) (.inl h.md) _
          exact d4.trans (Chg.of_grown (M := M) hg5 (fun g e => by injection e with e; rw [← e]; exact h.mgs)) (fun _ _ h => h)
        exact (hr2.chg c25 (Nat.le_refl _) (fun ad e hm => by have := (hA ad e).1; have := hlt _ hm; omega)).more c25.size
    · rcases List.mem_append.1 hp with hp | hp
      · exact h.ok.fit p hp
      · simp at hp; subst hp; exact ⟨hf, hb⟩
    · rcases hi with hi | ⟨ad, e, rfl⟩
      · rcases hm with hm | hm
        · exact h.apart x hm hi
        · have := h.lt x (.inr hi)
          rcases hv3 x hm with h1 | h1
          · exact h.apart x h1 hi
          · omega
      · have q := hA ad e
        rcases hm with hm | hm
        · have := hlt _ hm; omega
        · rcases hv3 _ hm with h1 | h1
          · have := hlt _ h1; omega
          · omega
    · have hle : w1.heap.size ≤ w5.heap.size := c5.size
      rcases hx with (hx | hx) | (hx | ⟨ad, e, rfl⟩)
      · have := hlt x hx; omega
      · have := own_lt ho3 x hx; omega
      · have := h.lt x (.inr hx); omega
      · have := (hA ad e).2; omega
  · intro x hx
    rcases hx with hx | hx
    · exact .inl hx
    · rcases hv3 x hx with h1 | h1
      · exact .inl h1
      · right; omega
  · intro x hx
    rcases hx with hx | ⟨ad, e, rfl⟩
    · exact .inl hx
    · exact .inr (hA ad e).1
def CopyPost (w : World) (s : DS) (e : Ending) (w' : World) : Prop :=
  ∃ d M I, e = .returned (.pointer (some ⟨d, 0, none⟩)) ∧ DiskAt w' d s M I ∧ (∀ b, M b → w.heap.size ≤ b) ∧ (∀ b, I b → w.heap.size ≤ b) ∧ Below w.heap.size w w'
end Go.Proofs.Ytgblcjoalgckkaa
