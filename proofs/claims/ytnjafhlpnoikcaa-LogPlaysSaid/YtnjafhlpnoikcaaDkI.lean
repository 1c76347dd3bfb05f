/-
  Write. No condition.
-/
import Derived.Test.YtnjafhlpnoikcaaDkH
namespace Go.Proofs.Ytnjafhlpnoikcaa
open Go.RowKit
set_option linter.unusedVariables false

/-- the disk is in state s' behind the call; only its own blocks have changed -/
def Then (w : World) (d : Nat) (s' : DS) (M I : Nat → Prop) (w' : World) : Prop :=
  ∃ M' I', DiskAt w' d s' M' I' ∧ Chg w w' M ∧ (∀ x, M' x → M x ∨ w.heap.size ≤ x) ∧ (∀ x, I' x → I x ∨ w.heap.size ≤ x)
theorem then_same {w w' : World} {d : Nat} {s : DS} {M I : Nat → Prop} (h : DiskAt w' d s M I) (hc : Chg w w' M) : Then w d s M I w' := ⟨M, I, h, hc, fun _ h => .inl h, fun _ h => .inl h⟩

theorem write_end {w1 w2 w3 w5 : World} {d gd gs cd cs : Nat} {v v3 : Value} {left : Int} {ws : List Wr} {s : DS} {M I : Nat → Prop} {A : Option Addr} {c a : Nat} {b : List Nat} {o : Obj}
    (h : DiskX w1 d gd gs cd cs v left ws s M I) (hr2 : Reads w2 w2.heap.size 1 A b.length (b.map byt)) (hA : ∀ ad, A = some ad → w1.heap.size ≤ ad.block ∧ ad.block < w2.heap.size) (hcp : b.length ≤ c) (hb2 : Below w1.heap.size w1 w2)
    (ho3 : w3.ownsRow 0 77 2 v3 (ws.length + 1) (ws.flatMap wcell ++ [.int .i64 (a : Int), .slice A b.length c])) (hg3 : Grows (w2.alloc o) w3 v v3)
    (hs5 : RowB w5 gs cs (spl (seenL s.dur s.wait) a b)) (hg5 : (w3.setCell ⟨d, 2, none⟩ v3).grownBy w5 (some gs)) (hw : s.wait.length < 60) (hf : a + b.length ≤ s.dur.length) (hb : ∀ x ∈ b, x < 256) :
    Then w1 d { s with wait := s.wait ++ [(a, b)] } M I w5 := by
  have hs1 := hb2.size
  have hs3 := hg3.size
  simp only [World.alloc, Array.size_push] at hs3
  have hsz5 := hg5.size
  have hsz4 : (w3.setCell ⟨d, 2, none⟩ v3).heap.size = w3.heap.size := by simp [World.setCell]
  have hdne : v.ownBlock ≠ some d := own_blk_ne h.waits.own h.blk (by decide)
  have hv1 : ∀ g, v.ownBlock = some g → M g := h.waits.mine
  have hlt : ∀ x, M x → x < w1.heap.size := fun x hx => h.lt x (.inl hx)
  have hv3 : ∀ g, v3.ownBlock = some g → M g ∨ w2.heap.size < g := fun g hg => by
    rcases hg3.own g hg with h1 | h1
    · exact .inl (hv1 g h1)
    · right
      simp only [World.alloc, Array.size_push] at h1
      omega
  -- the changes, one after another
  have c2 : Chg w1 w2 M := ⟨hb2.os, hb2.tape, hb2.output, hb2.size, fun i hi _ => hb2.block i hi⟩
  have c3 : Chg w1 w3 M := (c2.alloc o).trans (Chg.of_grown (M := M) hg3.grown hv1) (fun _ _ h => h)
  have c4 : Chg w1 (w3.setCell ⟨d, 2, none⟩ v3) M := c3.setCell (p := ⟨d, 2, none⟩) (.inl h.md) _
  have c5 : Chg w1 w5 M := c4.trans (Chg.of_grown (M := M) hg5 (fun g e => by injection e with e; rw [← e]; exact h.mgs)) (fun _ _ h => h)
  have egd : gd ≠ d := h.dur.ne_ h.blk (by decide)
  have egs : gs ≠ d := h.seen.ne_ h.blk (by decide)
  have evd : v.ownBlock ≠ some gd := h.dur.own_ne h.waits.own (by decide)
  have evs : v.ownBlock ≠ some gs := h.seen.own_ne h.waits.own (by decide)
  have bd3 : Blk w3 d 73 _ := hg3.blk ((h.blk.below hb2 h.blk.lt).alloc o) hdne
  have bd4 := bd3.set_ 2 v3
  have bd5 := bd4.grown hg5 (fun e => by injection e with e; exact egs e.symm)
  have bg3 : RowB w3 gd cd s.dur := ((h.dur.below hb2 h.dur.lt).alloc o).grows hg3 evd
  have bg5 := (bg3.far (p := ⟨d, 2, none⟩) egd v3).grown hg5 (fun e => by injection e with e; exact h.ne e)
  refine ⟨fun x => M x ∨ v3.ownBlock = some x, fun x => I x ∨ ∃ ad, A = some ad ∧ x = ad.block, ⟨gd, gs, cd, cs, v3, left, ws ++ [(a, b, A, c)], ?_⟩, c5, ?_, ?_⟩
  · refine ⟨by simpa using bd5, bg5, ?_, h.ne, .inl h.md, .inl h.mgd, .inl h.mgs, ⟨?_, fun g hg => .inr hg, fun x hx => ?_⟩, by simp [h.wsv, wof], ⟨h.ok.lo, h.ok.hi, h.ok.byt, by simp; omega, fun p hp => ?_⟩, h.fuse, h.left, fun x hm hi => ?_, fun x hx => ?_⟩
    · show RowB w5 gs cs (seenL s.dur (s.wait ++ [(a, b)]))
      rw [seen_snoc]
      exact hs5
    · have : w5.ownsRow 0 77 2 v3 (ws.length + 1) (ws.flatMap wcell ++ [.int .i64 (a : Int), .slice A b.length c]) := by
        refine (owns_chg ho3 (chg_d w3 d 2 v3) (fun g hg e => ?_)).kept hg5 ?_
        · have := hv3 g hg
          rw [e] at hg
          exact own_blk_ne ho3 bd3 (by decide) hg
        · cases hb : v3.ownBlock with
          | none => exact .inl rfl
          | some g =>
            refine .inr (fun e => ?_)
            injection e with e
            rw [e] at hb
            have bs3 : RowB w3 gs cs (seenL s.dur s.wait) := ((h.seen.below hb2 h.seen.lt).alloc o).grows hg3 evs
            exact bs3.own_ne ho3 (by decide) hb
      simpa [wcell] using this
    · rcases List.mem_append.1 hx with hx | hx
      · obtain ⟨q1, q2, q3⟩ := h.waits.byt x hx
        exact ⟨(q1.chg c5 (Nat.le_refl _) (fun ad e hm => h.apart _ hm (q2 ad e))).more c5.size, fun ad e => .inl (q2 ad e), q3⟩
      · simp at hx
        subst hx
        refine ⟨?_, fun ad e => .inr ⟨ad, e, rfl⟩, hcp⟩
        have c25 : Chg w2 w5 (fun x => M x) := by
          have d3 : Chg w2 w3 M := ((Chg.refl w2 M).alloc o).trans (Chg.of_grown (M := M) hg3.grown hv1) (fun _ _ h => h)
          have d4 : Chg w2 (w3.setCell ⟨d, 2, none⟩ v3) M := d3.setCell (p := ⟨d, 2, none⟩) (.inl h.md) _
          exact d4.trans (Chg.of_grown (M := M) hg5 (fun g e => by injection e with e; rw [← e]; exact h.mgs)) (fun _ _ h => h)
        exact (hr2.chg c25 (Nat.le_refl _) (fun ad e hm => by have := (hA ad e).1; have := hlt _ hm; omega)).more c25.size
    · rcases List.mem_append.1 hp with hp | hp
      · exact h.ok.fit p hp
      · simp at hp; subst hp; exact ⟨hf, hb⟩
    · rcases hi with hi | ⟨ad, e, rfl⟩
      · rcases hm with hm | hm
        · exact h.apart x hm hi
        · have := h.lt x (.inr hi)
          rcases hv3 x hm with h1 | h1
          · exact h.apart x h1 hi
          · omega
      · have q := hA ad e
        rcases hm with hm | hm
        · have := hlt _ hm; omega
        · rcases hv3 _ hm with h1 | h1
          · have := hlt _ h1; omega
          · omega
    · have hle : w1.heap.size ≤ w5.heap.size := c5.size
      rcases hx with (hx | hx) | (hx | ⟨ad, e, rfl⟩)
      · have := hlt x hx; omega
      · have := own_lt ho3 x hx; omega
      · have := h.lt x (.inr hx); omega
      · have := (hA ad e).2; omega
  · intro x hx
    rcases hx with hx | hx
    · exact .inl hx
    · rcases hv3 x hx with h1 | h1
      · exact .inl h1
      · right; omega
  · intro x hx
    rcases hx with hx | ⟨ad, e, rfl⟩
    · exact .inl hx
    · exact .inr (hA ad e).1
end Go.Proofs.Ytnjafhlpnoikcaa
