/-
  The reference's Copy. No condition.
-/
import Derived.Test.YtgblcjoalgckkaaDkZb
import Derived.Test.YtgblcjoalgckkaaDkV
import Derived.Deep.RegionHeld3
namespace Go.Proofs.Ytgblcjoalgckkaa
open Go.RowKit
set_option linter.unusedVariables false

def RCopyPost (w : World) (s : DS) (I : Nat → Prop) (e : Ending) (w' : World) : Prop :=
  ∃ r M, e = .returned (.pointer (some ⟨r, 0, none⟩)) ∧ RefAt w' r s M I ∧ (∀ b, M b → w.heap.size ≤ b) ∧ Below w.heap.size w w'
theorem own_emp {X : World} {g base size : Nat} {e : TypeId} (h : Blk X g e #[]) (hb : base ≤ g) : X.ownsRow base e size (.slice (some ⟨g, 0, none⟩) 0 0) 0 [] :=
  ⟨by simp, .inr ⟨g, 0, #[], rfl, hb, h, Nat.le_refl _, Nat.zero_le _, by simp, by simp⟩⟩
theorem bal {w X : World} (h : Below w.heap.size w X) (o : Obj) : Below w.heap.size w (X.alloc o) := h.alloc h.size o
/-- what both appends have made -/
structure RC (w X : World) (s : DS) (ws : List Wr) (v5 v7 : Value) : Prop where
  bel : Below w.heap.size w X
  row : X.ownsRow w.heap.size 5 1 v5 s.dur.length (s.dur.map byt)
  list : X.ownsRow w.heap.size 70 2 v7 ws.length (ws.flatMap wcell)

theorem rc_end {w X : World} {r g c : Nat} {v v5 v7 : Value} {ws : List Wr} {s : DS} {M I : Nat → Prop} (h : RefX w r g c v ws s M I) (hc : RC w X s ws v5 v7) :
    RCopyPost w s I (.returned (.pointer (some ⟨X.heap.size, 0, none⟩))) (X.alloc (.cells #[v5, v7, .int .i64 (leftR s.fuse), .bool s.off] 66)) := by
  obtain ⟨A5, c5, rfl, -, -⟩ := reads_of_owns hc.row
  obtain ⟨g5, rfl, hg5, hrow, -⟩ := RowB.of_own hc.row (by have := h.ok.lo; omega)
  have hb := bal hc.bel (.cells #[.slice (some ⟨g5, 0, none⟩) s.dur.length c5, v7, .int .i64 (leftR s.fuse), .bool s.off] 66)
  have hk := Blk.new X 66 #[.slice (some ⟨g5, 0, none⟩) s.dur.length c5, v7, .int .i64 (leftR s.fuse), .bool s.off]
  have hsz := hc.bel.size
  have h7 := own_lt hc.list
  have h7' := own_from hc.list
  refine ⟨X.heap.size, fun b => b = X.heap.size ∨ b = g5 ∨ v7.ownBlock = some b, rfl, ⟨g5, c5, v7, ws, ?_⟩, fun b hb => ?_, hb⟩
  · refine ⟨hk, hrow.alloc _, .inl rfl, .inr (.inl rfl), ⟨?_, fun g hg => .inr (.inr hg), fun x hx => ?_⟩, h.wsv, h.ok, h.left, fun b hm hi => ?_, fun b hb' => ?_⟩
    · exact owns_up (owns_below hc.list ((Below.refl X.heap.size X).alloc (Nat.le_refl _) _) h7) (fun _ _ => Nat.zero_le _)
    · obtain ⟨q1, q2, q3⟩ := h.waits.byt x hx
      exact ⟨(q1.below hb).more hb.size, q2, q3⟩
    · have := h.lt b (.inr hi)
      rcases hm with rfl | rfl | hm
      · omega
      · omega
      · have := h7' b hm; omega
    · have hs2 : (X.alloc (.cells #[.slice (some ⟨g5, 0, none⟩) s.dur.length c5, v7, .int .i64 (leftR s.fuse), .bool s.off] 66)).heap.size = X.heap.size + 1 := by simp
      rcases hb' with (rfl | rfl | hm) | hi
      · omega
      · have := hrow.lt; omega
      · have := h7 b hm; omega
      · have := h.lt b (.inr hi); omega
  · rcases hb with rfl | rfl | hm
    · exact hsz
    · exact hg5
    · exact h7' b hm
theorem blk_second (Y : World) (o : Obj) (e : TypeId) : Blk ((Y.alloc o).alloc (.cells #[] e)) (Y.heap.size + 1) e #[] := by
  have := Blk.new (Y.alloc o) e #[]
  simpa using this
theorem rc5 {w X Y : World} {g : Nat} {v5 v7 : Value} {ws : List Wr} {s : DS} (hb : Below w.heap.size w X) (h7 : X.ownsRow w.heap.size 70 2 v7 ws.length (ws.flatMap wcell)) (he : Blk X g 5 #[]) (hge : w.heap.size ≤ g) (hg : Grows X Y (.slice (some ⟨g, 0, none⟩) 0 0) v5) (ho : Y.ownsRow w.heap.size 5 1 v5 (0 + s.dur.length) ([] ++ s.dur.map byt)) : RC w Y s ws v5 v7 :=
  ⟨hb.trans (hg.below hb.size (fun x hx => by simp [Value.ownBlock] at hx; omega)), by simpa using ho, owns_grows h7 hg (.inr (own_blk_ne h7 he (by decide)))⟩
theorem rc7 {w X Y : World} {g : Nat} {v5 v7 : Value} {ws : List Wr} {s : DS} (hb : Below w.heap.size w X) (h5 : X.ownsRow w.heap.size 5 1 v5 (0 + s.dur.length) ([] ++ s.dur.map byt)) (he : Blk X g 70 #[]) (hge : w.heap.size ≤ g) (hg : Grows X Y (.slice (some ⟨g, 0, none⟩) 0 0) v7) (ho : Y.ownsRow w.heap.size 70 2 v7 (0 + ws.length) ([] ++ ws.flatMap wcell)) : RC w Y s ws v5 v7 :=
  ⟨hb.trans (hg.below hb.size (fun x hx => by simp [Value.ownBlock] at hx; omega)), by simpa using owns_grows h5 hg (.inr (own_blk_ne h5 he (by decide))), by simpa using ho⟩
/-- behind the first append: what is kept -/
theorem aft {w X Y : World} {g : Nat} {e : TypeId} {v : Value} (hb : Below w.heap.size w X) (he : Blk X g e #[]) (hge : w.heap.size ≤ g) (hg : Grows X Y (.slice (some ⟨g, 0, none⟩) 0 0) v) : Below w.heap.size w Y ∧ ∀ (g' : Nat) (t : TypeId) (cs : Array Value), t ≠ e → Blk X g' t cs → Blk Y g' t cs :=
  ⟨hb.trans (hg.below hb.size (fun x hx => by simp [Value.ownBlock] at hx; omega)), fun g' t cs ht hk => hg.blk hk (fun h => by
    have : g = g' := by simpa [Value.ownBlock] using h
    subst this
    exact Blk.ne_ hk he ht rfl)⟩
set_option maxRecDepth 100000 in
set_option maxHeartbeats 1600000 in
theorem rcopy_any (r : Nat) (s : DS) (M I : Nat → Prop) (w : World) (h : RefAt w r s M I) :
    Calls Try.prog 23 #[.pointer (some ⟨r, 0, none⟩)] w (RCopyPost w s I) := by
  obtain ⟨g, c, v, ws, h⟩ := h
  obtain ⟨c0, c1, c2, c3⟩ := h.cells
  obtain ⟨Av, cv, hv, hwr⟩ := h.waits.reads
  subst hv
  have HX := Lib.hid h
  have hN := h.ok.hi
  have hlt : r < w.heap.size := h.blk.lt
  have hwl : ws.length ≤ 60 := by have := h.ok.few; rw [← h.wsv] at this; simpa using this
  have hd0 : Reads w w.heap.size 1 (some ⟨g, 0, none⟩) s.dur.length (s.dur.map byt) := by
    have := h.dur.reads 0 s.dur.length (by omega)
    rw [List.drop_zero, List.take_length] at this
    exact this
  obtain ⟨i0, hiI, hz0, hz1, hz2⟩ := info_parts pd_info
  obtain ⟨i5, hi5, hy0, hy1, hy2⟩ := info_parts byte_info
  have HII := Lib.hid hiI
  have HZ0 := Lib.hid hz0
  have HZ1 := Lib.hid hz1
  have HZ2 := Lib.hid hz2
  have HI5 := Lib.hid hi5
  have HY0 := Lib.hid hy0
  have HY1 := Lib.hid hy1
  have HY2 := Lib.hid hy2
  have HS5 : Hid (∀ X, Below w.heap.size w X → Src Try.prog 1 22 (.slice (some ⟨g, 0, none⟩) s.dur.length c) s.dur.length (s.dur.map byt) X) := fun X hb => src_reads (P := Try.prog) _ Try.underlying22 c (hd0.below hb) (byt_one _)
  have HS7 : Hid (∀ X, Below w.heap.size w X → Src Try.prog 2 64 (.slice Av ws.length cv) ws.length (ws.flatMap wcell) X) := fun X hb => src_reads (P := Try.prog) _ Try.underlying64 cv (hwr.below hb) (wcell_one ws)
  have HRC : Hid (∀ X, Below w.heap.size w X → X.cell? ⟨r, 0, none⟩ = some (.slice (some ⟨g, 0, none⟩) s.dur.length c) ∧ X.cell? ⟨r, 1, none⟩ = some (.slice Av ws.length cv) ∧ X.cell? ⟨r, 2, none⟩ = some (.int .i64 (leftR s.fuse)) ∧ X.cell? ⟨r, 3, none⟩ = some (.bool s.off)) :=
    fun X hb => ⟨(hb.cell hlt).trans c0, (hb.cell hlt).trans c1, (hb.cell hlt).trans c2, (hb.cell hlt).trans c3⟩
  have B0 : Hid (Below w.heap.size w w.drew) := below_drewN (Below.refl _ _) 1
  have H5a : Hid (0 + s.dur.length ≤ maxLen) := by unfold Hid maxLen; omega
  have H5b : Hid ((0 + s.dur.length) * 1 ≤ 140737488355328) := by unfold Hid; omega
  have H7a : Hid (0 + ws.length ≤ maxLen) := by unfold Hid maxLen; omega
  have H7b : Hid ((0 + ws.length) * 32 ≤ 140737488355328) := by unfold Hid; omega
  clear h hwr hd0 hiI hz0 hz1 hz2 hi5 hy0 hy1 hy2 c0 c1 c2 c3
  go_enter Try.func23, Try.ntmps23
  go_wp2_with fail
  go_region_held3 (fun w' => w'.cell? ⟨r, 0, none⟩ = some (.slice (some ⟨g, 0, none⟩) s.dur.length c) ∧ w'.cell? ⟨r, 1, none⟩ = some (.slice Av ws.length cv) ∧ w'.cell? ⟨r, 2, none⟩ = some (.int .i64 (leftR s.fuse)) ∧ w'.cell? ⟨r, 3, none⟩ = some (.bool s.off))
    (first | exact HRC.out _ B0.out | exact HRC.out _ (bal B0.out _) | exact HRC.out _ (bal (bal B0.out _) _) | exact HRC.out _ HF.out.bel | exact HRC.out _ (bal HF.out.bel _) | exact HRC.out _ BF.out.1 | exact HRC.out _ (bal BF.out.1 _) | exact HRC.out _ BG.out.1 | exact HRC.out _ (bal BG.out.1 _))
    (first
      | ((refine step_append_row _ rfl (.tmp 3) (.tmp 7) 22 22 rfl w.heap.size 5 i5 (.int .u8 0) 1 1 Try.underlying22 HI5.out HY0.out HY1.out HY2.out rfl (by decide) _ 0 [] rfl (own_emp (Blk.new _ 5 #[]) (BG.out.1.size)) _ s.dur.length (s.dur.map byt) rfl (HS5.out _ (bal BG.out.1 _)) H5a.out H5b.out (bal BG.out.1 _).size ?_; intro v5 X5 ho5 hg5; obtain ⟨A5, y5, rfl, -, -⟩ := reads_of_owns ho5; have HF := Lib.hid (rc5 (s := s) (ws := ws) (bal BG.out.1 _) (HO7.out.alloc _) (Blk.new _ 5 #[]) (BG.out.1.size) hg5 ho5); clear ho5 hg5))
      | ((refine step_append_row _ rfl (.tmp 3) (.tmp 7) 22 22 rfl w.heap.size 5 i5 (.int .u8 0) 1 1 Try.underlying22 HI5.out HY0.out HY1.out HY2.out rfl (by decide) _ 0 [] rfl (own_emp (BG.out.2 _ _ _ (by decide) (blk_second _ _ 5)) (Nat.le_succ _)) _ s.dur.length (s.dur.map byt) rfl (HS5.out _ (BG.out.1)) H5a.out H5b.out (BG.out.1).size ?_; intro v5 X5 ho5 hg5; obtain ⟨A5, y5, rfl, -, -⟩ := reads_of_owns ho5; have HF := Lib.hid (rc5 (s := s) (ws := ws) (BG.out.1) (HO7.out) (BG.out.2 _ _ _ (by decide) (blk_second _ _ 5)) (Nat.le_succ _) hg5 ho5); clear ho5 hg5))
      | ((refine step_append_row _ rfl (.tmp 3) (.tmp 7) 22 22 rfl w.heap.size 5 i5 (.int .u8 0) 1 1 Try.underlying22 HI5.out HY0.out HY1.out HY2.out rfl (by decide) _ 0 [] rfl (own_emp (BG.out.2 _ _ _ (by decide) ((Blk.new _ 5 #[]).alloc _)) (B0.out.size)) _ s.dur.length (s.dur.map byt) rfl (HS5.out _ (BG.out.1)) H5a.out H5b.out (BG.out.1).size ?_; intro v5 X5 ho5 hg5; obtain ⟨A5, y5, rfl, -, -⟩ := reads_of_owns ho5; have HF := Lib.hid (rc5 (s := s) (ws := ws) (BG.out.1) (HO7.out) (BG.out.2 _ _ _ (by decide) ((Blk.new _ 5 #[]).alloc _)) (B0.out.size) hg5 ho5); clear ho5 hg5))
      | ((refine step_append_row _ rfl (.tmp 3) (.tmp 7) 22 22 rfl w.heap.size 5 i5 (.int .u8 0) 1 1 Try.underlying22 HI5.out HY0.out HY1.out HY2.out rfl (by decide) _ 0 [] rfl (own_emp (Blk.new _ 5 #[]) (B0.out.size)) _ s.dur.length (s.dur.map byt) rfl (HS5.out _ (bal B0.out _)) H5a.out H5b.out (bal B0.out _).size ?_; intro v5 X5 ho5 hg5; obtain ⟨A5, y5, rfl, -, -⟩ := reads_of_owns ho5; have BF := Lib.hid (aft (bal B0.out _) (Blk.new _ 5 #[]) (B0.out.size) hg5); have HO5 := Lib.hid ho5; clear ho5 hg5))
      | ((refine step_append_row _ rfl (.tmp 3) (.tmp 7) 22 22 rfl w.heap.size 5 i5 (.int .u8 0) 1 1 Try.underlying22 HI5.out HY0.out HY1.out HY2.out rfl (by decide) _ 0 [] rfl (own_emp (blk_second _ _ 5) (Nat.le_succ _)) _ s.dur.length (s.dur.map byt) rfl (HS5.out _ (bal (bal B0.out _) _)) H5a.out H5b.out (bal (bal B0.out _) _).size ?_; intro v5 X5 ho5 hg5; obtain ⟨A5, y5, rfl, -, -⟩ := reads_of_owns ho5; have BF := Lib.hid (aft (bal (bal B0.out _) _) (blk_second _ _ 5) (Nat.le_succ _) hg5); have HO5 := Lib.hid ho5; clear ho5 hg5))
      | ((refine step_append_row _ rfl (.tmp 3) (.tmp 7) 22 22 rfl w.heap.size 5 i5 (.int .u8 0) 1 1 Try.underlying22 HI5.out HY0.out HY1.out HY2.out rfl (by decide) _ 0 [] rfl (own_emp ((Blk.new _ 5 #[]).alloc _) (B0.out.size)) _ s.dur.length (s.dur.map byt) rfl (HS5.out _ (bal (bal B0.out _) _)) H5a.out H5b.out (bal (bal B0.out _) _).size ?_; intro v5 X5 ho5 hg5; obtain ⟨A5, y5, rfl, -, -⟩ := reads_of_owns ho5; have BF := Lib.hid (aft (bal (bal B0.out _) _) ((Blk.new _ 5 #[]).alloc _) (B0.out.size) hg5); have HO5 := Lib.hid ho5; clear ho5 hg5))
      | ((refine step_append_row _ rfl (.tmp 9) (.tmp 13) 64 64 rfl w.heap.size 70 i0 (.agg #[.int .i64 0, .slice none 0 0]) 2 32 Try.underlying64 HII.out HZ0.out HZ1.out HZ2.out rfl (by decide) _ 0 [] rfl (own_emp (Blk.new _ 70 #[]) (BF.out.1.size)) _ ws.length (ws.flatMap wcell) rfl (HS7.out _ (bal BF.out.1 _)) H7a.out H7b.out (bal BF.out.1 _).size ?_; intro v7 X7 ho7 hg7; obtain ⟨A7, y7, rfl, -, -⟩ := reads_of_owns ho7; have HF := Lib.hid (rc7 (s := s) (ws := ws) (bal BF.out.1 _) (HO5.out.alloc _) (Blk.new _ 70 #[]) (BF.out.1.size) hg7 ho7); clear ho7 hg7))
      | ((refine step_append_row _ rfl (.tmp 9) (.tmp 13) 64 64 rfl w.heap.size 70 i0 (.agg #[.int .i64 0, .slice none 0 0]) 2 32 Try.underlying64 HII.out HZ0.out HZ1.out HZ2.out rfl (by decide) _ 0 [] rfl (own_emp (BF.out.2 _ _ _ (by decide) (blk_second _ _ 70)) (Nat.le_succ _)) _ ws.length (ws.flatMap wcell) rfl (HS7.out _ (BF.out.1)) H7a.out H7b.out (BF.out.1).size ?_; intro v7 X7 ho7 hg7; obtain ⟨A7, y7, rfl, -, -⟩ := reads_of_owns ho7; have HF := Lib.hid (rc7 (s := s) (ws := ws) (BF.out.1) (HO5.out) (BF.out.2 _ _ _ (by decide) (blk_second _ _ 70)) (Nat.le_succ _) hg7 ho7); clear ho7 hg7))
      | ((refine step_append_row _ rfl (.tmp 9) (.tmp 13) 64 64 rfl w.heap.size 70 i0 (.agg #[.int .i64 0, .slice none 0 0]) 2 32 Try.underlying64 HII.out HZ0.out HZ1.out HZ2.out rfl (by decide) _ 0 [] rfl (own_emp (BF.out.2 _ _ _ (by decide) ((Blk.new _ 70 #[]).alloc _)) (B0.out.size)) _ ws.length (ws.flatMap wcell) rfl (HS7.out _ (BF.out.1)) H7a.out H7b.out (BF.out.1).size ?_; intro v7 X7 ho7 hg7; obtain ⟨A7, y7, rfl, -, -⟩ := reads_of_owns ho7; have HF := Lib.hid (rc7 (s := s) (ws := ws) (BF.out.1) (HO5.out) (BF.out.2 _ _ _ (by decide) ((Blk.new _ 70 #[]).alloc _)) (B0.out.size) hg7 ho7); clear ho7 hg7))
      | ((refine step_append_row _ rfl (.tmp 9) (.tmp 13) 64 64 rfl w.heap.size 70 i0 (.agg #[.int .i64 0, .slice none 0 0]) 2 32 Try.underlying64 HII.out HZ0.out HZ1.out HZ2.out rfl (by decide) _ 0 [] rfl (own_emp (Blk.new _ 70 #[]) (B0.out.size)) _ ws.length (ws.flatMap wcell) rfl (HS7.out _ (bal B0.out _)) H7a.out H7b.out (bal B0.out _).size ?_; intro v7 X7 ho7 hg7; obtain ⟨A7, y7, rfl, -, -⟩ := reads_of_owns ho7; have BG := Lib.hid (aft (bal B0.out _) (Blk.new _ 70 #[]) (B0.out.size) hg7); have HO7 := Lib.hid ho7; clear ho7 hg7))
      | ((refine step_append_row _ rfl (.tmp 9) (.tmp 13) 64 64 rfl w.heap.size 70 i0 (.agg #[.int .i64 0, .slice none 0 0]) 2 32 Try.underlying64 HII.out HZ0.out HZ1.out HZ2.out rfl (by decide) _ 0 [] rfl (own_emp (blk_second _ _ 70) (Nat.le_succ _)) _ ws.length (ws.flatMap wcell) rfl (HS7.out _ (bal (bal B0.out _) _)) H7a.out H7b.out (bal (bal B0.out _) _).size ?_; intro v7 X7 ho7 hg7; obtain ⟨A7, y7, rfl, -, -⟩ := reads_of_owns ho7; have BG := Lib.hid (aft (bal (bal B0.out _) _) (blk_second _ _ 70) (Nat.le_succ _) hg7); have HO7 := Lib.hid ho7; clear ho7 hg7))
      | ((refine step_append_row _ rfl (.tmp 9) (.tmp 13) 64 64 rfl w.heap.size 70 i0 (.agg #[.int .i64 0, .slice none 0 0]) 2 32 Try.underlying64 HII.out HZ0.out HZ1.out HZ2.out rfl (by decide) _ 0 [] rfl (own_emp ((Blk.new _ 70 #[]).alloc _) (B0.out.size)) _ ws.length (ws.flatMap wcell) rfl (HS7.out _ (bal (bal B0.out _) _)) H7a.out H7b.out (bal (bal B0.out _) _).size ?_; intro v7 X7 ho7 hg7; obtain ⟨A7, y7, rfl, -, -⟩ := reads_of_owns ho7; have BG := Lib.hid (aft (bal (bal B0.out _) _) ((Blk.new _ 70 #[]).alloc _) (B0.out.size) hg7); have HO7 := Lib.hid ho7; clear ho7 hg7)))
  all_goals
    have he := rc_end HX.out HF.out
    simp only [Nat.zero_add] at he
    have HE := Lib.hid he
    clear he
    go_wp2_with fail
    go_ret
    exact HE.out
end Go.Proofs.Ytgblcjoalgckkaa
