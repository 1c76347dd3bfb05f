/-
  The reference's Parse. What is read from few bytes fits memory. No condition.
-/
import Derived.Test.YtdabmjcpiblofaaDoorPkX
import Derived.Test.YtdabmjcpiblofaaDoorPkTb
namespace Go.Proofs.YtdabmjcpiblofaaDoor
open Go.RowKit
set_option linter.unusedVariables false

theorem results_cell_row2 {P : Program} {fn : Func} {p u : Tmp} {ty : TypeId} (h : fn.results = #[.cell p ty, .tmp u]) (tmps : Array Value) (w : World) (g : Nat) (t : TypeId) (cs : Array Value) (fr : Nat × Nat) (d : TypeDesc)
    (hp : tmps.getD p undef = .pointer (some ⟨g, 0, none⟩)) (hg : w.heap[g]? = some (.cells cs t fr))
    (hu : P.underlying ty = some d) (hd : (match d with | .struct _ | .array _ _ => true | _ => false) = true) (hi : (P.info? ty).map (·.size) = some cs.size) :
    (results fn tmps).run P w = .ok (.tuple #[.agg cs, tmps.getD u undef]) w := by
  have hp' : tmps[p]?.getD undef = .pointer (some ⟨g, 0, none⟩) := by simpa using hp
  simp [results, h, hp', asAddr, run_loadVar_row w g t ty cs fr d hg hu hd hi, Result.andThen]
def zeroP : Array Value := #[.slice none 0 0, .slice none 0 0]
/-- what the reference's Parse knows in its loop: its result lies first, its pack behind it -/
structure QLoop (w wr : World) (bs : List Nat) (q m i p : Nat) (ps : List PX) (v : Value) : Prop where
  le : i ≤ m
  len : ps.length = i
  st : manyP (nodeP bs) i q = some (ps.map PX.plain, p)
  own : wr.ownsRow (w.heap.size + 2) 48 4 v i (ps.flatMap PX.cells)
  each : ∀ x ∈ ps, x.held wr (NodeR (w.heap.size + 1) v)
  fill : FillR w wr w.heap.size 29 zeroP #[v, .slice none 0 0]
section
variable {w wr w5 w6 W : World} {bs : List Nat} {q m i p p2 : Nat} {ps : List PX} {v v6 : Value} {x : PX}
theorem QLoop.mid (h : QLoop w wr bs q m i p ps v) : w.heap.size + 2 ≤ wr.heap.size := h.fill.size
/-- what stands of the box after a round -/
theorem round_fill {v6 : Value} (h : FillR w wr w.heap.size 29 zeroP #[v, .slice none 0 0]) (hv : ∀ b, v.ownBlock = some b → w.heap.size + 2 ≤ b) (hb : Below wr.heap.size wr w5) (hc : Chg w5 W (fun k => wr.heap.size ≤ k)) (ob : Obj) (hgr : Grows (W.alloc ob) w6 v v6) :
    FillR w (w6.setCell ⟨w.heap.size + 1, 0, none⟩ v6) w.heap.size 29 zeroP #[v6, .slice none 0 0] := by
  have hs := h.size
  have hbc : Below wr.heap.size wr W := hb.trans (hc.below hb.size (fun i hi => hi))
  exact (((h.next hbc).alloc ob).grown hgr (fun e => by have := hv _ e; omega) (fun e => by have := hv _ e; omega) (fun b e => by have := hv b e; omega)).put 0 v6
theorem QLoop.step (h : QLoop w wr bs q m i p ps v) (him : i < m) (hf : nodeP bs p = some (x.plain, p2)) (hb : Below wr.heap.size wr w5) (hx : x.held w5 (fun k => wr.heap.size < k)) (hc : Chg w5 W (fun k => k = wr.heap.size)) (ob : Obj)
    (hown : w6.ownsRow (w.heap.size + 2) 48 4 v6 (i + 1) (ps.flatMap PX.cells ++ x.cells)) (hgr : Grows (W.alloc ob) w6 v v6) : QLoop w (w6.setCell ⟨w.heap.size + 1, 0, none⟩ v6) bs q m (i + 1) p2 (ps ++ [x]) v6 := by
  have hv : ∀ b, v.ownBlock = some b → w.heap.size + 2 ≤ b := fun b hb => own_ge h.own hb
  have hvlt : ∀ k, v.ownBlock = some k → k < wr.heap.size := fun k hk => own_lt' h.own hk
  have hz := hb.size
  have hzW := hc.size
  have hs6 := hgr.grown.size
  have hsa : (W.alloc ob).heap.size = W.heap.size + 1 := by simp
  have hmid := h.mid
  have cb : Chg wr w5 (fun _ => False) := Chg.of_low hb
  have ca : Chg W (W.alloc ob) (fun _ => False) := (Chg.refl W _).alloc ob
  have c6 : Chg (W.alloc ob) w6 (fun k => v.ownBlock = some k) := Chg.of_grown hgr.grown (fun k e => e)
  have cs : Chg w6 (w6.setCell ⟨w.heap.size + 1, 0, none⟩ v6) (fun k => k = w.heap.size + 1) := (Chg.refl w6 (fun k => k = w.heap.size + 1)).setCell (p := ⟨w.heap.size + 1, 0, none⟩) (.inl rfl) v6
  have hnr : ∀ k, k < W.heap.size → v.ownBlock ≠ some k → v6.ownBlock ≠ some k := fun k hk h1 h2 => by
    rcases hgr.own k h2 with h3 | h3
    · exact h1 h3
    · omega
  refine ⟨him, by rw [List.length_append, h.len]; rfl, ?_, ?_, fun y hy => ?_, round_fill h.fill hv hb (hc.mono (fun k e => by omega)) ob hgr⟩
  · rw [manyP_snoc, h.st]
    show (nodeP bs p).map _ = _
    rw [hf, List.map_append]
    rfl
  · rw [List.flatMap_append, List.flatMap_cons, List.flatMap_nil, List.append_nil]
    exact hown.kept (only_setCell (g := w.heap.size + 1) (World.grownBy.refl w6 _) (.inl rfl) v6) (.inr (own_ne hown (by omega)))
  · rcases List.mem_append.1 hy with h1 | h1
    · have k0 : y.held wr (fun k => NodeR (w.heap.size + 1) v k ∧ k < wr.heap.size) := (h.each y h1).mono (fun k hk hk2 => ⟨hk2, hk⟩)
      have k1 := ((((k0.chg cb (fun k _ e => e)).chg hc (fun k hk e => by have := hk.2; omega)).chg ca (fun k _ e => e)).chg c6 (fun k hk e => hk.1.2 e)).chg cs (fun k hk e => by have := hk.1.1; omega)
      exact k1.mono (fun k _ hk => ⟨hk.1.1, hnr k (by have := hk.2; omega) hk.1.2⟩)
    · rw [List.mem_singleton] at h1
      rw [h1]
      have k0 : x.held w5 (fun k => wr.heap.size < k ∧ k < w5.heap.size) := hx.mono (fun k hk hk2 => ⟨hk2, hk⟩)
      have k1 := (((k0.chg hc (fun k hk e => by omega)).chg ca (fun k _ e => e)).chg c6 (fun k hk e => by have := hvlt k e; omega)).chg cs (fun k hk e => by omega)
      exact k1.mono (fun k _ hk => ⟨by omega, hnr k (by omega) (fun e => by have := hvlt k e; omega)⟩)
theorem QLoop.fails (h : QLoop w wr bs q m i p ps v) (him : i < m) (hf : nodeP bs p = none) : manyP (nodeP bs) m q = none := by
  refine manyP_none m (i + 1) q him ?_
  rw [manyP_snoc, h.st]
  show (nodeP bs p).map _ = _
  rw [hf]
  rfl
theorem QLoop.ok {lA B : Option Addr} {lc cc : Nat} {ks : List Int} (h : QLoop w wr bs q m i p ps (.slice lA i lc)) (hb : Below wr.heap.size wr w5) (hk : Held w5 wr.heap.size 1 B ks.length (ks.map (Value.int .i64)))
    (hf : FitV (ps.map PX.plain) ks) (hc : Chg w5 W (fun k => k = w.heap.size ∨ k = w.heap.size + 1)) : (⟨lA, ps, lc, B, ks, cc⟩ : PkV).ok W W.heap.size := by
  have hlen := h.len
  subst hlen
  have hmid := h.mid
  have hown := owns_chg (owns_below h.own hb (own_lt h.own)) hc (fun k hk => by have := own_ge h.own hk; omega)
  obtain ⟨lA', lc', e, hr, hbb⟩ := own_reads hown
  injection e with e1 _ e2
  subst e1 e2
  refine ⟨hr, ?_, fun p hp => ?_, ?_, hf.2.1, hf.2.2.1⟩
  · exact ((rowIn_of_reads (R := fun k => wr.heap.size ≤ k) hk.1 (Nat.le_refl _) (fun ad e => (hk.2 ad e).1)).chg hc (fun k hk e => by omega)).reads
  · have h1 := ((h.each p hp).chg (M := fun _ => False) (Chg.of_low hb) (fun k _ e => e)).chg hc (fun k hk e => by have := hk.1; omega)
    obtain ⟨f1, f2, f3, f4, f5, f6⟩ := hf.2.2.2 p.plain (List.mem_map_of_mem hp)
    exact ⟨h1.leads.reads, h1.kids.reads, f1, f2, f3, f4, f5, f6⟩
  · have := hf.1
    simpa using this
end
theorem nodeP_le {bs : List Nat} {n : Nat} (hl : bs.length = n) : ∀ p x q, p ≤ n → nodeP bs p = some (x, q) → q ≤ n := fun p x q hp h => by
  have hN : ∀ p x q, p ≤ n → numP bs p = some (x, q) → q ≤ n := fun p x q hp h => by have := numP_le (by omega) h; omega
  have hX : ∀ p x q, p ≤ n → textP bs p = some (x, q) → q ≤ n := fun p x q hp h => by have := textP_le h; omega
  unfold nodeP at h
  obtain ⟨⟨x1, q1⟩, h1, h⟩ := Option.bind_eq_some_iff.1 h
  obtain ⟨⟨x2, q2⟩, h2, h⟩ := Option.bind_eq_some_iff.1 h
  obtain ⟨⟨x3, q3⟩, h3, h⟩ := Option.bind_eq_some_iff.1 h
  obtain ⟨⟨x4, q4⟩, h4, e⟩ := Option.map_eq_some_iff.1 h
  injection e with e1 e2
  have a1 := hN _ _ _ hp h1
  have a2 := hX _ _ _ a1 h2
  have a3 := listP_le hl hX a2 h3
  have a4 := listP_le hl hN a3 h4
  have e2' : q4 = q := e2
  omega
theorem RNPost.cells (x : PX) : ∀ u ∈ x.cells, u.oneCell' = true := by
  intro u hu
  simp only [PX.cells, List.mem_cons, List.not_mem_nil, or_false] at hu
  rcases hu with rfl | rfl | rfl | rfl <;> rfl

set_option maxRecDepth 100000 in
set_option maxHeartbeats 4000000 in
theorem rparse_any {w : World} {n c : Nat} {A : Option Addr} {bs : List Nat} (hn : n ≤ 1000000000) (hnc : n ≤ c) (hr : Reads w w.heap.size 1 A n (bs.map byt)) (hbs : ∀ x ∈ bs, x < 256) (hfit : ∀ ns rs, packB bs = some (ns, rs) → FitV ns rs) :
    Calls Tryd.prog 34 #[.slice A n c] w (ParsePost w bs) := by
  have hl : bs.length = n := by have := hr.1; simpa using this
  have HC : Hid (∀ (q : Nat) (w' : World), q ≤ n → Below w.heap.size w w' → Calls Tryd.prog 59 #[.slice A n c, .int .i64 (q : Int)] w' fun e w2 => e = .returned (.tuple #[.int .i64 ((((countP bs q).map (·.1)).getD 0 : Nat) : Int), pv ((countP bs q).map (·.2)), ev ((countP bs q).map (·.2))]) ∧ w' = w2) := fun q w' hq hb => by
    have := refCount_any A n c (q : Int) bs w' hn w.heap.size (hr.below hb) hbs
    rwa [resC_st hl hq] at this
  have HM : Hid (∀ (q : Nat) (w' : World), q ≤ n → Below w.heap.size w w' → Calls Tryd.prog 61 #[.slice A n c, .int .i64 (q : Int)] w' (RIPost w' (listP (numP bs) bs q))) := fun q w' hq hb => refGetInts_any hn hq ((hr.below hb).more hb.size) hbs
  have HG : Hid (∀ (q : Nat) (w' : World), q ≤ n → Below w.heap.size w w' → Calls Tryd.prog 60 #[.slice A n c, .int .i64 (q : Int)] w' (RNPost w' (nodeP bs q))) := fun q w' hq hb => refNode_any hn hnc hq ((hr.below hb).more hb.size) hbs
  have HC2 : Hid (∀ (q : Nat) m q2, q ≤ n → countP bs q = some (m, q2) → m ≤ n ∧ q2 ≤ n) := fun q m q2 hq h => countP_fit hl hq h
  have HNL := Lib.hid (nodeP_le hl)
  have HFIT := Lib.hid hfit
  have HLEN := Lib.hid hl
  have hch : packP bs 0 = ((countP bs 0).bind fun y => manyP (nodeP bs) y.1 y.2).bind fun y => (listP (numP bs) bs y.2).map fun z => ((y.1, z.1), z.2) := rfl
  replace hch := Lib.hid hch
  have M0 := Lib.hid (FillR.start w 29 zeroP)
  clear hr hbs hl hfit hnc
  unfold zeroP at M0
  obtain ⟨i0, hi0, hz0, hz1, hz2⟩ := info_parts node_info'
  have HI0 := Lib.hid hi0
  have HZ0 := Lib.hid hz0
  have HZ1 := Lib.hid hz1
  have HZ2 := Lib.hid hz2
  clear hi0 hz0 hz1 hz2
  go_enter Tryd.func34, Tryd.ntmps34
  go_wp2_with fail
  refine (HC.out 0 _ (Nat.zero_le _) (M0.out).bel).mono ?_
  rintro e w1 ⟨rfl, hw⟩
  have N1 : Hid (FillR w w1 w.heap.size 29 zeroP zeroP) := ((M0.out).next (below_eq hw))
  clear hw M0
  rcases e1 : countP bs 0 with _ | ⟨m, q⟩
  · have ho : Hid (packB bs = none) := by unfold Hid; apply packB_none; rw [hch.out, e1]; rfl
    clear hch e1
    have o0 := N1.out.out.cell 0
    have o1 := N1.out.out.cell 1
    have f0 := N1.out.out.frozen 0
    have f1 := N1.out.out.frozen 1
    unfold zeroP at o0 o1
    simp at o0 o1
    simp only [Option.map_none, Option.getD_none, pv, ev]
    go_wp2_with fail
    refine wp_loop_rounds 1 ?_
    rw [rounds_succ]
    go_wp2_with fail
    have FM := ((N1.out).give 0 (.slice none 0 0)).give 1 (.slice none 0 0)
    refine bodyPost_ret (results_cell_row2 (P := Tryd.prog) rfl _ _ w.heap.size 29 #[.slice none 0 0, .slice none 0 0] (0, 0) _ rfl FM.out Tryd.underlying29 rfl (by kernel_rfl)) rfl ?_
    exact ⟨.inr ⟨(fun ns rs h => by rw [ho.out] at h; cases h), rfl⟩, FM.bel⟩
  · obtain ⟨hm, hq⟩ := HC2.out 0 m q (Nat.zero_le _) e1
    have hcm : Hid (packP bs 0 = (manyP (nodeP bs) m q).bind fun y => (listP (numP bs) bs y.2).map fun z => ((y.1, z.1), z.2)) := by unfold Hid; rw [hch.out, e1]; rfl
    simp only [Option.map_some, Option.getD_some, pv, ev]
    have R0 : Hid (QLoop w w1 bs q m 0 q [] (.slice none 0 0)) := ⟨Nat.zero_le _, rfl, rfl, ⟨rfl, .inl ⟨rfl, rfl⟩⟩, (fun x hx => by cases hx), N1.out⟩
    have HQ0 := Lib.hid hq
    clear hch e1 N1 HC hq
    go_wp2_with fail
    go_loopw [6, 7, 8] (fun pw ew iv wr => ∃ (i : Nat), iv = .int .i64 (i : Int) ∧ i ≤ m ∧ ((∃ (p' : Nat) (ps : List PX) (lA : Option Addr) (lc : Nat), pw = .int .i64 (p' : Int) ∧ ew = .int .i64 0 ∧ Hid (p' ≤ n) ∧ Hid (QLoop w wr bs q m i p' ps (.slice lA i lc))) ∨ (pw = .int .i64 0 ∧ ew = .int .i64 13 ∧ Hid (packB bs = none) ∧ Hid (∃ v, FillR w wr w.heap.size 29 zeroP #[v, .slice none 0 0])))) (fun _ _ iv _ => ((m : Int) - intOf iv).toNat)
    case atStart => exact ⟨0, rfl, Nat.zero_le _, .inl ⟨q, [], none, 0, rfl, rfl, HQ0, R0⟩⟩
    case round =>
      obtain ⟨i, rfl, hle, ⟨p', ps, lA, lc, rfl, rfl, hp', HQ⟩ | ⟨rfl, rfl, ho, HF⟩⟩ := hrel
      rotate_left
      · obtain ⟨v, hf⟩ := HF.out
        have HF1 := Lib.hid hf
        clear hf
        have b0 := HF1.out.box.cell 0
        have b1 := HF1.out.box.cell 1
        simp at b0 b1
        by_cases him : i < m
        · have dim : decide ((i : Int) < (m : Int)) = true := by simp; omega
          have o0 := (HF1.out).out.cell 0
          have o1 := (HF1.out).out.cell 1
          have f0 := (HF1.out).out.frozen 0
          have f1 := (HF1.out).out.frozen 1
          unfold zeroP at o0 o1
          simp at o0 o1
          go_wp2_with fail
          have FM := ((HF1.out).give 0 (.slice none 0 0)).give 1 (.slice none 0 0)
          refine bodyPost_ret (results_cell_row2 (P := Tryd.prog) rfl _ _ w.heap.size 29 #[.slice none 0 0, .slice none 0 0] (0, 0) _ rfl FM.out Tryd.underlying29 rfl (by kernel_rfl)) rfl ?_
          exact ⟨.inr ⟨(fun ns rs h => by rw [ho.out] at h; cases h), rfl⟩, FM.bel⟩
        · have dim : decide ((i : Int) < (m : Int)) = false := by simp; omega
          have o0 := (HF1.out).out.cell 0
          have o1 := (HF1.out).out.cell 1
          have f0 := (HF1.out).out.frozen 0
          have f1 := (HF1.out).out.frozen 1
          unfold zeroP at o0 o1
          simp at o0 o1
          go_wp2_with fail
          have FM := ((HF1.out).give 0 (.slice none 0 0)).give 1 (.slice none 0 0)
          refine bodyPost_ret (results_cell_row2 (P := Tryd.prog) rfl _ _ w.heap.size 29 #[.slice none 0 0, .slice none 0 0] (0, 0) _ rfl FM.out Tryd.underlying29 rfl (by kernel_rfl)) rfl ?_
          exact ⟨.inr ⟨(fun ns rs h => by rw [ho.out] at h; cases h), rfl⟩, FM.bel⟩
      have hmid := HQ.out.mid
      by_cases him : i < m
      · have dim : decide ((i : Int) < (m : Int)) = true := by simp; omega
        go_wp2_with fail
        refine (HG.out p' _ hp'.out (bal (HQ.out).fill.bel _)).mono ?_
        rintro e w5 ⟨pr, rfl, hpr, hb5⟩
        have XB : Hid (Blk w5 wr.heap.size 48 #[.int .i64 0, .string ⟨#[]⟩, .slice none 0 0, .slice none 0 0]) := (Blk.new wr _ _).below hb5 (by simp)
        have HB5 : Hid (Below wr.heap.size wr w5) := (bal (Below.refl _ _) _).trans (hb5.mono (by simp))
        have hz5 := XB.out.lt
        have HPR := Lib.hid hpr
        have HBX5 : Hid (Blk w5 (w.heap.size + 1) 29 #[.slice lA i lc, .slice none 0 0]) := (HQ.out).fill.box.below HB5.out (HQ.out).fill.box.lt
        have HOW : Hid (∀ a b c d, ((((w5.setCell ⟨wr.heap.size, 0, none⟩ a).setCell ⟨wr.heap.size, 1, none⟩ b).setCell ⟨wr.heap.size, 2, none⟩ c).setCell ⟨wr.heap.size, 3, none⟩ d).ownsRow (w.heap.size + 2) 48 4 (.slice lA i lc) i (ps.flatMap PX.cells)) := fun a b c d =>
          owns_chg (owns_below (HQ.out).own HB5.out (own_lt (HQ.out).own)) (put4_chg w5 wr.heap.size a b c d) (fun k hk e => by have := own_lt' (HQ.out).own hk; omega)
        have HCK : Hid (∀ a b c d o w6 v6, Grows (((((w5.setCell ⟨wr.heap.size, 0, none⟩ a).setCell ⟨wr.heap.size, 1, none⟩ b).setCell ⟨wr.heap.size, 2, none⟩ c).setCell ⟨wr.heap.size, 3, none⟩ d).alloc o) w6 (.slice lA i lc) v6 → w6.frozen? ⟨w.heap.size + 1, 0, none⟩ = false ∧ w6.cell? ⟨w.heap.size + 1, 0, none⟩ = some (.slice lA i lc)) := fun a b c d o w6 v6 hg => by
          have h1 := hg.blk ((HBX5.out.chg (put4_chg w5 wr.heap.size a b c d) (by omega)).alloc o) (fun e => by have := own_ge (HQ.out).own e; omega)
          exact ⟨h1.frozen 0, by rw [h1.cell]; rfl⟩
        have x0 := XB.out.cell 0
        have x1 := XB.out.cell 1
        have x2 := XB.out.cell 2
        have x3 := XB.out.cell 3
        have y0 := XB.out.frozen 0
        have y1 := XB.out.frozen 1
        have y2 := XB.out.frozen 2
        have y3 := XB.out.frozen 3
        have ck := HBX5.out.cell 0
        simp at x0 x1 x2 x3 ck
        have hne1 : ¬ w.heap.size + 1 = wr.heap.size := by omega
        have hne2 : ¬ wr.heap.size = w.heap.size + 1 := by omega
        rcases he : nodeP bs p' with _ | ⟨y, p2⟩
        · have ho : Hid (packB bs = none) := by unfold Hid; apply packB_none; rw [hcm.out, (HQ.out).fails him he]; rfl
          clear he hpr hb5
          simp only [Option.map_none, pv, ev]
          go_wp2_with (at_builtin; refine wpList_append_row _ rfl (.tmp 33) (.tmp 35) 26 26 rfl (w.heap.size + 2) 48 i0 (.agg #[.int .i64 0, .string ⟨#[]⟩, .slice none 0 0, .slice none 0 0]) 4 72 Tryd.underlying26 HI0.out HZ0.out HZ1.out HZ2.out rfl (by decide) (.slice lA i lc) i (ps.flatMap PX.cells) rfl ((HOW.out _ _ _ _).alloc _) (.slice (some ⟨w5.heap.size, 0, none⟩) 1 1) 1 pr.cells rfl (src_newB _ Tryd.underlying26 pr.cells 4 1 1 w5.heap.size 48 (by simp [World.setCell]) rfl (RNPost.cells pr)) ?c1 ?c2 ?c3 ?_)
          case c1 => unfold maxLen; omega
          case c2 => omega
          case c3 => simp [World.setCell]; omega
          intro v6 w6 hown6 hg6
          obtain ⟨A6, c6, rfl, -, -⟩ := own_reads hown6
          obtain ⟨fz6, cz6⟩ := HCK.out _ _ _ _ _ _ _ hg6
          have HF6 := Lib.hid (round_fill (HQ.out).fill (fun b hb => own_ge (HQ.out).own hb) HB5.out ((put4_chg w5 wr.heap.size _ _ _ _).mono (fun k e => Nat.le_of_eq e.symm)) _ hg6)
          clear hown6 hg6 x0 x1 x2 x3 y0 y1 y2 y3 ck
          go_wp2_with fail
          go_roundw
          case rel => exact ⟨i + 1, by go_num, by omega, .inr ⟨rfl, rfl, ho, ⟨_, HF6.out⟩⟩⟩
          case measure => simp [intOf]; omega
        · obtain ⟨hy, hat⟩ := hpr (y, p2) he
          have hy' : y = pr.plain := hy
          have HE : Hid (nodeP bs p' = some (pr.plain, p2)) := by rw [← hy']; exact he
          have hp2 : Hid (p2 ≤ n) := HNL.out p' y p2 hp'.out he
          have HAT : Hid (pr.held w5 (fun k => wr.heap.size < k)) := hat.held.mono (fun k _ hk => by simp at hk; omega)
          clear he hpr hb5 hy hy' hat
          simp only [Option.map_some, pv, ev]
          go_wp2_with (at_builtin; refine wpList_append_row _ rfl (.tmp 33) (.tmp 35) 26 26 rfl (w.heap.size + 2) 48 i0 (.agg #[.int .i64 0, .string ⟨#[]⟩, .slice none 0 0, .slice none 0 0]) 4 72 Tryd.underlying26 HI0.out HZ0.out HZ1.out HZ2.out rfl (by decide) (.slice lA i lc) i (ps.flatMap PX.cells) rfl ((HOW.out _ _ _ _).alloc _) (.slice (some ⟨w5.heap.size, 0, none⟩) 1 1) 1 pr.cells rfl (src_newB _ Tryd.underlying26 pr.cells 4 1 1 w5.heap.size 48 (by simp [World.setCell]) rfl (RNPost.cells pr)) ?c1 ?c2 ?c3 ?_)
          case c1 => unfold maxLen; omega
          case c2 => omega
          case c3 => simp [World.setCell]; omega
          intro v6 w6 hown6 hg6
          obtain ⟨A6, c6, rfl, -, -⟩ := own_reads hown6
          obtain ⟨fz6, cz6⟩ := HCK.out _ _ _ _ _ _ _ hg6
          have HQ6 := Lib.hid ((HQ.out).step him HE.out HB5.out HAT.out (put4_chg w5 wr.heap.size _ _ _ _) _ hown6 hg6)
          clear hown6 hg6 x0 x1 x2 x3 y0 y1 y2 y3 ck
          go_wp2_with fail
          go_roundw
          case rel => exact ⟨i + 1, by go_num, by omega, .inl ⟨p2, _, _, _, rfl, rfl, hp2, HQ6⟩⟩
          case measure => simp [intOf]; omega
      · obtain rfl : i = m := by omega
        have dim : decide ((i : Int) < (i : Int)) = false := by simp
        have hcn : Hid (packP bs 0 = (listP (numP bs) bs p').map fun z => ((ps.map PX.plain, z.1), z.2)) := by unfold Hid; rw [hcm.out, (HQ.out).st]; rfl
        have hlen := HQ.out.len
        subst hlen
        clear hcm
        go_wp2_with fail
        refine (HM.out p' _ hp'.out (HQ.out).fill.bel).mono ?_
        rintro e w5 ⟨B, cc, ks, rfl, hks, hK, hb5⟩
        have N5 := Lib.hid ((HQ.out).fill.next hb5)
        have HK := Lib.hid hK
        have HB5 := Lib.hid hb5
        have hz5 := hb5.size
        have ck := (N5.out).box.cell 1
        have fk := (N5.out).box.frozen 1
        simp at ck
        have M5 : Hid (FillR w (w5.setCell ⟨w.heap.size + 1, 1, none⟩ (.slice B ks.length cc)) w.heap.size 29 zeroP #[.slice lA ps.length lc, .slice B ks.length cc]) := (N5.out).put 1 (.slice B ks.length cc)
        rcases e4 : listP (numP bs) bs p' with _ | ⟨ks', q4⟩
        · have ho : Hid (packB bs = none) := by unfold Hid; apply packB_none; rw [hcn.out, e4]; rfl
          clear hks hK hb5 e4
          simp only [Option.map_none, pv, ev]
          have o0 := (M5.out).out.cell 0
          have o1 := (M5.out).out.cell 1
          have f0 := (M5.out).out.frozen 0
          have f1 := (M5.out).out.frozen 1
          unfold zeroP at o0 o1
          simp at o0 o1
          go_wp2_with fail
          have FM := ((M5.out).give 0 (.slice none 0 0)).give 1 (.slice none 0 0)
          refine bodyPost_ret (results_cell_row2 (P := Tryd.prog) rfl _ _ w.heap.size 29 #[.slice none 0 0, .slice none 0 0] (0, 0) _ rfl FM.out Tryd.underlying29 rfl (by kernel_rfl)) rfl ?_
          exact ⟨.inr ⟨(fun ns rs h => by rw [ho.out] at h; cases h), rfl⟩, FM.bel⟩
        have hks1 : ks' = ks := hks _ e4
        have HPP : Hid (packP bs 0 = some ((ps.map PX.plain, ks), q4)) := by unfold Hid; rw [hcn.out, e4, ← hks1]; rfl
        have hq4 : q4 ≤ n := listP_le HLEN.out (fun p x q hp h => by have := numP_le (by have := HLEN.out; omega) h; have := HLEN.out; omega) hp'.out e4
        clear hks hK hb5 e4 hks1
        simp only [Option.map_some, pv, ev]
        by_cases hqn : q4 = n
        rotate_left
        · have ho : Hid (packB bs = none) := packB_off (q := q4) (by rw [HPP.out]; rfl) (by rw [HLEN.out]; exact hqn)
          have d1 : ((q4 : Int) != (n : Int)) = true := by simp; omega
          have d2 : ((q4 : Int) == (n : Int)) = false := by simp; omega
          have d3 : (q4 == n) = false := by simp; omega
          have d4 : (q4 != n) = true := by simp; omega
          clear hqn
          have o0 := (M5.out).out.cell 0
          have o1 := (M5.out).out.cell 1
          have f0 := (M5.out).out.frozen 0
          have f1 := (M5.out).out.frozen 1
          unfold zeroP at o0 o1
          simp at o0 o1
          go_wp2_with fail
          have FM := ((M5.out).give 0 (.slice none 0 0)).give 1 (.slice none 0 0)
          refine bodyPost_ret (results_cell_row2 (P := Tryd.prog) rfl _ _ w.heap.size 29 #[.slice none 0 0, .slice none 0 0] (0, 0) _ rfl FM.out Tryd.underlying29 rfl (by kernel_rfl)) rfl ?_
          exact ⟨.inr ⟨(fun ns rs h => by rw [ho.out] at h; cases h), rfl⟩, FM.bel⟩
        subst hqn
        have HPB : Hid (packB bs = some (ps.map PX.plain, ks)) := packB_on (q := q4) (by rw [HPP.out]; rfl) HLEN.out.symm (fun z hz => by rw [HPP.out] at hz; injection hz with hz; rw [← hz])
        have HFV := Lib.hid (HFIT.out _ _ HPB.out)
        have HC5 : Hid (Chg w5 (w5.setCell ⟨w.heap.size + 1, 1, none⟩ (.slice B ks.length cc)) (fun k => k = w.heap.size ∨ k = w.heap.size + 1)) := (Chg.refl w5 _).setCell (p := ⟨w.heap.size + 1, 1, none⟩) (.inl (.inr rfl)) _
        have HOK : Hid (∀ W, Chg w5 W (fun k => k = w.heap.size ∨ k = w.heap.size + 1) → (⟨lA, ps, lc, B, ks, cc⟩ : PkV).ok W W.heap.size) := fun W hc => (HQ.out).ok HB5.out HK.out HFV.out hc
        have HV := Lib.hid (rvalid_any ⟨lA, ps, lc, B, ks, cc⟩ _ (HOK.out _ HC5.out))
        unfold PkV.val at HV
        have b0 := (M5.out).box.cell 0
        have b1 := (M5.out).box.cell 1
        simp at b0 b1
        go_wp2_with fail
        refine (HV.out).mono ?_
        rintro e w7 ⟨bv, hv, rfl, hb7⟩
        have HB7 := Lib.hid hb7
        have M7 := Lib.hid ((M5.out).next hb7)
        have HVV := Lib.hid hv
        clear hb7 hv b0 b1
        rcases bv with _ | _
        · have HNO : Hid (¬ validP (ps.map PX.plain) ks) := fun h => by have := HVV.out.2 h; cases this
          have o0 := (M7.out).out.cell 0
          have o1 := (M7.out).out.cell 1
          have f0 := (M7.out).out.frozen 0
          have f1 := (M7.out).out.frozen 1
          unfold zeroP at o0 o1
          simp at o0 o1
          go_wp2_with fail
          have FM := ((M7.out).give 0 (.slice none 0 0)).give 1 (.slice none 0 0)
          refine bodyPost_ret (results_cell_row2 (P := Tryd.prog) rfl _ _ w.heap.size 29 #[.slice none 0 0, .slice none 0 0] (0, 0) _ rfl FM.out Tryd.underlying29 rfl (by kernel_rfl)) rfl ?_
          refine ⟨.inr ⟨(fun ns rs h => ?_), rfl⟩, FM.bel⟩
          rw [HPB.out] at h
          injection h with h
          injection h with h1 h2
          subst h1 h2
          exact HNO.out
        · have HYES : Hid (validP (ps.map PX.plain) ks) := HVV.out.1 rfl
          have b0 := (M7.out).box.cell 0
          have b1 := (M7.out).box.cell 1
          simp at b0 b1
          have o0 := (M7.out).out.cell 0
          have o1 := (M7.out).out.cell 1
          have f0 := (M7.out).out.frozen 0
          have f1 := (M7.out).out.frozen 1
          unfold zeroP at o0 o1
          simp at o0 o1
          go_wp2_with fail
          have FM := ((M7.out).give 0 (.slice lA ps.length lc)).give 1 (.slice B ks.length cc)
          refine bodyPost_ret (results_cell_row2 (P := Tryd.prog) rfl _ _ w.heap.size 29 #[.slice lA ps.length lc, .slice B ks.length cc] (0, 0) _ rfl FM.out Tryd.underlying29 rfl (by kernel_rfl)) rfl ?_
          refine ⟨.inl ⟨⟨lA, ps, lc, B, ks, cc⟩, HPB.out, HYES.out, rfl, HOK.out _ ?_⟩, FM.bel⟩
          exact ((HC5.out.trans (Chg.of_low HB7.out) (fun i _ e => e)).setCell (p := ⟨w.heap.size, 0, none⟩) (.inl (.inl rfl)) _).setCell (p := ⟨w.heap.size, 1, none⟩) (.inl (.inl rfl)) _
end Go.Proofs.YtdabmjcpiblofaaDoor

namespace Go.Proofs.YtdabmjcpiblofaaDoor
open Go.RowKit
set_option linter.unusedVariables false

section
variable {α : Type} {f : Nat → Option (α × Nat)} {N : Nat} {P : α → Prop} {bs : List Nat}
theorem manyP_all (hf : ∀ p x q, p ≤ N → f p = some (x, q) → P x ∧ q ≤ N) : ∀ (k p : Nat) (l : List α) (q : Nat), p ≤ N → manyP f k p = some (l, q) → ∀ x ∈ l, P x
  | 0, p, l, q, hp, h => by
    injection h with h
    injection h with h
    subst h
    exact fun x hx => by cases hx
  | k + 1, p, l, q, hp, h => by
    rw [manyP] at h
    obtain ⟨y, hy, h⟩ := Option.bind_eq_some_iff.1 h
    obtain ⟨z, hz, e⟩ := Option.map_eq_some_iff.1 h
    injection e with e1 e2
    subst e1
    have h1 := hf p y.1 y.2 hp hy
    intro x hx
    rcases List.mem_cons.1 hx with rfl | hx
    · exact h1.1
    · exact manyP_all hf k y.2 z.1 z.2 h1.2 hz x hx
theorem listP_all (hl : bs.length = N) (hf : ∀ p x q, p ≤ N → f p = some (x, q) → P x ∧ q ≤ N) {p q : Nat} {l : List α} (hp : p ≤ N) (h : listP f bs p = some (l, q)) : l.length ≤ N ∧ (∀ x ∈ l, P x) ∧ q ≤ N := by
  unfold listP at h
  obtain ⟨⟨m, q1⟩, hc, h⟩ := Option.bind_eq_some_iff.1 h
  obtain ⟨hm, hq⟩ := countP_fit hl hp hc
  have h1 := manyP_len m q1 l q h
  exact ⟨by omega, manyP_all hf m q1 l q hq h, manyP_le (fun p x q hp h => (hf p x q hp h).2) m q1 l q hq h⟩
end
theorem str_size (l : List Nat) : (str l).size = l.length := by
  have := congrArg List.length (show (str l).data.toList = l.map UInt8.ofNat from rfl)
  simpa using this
theorem textP_size {bs : List Nat} {p q : Nat} {s : ByteArray} (h : textP bs p = some (s, q)) : s.size ≤ bs.length := by
  unfold textP at h
  split at h
  · cases h
  · split at h
    · cases h
    · injection h with h
      injection h with h1 h2
      rw [← h1, str_size, List.length_take, List.length_drop]
      omega
theorem leadsK_small {N : Nat} (hN : N ≤ 1000000) : ∀ (ls : List ByteArray), (∀ s ∈ ls, s.size ≤ N) → (leadsK ls).length ≤ ls.length * (N + 30)
  | [], _ => by simp [leadsK]
  | s :: ls, h => by
    have ih := leadsK_small hN ls (fun x hx => h x (List.mem_cons_of_mem _ hx))
    have hs := h s List.mem_cons_self
    have h2 := Lib.itoa_length_le ((s.size : Nat) : Int) (by omega) (by omega)
    rw [leadsK_cons, List.length_append, List.length_cons, List.length_append, List.length_cons, Nat.succ_mul]
    have h3 : s.data.toList.length = s.size := by simp
    omega
theorem nodeP_fit {bs : List Nat} {N : Nat} (hl : bs.length = N) (hN : N ≤ 1000000) : ∀ p x q, p ≤ N → nodeP bs p = some (x, q) → (i64 x.1 ∧ x.2.1.size ≤ 9223372036854775807 ∧ (leadsK x.2.2.1).length ≤ 140737488355328 ∧ x.2.2.1.length * 16 ≤ 140737488351232 ∧ x.2.2.2.length ≤ 1000000 ∧ ∀ k ∈ x.2.2.2, i64 k) ∧ q ≤ N := by
  intro p x q hp h
  have hNum : ∀ p x q, p ≤ N → numP bs p = some (x, q) → i64 x ∧ q ≤ N := fun p x q hp h => ⟨(numP_bound bs _ x q h).1, by have := numP_le (by omega) h; omega⟩
  have hTxt : ∀ p x q, p ≤ N → textP bs p = some (x, q) → x.size ≤ N ∧ q ≤ N := fun p x q hp h => ⟨by have := textP_size h; omega, by have := textP_le h; omega⟩
  unfold nodeP at h
  obtain ⟨⟨x1, q1⟩, h1, h⟩ := Option.bind_eq_some_iff.1 h
  obtain ⟨⟨x2, q2⟩, h2, h⟩ := Option.bind_eq_some_iff.1 h
  obtain ⟨⟨x3, q3⟩, h3, h⟩ := Option.bind_eq_some_iff.1 h
  obtain ⟨⟨x4, q4⟩, h4, e⟩ := Option.map_eq_some_iff.1 h
  injection e with e1 e2
  subst e1 e2
  obtain ⟨a1, b1⟩ := hNum _ _ _ hp h1
  obtain ⟨a2, b2⟩ := hTxt _ _ _ b1 h2
  obtain ⟨a3, c3, b3⟩ := listP_all hl hTxt b2 h3
  obtain ⟨a4, c4, b4⟩ := listP_all hl hNum b3 h4
  refine ⟨⟨a1, by show x2.size ≤ _; omega, ?_, by show x3.length * 16 ≤ _; omega, by show x4.length ≤ _; omega, c4⟩, b4⟩
  have h5 := leadsK_small hN x3 c3
  have h6 : x3.length * (N + 30) ≤ 1000000 * 1000030 := Nat.mul_le_mul (by omega) (by omega)
  show (leadsK x3).length ≤ _
  omega
theorem packB_fit {bs : List Nat} (hN : bs.length ≤ 1000000) : ∀ ns rs, packB bs = some (ns, rs) → FitV ns rs := by
  intro ns rs h
  unfold packB packP at h
  obtain ⟨y, hy, h⟩ := Option.bind_eq_some_iff.1 h
  obtain ⟨⟨l, q1⟩, h1, hy⟩ := Option.bind_eq_some_iff.1 hy
  obtain ⟨⟨k, q2⟩, h2, e⟩ := Option.map_eq_some_iff.1 hy
  subst e
  split at h
  · injection h with h
    injection h with e1 e2
    have hNum : ∀ p x q, p ≤ bs.length → numP bs p = some (x, q) → i64 x ∧ q ≤ bs.length := fun p x q hp h => ⟨(numP_bound bs _ x q h).1, numP_le hp h⟩
    obtain ⟨a1, c1, b1⟩ := listP_all rfl (nodeP_fit rfl hN) (Nat.zero_le _) h1
    obtain ⟨a2, c2, b2⟩ := listP_all rfl hNum b1 h2
    have e1' : l = ns := e1
    have e2' : k = rs := e2
    subst e1' e2'
    exact ⟨by omega, by omega, c2, c1⟩
  · cases h
open Classical in
/-- what parsing gives: nodes, roots, an error's number -/
noncomputable def parseR (bs : List Nat) : List PN × List Int × Int := if h : ∃ y, packB bs = some y ∧ validP y.1 y.2 then (h.choose.1, h.choose.2, 0) else ([], [], 13)
theorem parse_post {w w' : World} {bs : List Nat} {e : Ending} (h : ParsePost w bs e w') : ∃ (v : PkV) (er : Int), e = .returned (.tuple #[v.val, .int .i64 er]) ∧ v.ns = (parseR bs).1 ∧ v.rs = (parseR bs).2.1 ∧ er = (parseR bs).2.2 ∧ v.ok w' w'.heap.size ∧ Below w.heap.size w w' := by
  obtain ⟨h | h, hb⟩ := h
  · obtain ⟨v, hp, hv, rfl, hk⟩ := h
    have hex : ∃ y, packB bs = some y ∧ validP y.1 y.2 := ⟨_, hp, hv⟩
    have hc : hex.choose = (v.ns, v.rs) := by
      have h1 := hp.symm.trans hex.choose_spec.1
      injection h1 with h1
      exact h1.symm
    have hR : parseR bs = (v.ns, v.rs, 0) := by
      unfold parseR
      rw [dif_pos hex, hc]
    exact ⟨v, 0, rfl, by rw [hR], by rw [hR], by rw [hR], hk, hb⟩
  · obtain ⟨hno, rfl⟩ := h
    have hR : parseR bs = ([], [], 13) := by
      unfold parseR
      rw [dif_neg (fun ⟨y, h1, h2⟩ => hno _ _ h1 h2)]
    refine ⟨⟨none, [], 0, none, [], 0⟩, 13, rfl, by rw [hR]; rfl, by rw [hR], by rw [hR], ?_, hb⟩
    exact ⟨Reads.none_, Reads.none_, (fun p hp => by cases hp), Nat.zero_le _, Nat.zero_le _, (fun r hr => by cases hr)⟩
end Go.Proofs.YtdabmjcpiblofaaDoor
