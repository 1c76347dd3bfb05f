/-
  The parser of packs: Parse; tiny packs. No condition.
-/
import Derived.Test.YtdabmjcpiblofaaDoorPkSd
import Derived.Test.YtdabmjcpiblofaaDoorPkRc
import Derived.Test.YtdabmjcpiblofaaDoorPkYd
namespace Go.Proofs.YtdabmjcpiblofaaDoor
open Go.RowKit
set_option linter.unusedVariables false

/-- what fits a pack in memory -/
def FitV (ns : List PN) (rs : List Int) : Prop := ns.length ≤ 1000000 ∧ rs.length ≤ 1000000 ∧ (∀ k ∈ rs, i64 k) ∧ ∀ x ∈ ns, i64 x.1 ∧ x.2.1.size ≤ 9223372036854775807 ∧ (leadsK x.2.2.1).length ≤ 140737488355328 ∧ x.2.2.1.length * 16 ≤ 140737488351232 ∧ x.2.2.2.length ≤ 1000000 ∧ ∀ k ∈ x.2.2.2, i64 k
theorem rowIn_of_reads {w : World} {B n : Nat} {R : Nat → Prop} {A : Option Addr} {xs : List Value} (h : Reads w B 1 A n xs) (hB : B ≤ w.heap.size) (hA : ∀ ad, A = some ad → R ad.block) : RowIn w R A n xs := by
  refine ⟨by have := h.1; omega, fun hn => ?_⟩
  obtain ⟨ab, ao, e, hb, hc⟩ := h.head hn (by omega)
  exact ⟨ab, ao, e, hA _ e, by omega, hc⟩
theorem NodeAt.held {w w' : World} {p : PX} (h : NodeAt w w' p) : p.held w' (fun i => w.heap.size ≤ i) :=
  ⟨rowIn_of_reads h.1 (Nat.le_refl _) (fun ad e => (h.2.1 ad e).1), rowIn_of_reads h.2.2.1 (Nat.le_refl _) (fun ad e => (h.2.2.2 ad e).1)⟩
/-- the blocks of the nodes' rows: behind the pack's box, and not the row of nodes -/
def NodeR (g : Nat) (v : Value) (i : Nat) : Prop := g < i ∧ v.ownBlock ≠ some i
/-- what Parse's loop knows: the pack's box at g -/
structure PLoop (w0 wr : World) (r g : Nat) (A : Option Addr) (n c : Nat) (bs : List Nat) (o : Option (Nat × Nat)) (m i : Nat) (s : Option Nat) (ps : List PX) (v : Value) : Prop where
  le : i ≤ m
  len : ps.length = i
  st : (o.bind fun y => manyP (nodeP bs) i y.2).map (·.2) = s
  ps_ : ∀ z, (o.bind fun y => manyP (nodeP bs) i y.2) = some z → z.1 = ps.map PX.plain
  own : wr.ownsRow (g + 1) 48 4 v i (ps.flatMap PX.cells)
  each : ∀ p ∈ ps, p.held wr (NodeR g v)
  mid : LMid w0 wr r A n c bs s
  box : Blk wr g 29 #[v, .slice none 0 0]
  new : w0.heap.size ≤ g
section
variable {w0 wr w5 w6 : World} {r g n c m i : Nat} {A : Option Addr} {bs : List Nat} {o : Option (Nat × Nat)} {s : Option Nat} {ps : List PX} {v v6 : Value} {p : PX}
theorem PLoop.step (h : PLoop w0 wr r g A n c bs o m i s ps v) (him : i < m) (ka : ∀ y, s.bind (nodeP bs) = some y → y.1 = p.plain) (hr : PRd w5 r A n c ((s.bind (nodeP bs)).map (·.2))) (hg : wr.grownBy w5 (some r)) (hp : NodeAt wr w5 p) (ob : Obj)
    (hown : w6.ownsRow (g + 1) 48 4 v6 (i + 1) (ps.flatMap PX.cells ++ p.cells)) (hgr : Grows (w5.alloc ob) w6 v v6) : PLoop w0 (w6.setCell ⟨g, 0, none⟩ v6) r g A n c bs o m (i + 1) ((s.bind (nodeP bs)).map (·.2)) (ps ++ [p]) v6 := by
  have hn1 := ((h.mid.next hr hg).alloc ob).grows hgr (fun k hk => by have := own_ge h.own hk; have := h.new; omega)
  have hold := h.mid.old
  have hnew := h.new
  have hgs := h.box.lt
  have hs5 := hg.size
  have hs6 := hgr.grown.size
  have hsa : (w5.alloc ob).heap.size = w5.heap.size + 1 := by simp
  have hvlt : ∀ k, v.ownBlock = some k → k < wr.heap.size := fun k hk => own_lt' h.own hk
  have c5 : Chg wr w5 (fun k => k = r) := Chg.of_grown hg (fun k e => by injection e with e; exact e.symm)
  have ca : Chg w5 (w5.alloc ob) (fun _ => False) := (Chg.refl w5 _).alloc ob
  have c6 : Chg (w5.alloc ob) w6 (fun k => v.ownBlock = some k) := Chg.of_grown hgr.grown (fun k e => e)
  have cs : Chg w6 (w6.setCell ⟨g, 0, none⟩ v6) (fun k => k = g) := (Chg.refl w6 (fun k => k = g)).setCell (p := ⟨g, 0, none⟩) (.inl rfl) v6
  have hnr : ∀ k, k < w5.heap.size → v.ownBlock ≠ some k → v6.ownBlock ≠ some k := fun k hk h1 h2 => by
    rcases hgr.own k h2 with h3 | h3
    · exact h1 h3
    · omega
  have hold5 : ∀ q ∈ ps, q.held (w6.setCell ⟨g, 0, none⟩ v6) (NodeR g v6) := fun q hq => by
    have h1 : q.held w5 (NodeR g v) := (h.each q hq).chg c5 (fun k hk e => by have := hk.1; omega)
    have h1' : q.held wr (fun k => NodeR g v k ∧ k < wr.heap.size) := (h.each q hq).mono (fun k hk hk2 => ⟨hk2, hk⟩)
    have h2 : q.held w5 (fun k => NodeR g v k ∧ k < wr.heap.size) := h1'.chg c5 (fun k hk e => by have := hk.1.1; omega)
    have h3 := (h2.chg ca (fun k _ e => e)).chg c6 (fun k hk e => hk.1.2 e)
    have h4 := h3.chg cs (fun k hk e => by have := hk.1.1; omega)
    exact h4.mono (fun k _ hk => ⟨hk.1.1, hnr k (by have := hk.2; omega) hk.1.2⟩)
  have hnew5 : p.held (w6.setCell ⟨g, 0, none⟩ v6) (NodeR g v6) := by
    have h1 : p.held w5 (fun k => wr.heap.size ≤ k ∧ k < w5.heap.size) := hp.held.mono (fun k hk hk2 => ⟨hk2, hk⟩)
    have h3 := (h1.chg ca (fun k _ e => e)).chg c6 (fun k hk e => by have := hvlt k e; omega)
    have h4 := h3.chg cs (fun k hk e => by omega)
    exact h4.mono (fun k _ hk => ⟨by omega, hnr k hk.2 (fun e => by have := hvlt k e; omega)⟩)
  refine ⟨him, by rw [List.length_append, h.len]; rfl, ?_, fun z hz => ?_, ?_, fun q hq => ?_, hn1.setCell hnew v6, ?_, hnew⟩
  · rw [← h.st]
    rcases o with _ | y
    · rfl
    · simp only [Option.bind_some]
      rw [manyP_snoc]
      cases manyP (nodeP bs) i y.2 with
      | none => rfl
      | some z =>
        show ((nodeP bs z.2).map _).map _ = (nodeP bs z.2).map _
        cases nodeP bs z.2 <;> rfl
  · rcases o with _ | y
    · cases hz
    · simp only [Option.bind_some] at hz
      rw [manyP_snoc] at hz
      obtain ⟨y1, hy1, hz⟩ := Option.bind_eq_some_iff.1 hz
      obtain ⟨x, hx, rfl⟩ := Option.map_eq_some_iff.1 hz
      have e1 := h.ps_ y1 hy1
      have e2 := h.st
      simp only [Option.bind_some] at e2
      rw [hy1] at e2
      have e3 := ka x (by rw [← e2]; exact hx)
      rw [List.map_append, ← e1, List.map_cons, List.map_nil, ← e3]
  · rw [List.flatMap_append, List.flatMap_cons, List.flatMap_nil, List.append_nil]
    exact hown.kept (only_setCell (g := g) (World.grownBy.refl w6 _) (.inl rfl) v6) (.inr (own_ne hown (by omega)))
  · rcases List.mem_append.1 hq with h1 | h1
    · exact hold5 q h1
    · rw [List.mem_singleton] at h1
      rw [h1]; exact hnew5
  · have b5 := h.box.grown hg (by intro e; injection e; omega)
    have b6 := hgr.blk (b5.alloc ob) (own_ne h.own (by omega))
    exact b6.set_ 0 v6
theorem PLoop.done (h : PLoop w0 wr r g A n c bs o m i s ps v) (he : i = m ∨ s = none) (hm : ∀ y, o = some y → y.1 = m) : (∀ z, (o.bind fun y => manyP (nodeP bs) y.1 y.2) = some z → z.1 = ps.map PX.plain) ∧ (o.bind fun y => manyP (nodeP bs) y.1 y.2).map (·.2) = s := by
  rcases o with _ | y
  · exact ⟨(fun z hz => by cases hz), h.st⟩
  · have e1 := h.st
    have e2 := h.ps_
    simp only [Option.bind_some] at e1 e2 ⊢
    rw [hm y rfl]
    rcases he with rfl | he
    · exact ⟨e2, e1⟩
    · have h1 : manyP (nodeP bs) i y.2 = none := by
        rw [he] at e1
        simpa using e1
      rw [manyP_none m i y.2 h.le h1, he]
      exact ⟨(fun z hz => by cases hz), rfl⟩
end
theorem pack_chain {bs : List Nat} {s3 s4 : Option Nat} {ns : List PN} {k : List Int}
    (h3 : (listP (nodeP bs) bs 0).map (·.2) = s3) (k3 : ∀ y, listP (nodeP bs) bs 0 = some y → y.1 = ns)
    (h4 : (s3.bind (listP (numP bs) bs)).map (·.2) = s4) (k4 : ∀ y, s3.bind (listP (numP bs) bs) = some y → y.1 = k) :
    (∀ z, packP bs 0 = some z → z.1 = (ns, k)) ∧ (packP bs 0).map (·.2) = s4 := by
  subst h3 h4
  unfold packP
  rcases e3 : listP (nodeP bs) bs 0 with _ | y3
  · exact ⟨(fun z hz => by cases hz), rfl⟩
  simp only [e3, Option.map_some, Option.bind_some] at *
  rcases e4 : listP (numP bs) bs y3.2 with _ | y4
  · exact ⟨(fun z hz => by cases hz), rfl⟩
  simp only [e4, Option.map_some] at *
  refine ⟨fun z hz => ?_, trivial⟩
  injection hz with hz
  subst hz
  rw [k3 _ rfl, k4 _ rfl]

def ParsePost (w : World) (bs : List Nat) (e : Ending) (w' : World) : Prop :=
  ((∃ v : PkV, packB bs = some (v.ns, v.rs) ∧ validP v.ns v.rs ∧ e = .returned (.tuple #[v.val, .int .i64 0]) ∧ v.ok w' w'.heap.size) ∨
    ((∀ ns rs, packB bs = some (ns, rs) → ¬ validP ns rs) ∧ e = .returned (.tuple #[.agg #[.slice none 0 0, .slice none 0 0], .int .i64 13]))) ∧ Below w.heap.size w w'
theorem node_info' : (Tryd.prog.info? 48).map (fun i => (i.zero, i.size, i.bytes)) = some (some (.agg #[.int .i64 0, .string ⟨#[]⟩, .slice none 0 0, .slice none 0 0]), 4, 72) := by kernel_rfl

/-- what was read is a pack in memory -/
theorem PLoop.ok {w0 wr w5 W : World} {r g n c m i ge : Nat} {A : Option Addr} {bs : List Nat} {o : Option (Nat × Nat)} {s : Option Nat} {ps : List PX} {lA B : Option Addr} {lc cc : Nat} {ks : List Int} (h : PLoop w0 wr r g A n c bs o m i s ps (.slice lA i lc)) (hg : wr.grownBy w5 (some r)) (hk : Reads w5 w5.heap.size 1 B ks.length (ks.map (Value.int .i64))) (hkB : ∀ ad, B = some ad → wr.heap.size ≤ ad.block ∧ ad.block < w5.heap.size)
    (hf : FitV (ps.map PX.plain) ks) (hc : Chg w5 W (fun k => k = g ∨ k = ge)) (hge : ge ≤ g) : (⟨lA, ps, lc, B, ks, cc⟩ : PkV).ok W W.heap.size := by
  have hlen := h.len
  subst hlen
  have hold := h.mid.old
  have hnew := h.new
  have hgs := h.box.lt
  have hown := owns_chg (h.own.kept hg (.inr (own_ne h.own (by omega)))) hc (fun k hk => by have := own_ge h.own hk; omega)
  obtain ⟨lA', lc', e, hr, hb⟩ := own_reads hown
  injection e with e1 _ e2
  subst e1 e2
  have c5 : Chg wr w5 (fun k => k = r) := Chg.of_grown hg (fun k e => by injection e with e; exact e.symm)
  refine ⟨hr, ?_, fun p hp => ?_, ?_, hf.2.1, hf.2.2.1⟩
  · exact ((rowIn_of_reads (R := fun k => wr.heap.size ≤ k) hk (Nat.le_refl _) (fun ad e => (hkB ad e).1)).chg hc (fun k hk e => by omega)).reads
  · have h1 := ((h.each p hp).chg c5 (fun k hk e => by have := hk.1; omega)).chg hc (fun k hk e => by have := hk.1; omega)
    obtain ⟨f1, f2, f3, f4, f5, f6⟩ := hf.2.2.2 p.plain (List.mem_map_of_mem hp)
    exact ⟨h1.leads.reads, h1.kids.reads, f1, f2, f3, f4, f5, f6⟩
  · have := hf.1
    simpa using this
theorem Chg.of_low {w w' : World} {M : Nat → Prop} (h : Below w.heap.size w w') : Chg w w' M := ⟨h.os, h.tape, h.output, h.size, fun b hb _ => h.block b hb⟩
theorem packB_none {bs : List Nat} (h : (packP bs 0).map (·.2) = none) : packB bs = none := by
  unfold packB
  rw [Option.map_eq_none_iff.1 h]
  rfl
theorem packB_off {bs : List Nat} {q : Nat} (h : (packP bs 0).map (·.2) = some q) (hq : q ≠ bs.length) : packB bs = none := by
  obtain ⟨z, hz, rfl⟩ := Option.map_eq_some_iff.1 h
  unfold packB
  rw [hz]
  exact if_neg hq
theorem packB_on {bs : List Nat} {q : Nat} {ns : List PN} {ks : List Int} (h : (packP bs 0).map (·.2) = some q) (hq : q = bs.length) (hz : ∀ z, packP bs 0 = some z → z.1 = (ns, ks)) : packB bs = some (ns, ks) := by
  obtain ⟨z, hz', rfl⟩ := Option.map_eq_some_iff.1 h
  unfold packB
  rw [hz']
  show (if z.2 = bs.length then some z.1 else none) = _
  rw [if_pos hq, hz z hz']
set_option maxRecDepth 100000 in
set_option maxHeartbeats 3200000 in
theorem parse_any {w : World} {n c : Nat} {A : Option Addr} {bs : List Nat} (hn : n ≤ 1000000000) (hnc : n ≤ c) (hr : Reads w w.heap.size 1 A n (bs.map byt)) (hbs : ∀ x ∈ bs, x < 256) (ht : Tab w) (hfit : ∀ ns rs, packB bs = some (ns, rs) → FitV ns rs) :
    Calls Tryd.prog 33 #[.slice A n c] w (ParsePost w bs) := by
  have hl : bs.length = n := by have := hr.1; simpa using this
  obtain ⟨i0, hi0, hz0, hz1, hz2⟩ := info_parts node_info'
  have hb1 := Blk.new w 29 #[.slice none 0 0, .slice none 0 0]
  have hb2 := Blk.new (w.alloc (.cells #[.slice none 0 0, .slice none 0 0] 29)) 85 #[.slice A n c, .int .i64 0, .bool false]
  obtain ⟨w0, hw0⟩ : ∃ w0, (w.alloc (.cells #[.slice none 0 0, .slice none 0 0] 29)).alloc (.cells #[.slice A n c, .int .i64 0, .bool false] 85) = w0 := ⟨_, rfl⟩
  have hs1 : (w.alloc (.cells #[.slice none 0 0, .slice none 0 0] 29)).heap.size = w.heap.size + 1 := by simp
  have hs0 : w0.heap.size = w.heap.size + 2 := by rw [← hw0]; simp
  have hbel : Hid (Below w.heap.size w w0) := by rw [← hw0]; exact bal (bal (Below.refl _ w) _) _
  have L0 : LMid w0 w0 (w.heap.size + 1) A n c bs (some 0) := by
    refine ⟨⟨?_, Nat.zero_le _⟩, ⟨hn, hnc, ?_, hbs⟩, World.grownBy.refl _ _, by omega⟩
    · rw [hs1, hw0] at hb2; exact hb2
    · rw [← hw0]; exact ((hr.alloc (Nat.le_refl _) _).more (Nat.le_succ _)).alloc (by rw [hs1]; exact Nat.le_refl _) _
  have HRES : Hid (Blk w0 w.heap.size 29 #[.slice none 0 0, .slice none 0 0]) := by rw [← hw0]; exact hb1.alloc _
  have hb3 := Blk.new w0 29 #[.slice none 0 0, .slice none 0 0]
  obtain ⟨w1, hw1⟩ : ∃ w1, w0.alloc (.cells #[.slice none 0 0, .slice none 0 0] 29) = w1 := ⟨_, rfl⟩
  have L1 : Hid (LMid w0 w1 (w.heap.size + 1) A n c bs (some 0)) := by rw [← hw1]; exact L0.alloc _
  have HBX : Hid (Blk w1 w0.heap.size 29 #[.slice none 0 0, .slice none 0 0]) := by rw [hw1] at hb3; exact hb3
  have HT := Lib.hid ht
  have HFIT := Lib.hid hfit
  have HL := Lib.hid hl
  have HS0 := Lib.hid hs0
  clear hb1 hb2 hb3 L0 hs1 hr hbs ht hfit hl hs0 hnc
  go_enter Tryd.func33, Tryd.ntmps33
  go_wp2_with fail
  refine (pcount_any (L1.out).rd (L1.out).inn).mono ?_
  rintro e w3 ⟨m, rfl, hm, K3, K3n, hrd, hg⟩
  clear hw0 hw1
  have R0 : Hid (PLoop w0 w3 (w.heap.size + 1) w0.heap.size A n c bs ((some 0).bind (countP bs)) m 0 (Option.map (·.2) ((some 0).bind (countP bs))) [] (.slice none 0 0)) := by
    have hn := (L1.out).next hrd hg
    refine ⟨Nat.zero_le _, rfl, ?_, fun z hz => ?_, ⟨rfl, .inl ⟨rfl, rfl⟩⟩, (fun p hp => by cases hp), hn, (HBX.out).grown hg (by have := HS0.out; intro e; injection e; omega), Nat.le_refl _⟩
    · cases ((some 0).bind (countP bs)) <;> rfl
    · generalize ((some 0).bind (countP bs)) = o at hz
      rcases o with _ | y
      · cases hz
      · injection hz with hz
        rw [← hz]; rfl
  replace K3 := Lib.hid K3
  obtain ⟨o3, ho3⟩ : ∃ o3, (some 0).bind (countP bs) = o3 := ⟨_, rfl⟩
  rw [ho3] at R0 K3
  replace ho3 := Lib.hid ho3
  clear hrd hg L1 HBX K3n
  go_wp2_with fail
  go_loopw [6] (fun iv wr => ∃ (i : Nat) (s' : Option Nat) (ps : List PX) (v : Value), iv = .int .i64 ((m - i : Nat) : Int) ∧ PLoop w0 wr (w.heap.size + 1) w0.heap.size A n c bs o3 m i s' ps v) (fun iv _ => (intOf iv).toNat)
  case atStart => exact ⟨0, _, [], _, rfl, R0.out⟩
  case round =>
    obtain ⟨i, s', ps, v, rfl, hR⟩ := hrel
    have HR := Lib.hid hR
    have hle := hR.le
    obtain ⟨lA, lc, rfl, -, -⟩ := own_reads hR.own
    clear hR R0
    by_cases hgo : i < m ∧ s' ≠ none
    · obtain ⟨him, hs'⟩ := hgo
      obtain ⟨p, rfl⟩ := Option.ne_none_iff_exists'.1 hs'
      clear hs'
      have dim : decide (((m - i : Nat) : Int) > 0) = true := by simp; omega
      have dim2 : decide (0 < m - i) = true := by simp; omega
      have e1 : IntKind.i64.wrap (((m - i : Nat) : Int) - 1) = ((m - (i + 1) : Nat) : Int) := by rw [IntKind.wrap_i64]; omega
      have hb1 := (HR.out).mid.rd.1
      have c2 := hb1.cell 2
      simp at c2
      clear hb1
      have HT5 : Hid (Calls Tryd.prog 57 #[.pointer (some ⟨w.heap.size + 1, 0, none⟩)] wr.drew (ReadNode wr.drew (w.heap.size + 1) A n c (nodeP bs p))) := pnode_any (s := some p) ((HR.out).mid.drewN 1).rd ((HR.out).mid.drewN 1).inn
      have hne1 : some w0.heap.size ≠ some (w.heap.size + 1) := fun e => by have := HS0.out; injection e; omega
      have HC3 : Hid (∀ w', wr.drew.grownBy w' (some (w.heap.size + 1)) → w'.cell? ⟨w0.heap.size, 0, none⟩ = some (.slice lA i lc) ∧ w'.frozen? ⟨w0.heap.size, 0, none⟩ = false) := fun w' hb => by
        have h1 : Blk w' _ _ _ := (show Blk wr.drew _ _ _ from (HR.out).box).grown hb hne1
        exact ⟨by rw [h1.cell]; rfl, h1.frozen 0⟩
      have HC4 : Hid (∀ w' o, wr.drew.grownBy w' (some (w.heap.size + 1)) → (w'.alloc o).cell? ⟨w0.heap.size, 0, none⟩ = some (.slice lA i lc)) := fun w' o hb => by
        have h1 : Blk w' _ _ _ := (show Blk wr.drew _ _ _ from (HR.out).box).grown hb hne1
        have h2 := h1.alloc o
        rw [h2.cell]; rfl
      have HOW : Hid (∀ w5 o, wr.drew.grownBy w5 (some (w.heap.size + 1)) → (w5.alloc o).ownsRow (w0.heap.size + 1) 48 4 (.slice lA i lc) i (ps.flatMap PX.cells)) := fun w5 o hb =>
        (World.ownsRow.kept (show wr.drew.ownsRow _ _ _ _ _ _ from (HR.out).own) hb (.inr (own_ne (HR.out).own (by have := HS0.out; omega)))).alloc o
      have HNX : Hid (∀ (w5 w6 : World) (q : PX) (v6 : Value) (o : Obj), (∀ y, nodeP bs p = some y → y.1 = q.plain) → PRd w5 (w.heap.size + 1) A n c ((nodeP bs p).map (·.2)) → wr.drew.grownBy w5 (some (w.heap.size + 1)) → NodeAt wr.drew w5 q → w6.ownsRow (w0.heap.size + 1) 48 4 v6 (i + 1) (ps.flatMap PX.cells ++ q.cells) → Grows (w5.alloc o) w6 (.slice lA i lc) v6 →
          PLoop w0 (w6.setCell ⟨w0.heap.size, 0, none⟩ v6) (w.heap.size + 1) w0.heap.size A n c bs o3 m (i + 1) ((nodeP bs p).map (·.2)) (ps ++ [q]) v6) := fun w5 w6 q v6 o h1 h2 h3 hq h4 h5 => (HR.out).step him h1 h2 ⟨h3.os, h3.tape, h3.output, h3.size, h3.block⟩ hq o h4 h5
      have HG6 : Hid (∀ (w5 w6 : World) (v6 : Value) (o : Obj), wr.drew.grownBy w5 (some (w.heap.size + 1)) → Grows (w5.alloc o) w6 (.slice lA i lc) v6 → w6.cell? ⟨w0.heap.size, 0, none⟩ = some (.slice lA i lc) ∧ w6.frozen? ⟨w0.heap.size, 0, none⟩ = false) := fun w5 w6 v6 o hb hg => by
        have h1 : Blk w5 _ _ _ := (show Blk wr.drew _ _ _ from (HR.out).box).grown hb hne1
        have h2 := hg.blk (h1.alloc o) (own_ne (HR.out).own (by omega))
        exact ⟨by rw [h2.cell]; rfl, h2.frozen 0⟩
      have G0 : Hid (wr.drew.grownBy wr.drew (some (w.heap.size + 1))) := World.grownBy.refl _ _
      have HZ5 : Hid (∀ w5 o, wr.drew.grownBy w5 (some (w.heap.size + 1)) → w0.heap.size + 1 ≤ (w5.alloc o).heap.size) := fun w5 o hb => by have h1 := hb.size; have h2 := (HR.out).box.lt; simp at h1 ⊢; omega
      have HM1 : Hid (i + 1 ≤ maxLen) := by unfold Hid maxLen; omega
      have HM2 : Hid ((i + 1) * 72 ≤ 140737488355328) := by unfold Hid; omega
      have HI := Lib.hid hi0
      have HZ0 := Lib.hid hz0
      have HZ1 := Lib.hid hz1
      have HZ2 := Lib.hid hz2
      have c00 := (HC3.out _ G0.out).1
      clear hne1 hi0 hz0 hz1 hz2
      go_wp2_with fail
      clear c2
      rw [late_load _ 23]
      go_region_held3 (fun w' => True) (trivial)
        (first
          | (refine step_append_row _ rfl (.tmp 24) (.tmp 27) 26 26 rfl (w0.heap.size + 1) 48 i0 (.agg #[.int .i64 0, .string ⟨#[]⟩, .slice none 0 0, .slice none 0 0]) 4 72 Tryd.underlying26 HI.out HZ0.out HZ1.out HZ2.out rfl (by decide) (.slice lA i lc) i (ps.flatMap PX.cells) rfl (HOW.out _ _ G5.out) (.slice (some ⟨w5.heap.size, 0, none⟩) 1 1) 1 q5.cells rfl (src_new w5 Tryd.underlying26 q5.cells 4 1 1 48 rfl (fun u hu => by simp [PX.cells] at hu; rcases hu with rfl | rfl | rfl | rfl <;> rfl)) HM1.out HM2.out (HZ5.out _ _ G5.out) ?_; intro v6 w6 ho6 hg6; obtain ⟨A6, c6, rfl, -, -⟩ := reads_of_owns ho6; have HO6 := Lib.hid ho6; have HGR := Lib.hid hg6; have HG7 := Lib.hid (HG6.out _ _ _ _ G5.out hg6); have c60 := HG7.out.1; have z60 := HG7.out.2; clear ho6 hg6)
          | (go_at_call 57; refine (HT5.out).mono ?_; rintro e w5 ⟨q5, rfl, k5, hq5, hrd5, hg5⟩; have G5 := Lib.hid hg5; have K5 := Lib.hid k5; have Q5 := Lib.hid hq5; have R5 := Lib.hid hrd5; have c50 := (HC3.out _ G5.out).1; have c5a := HC4.out _ (.cells #[.int .i64 q5.kind, .string q5.text, .slice q5.lA q5.leads.length q5.lc, .slice q5.kA q5.kids.length q5.kc] 48) G5.out; clear hg5 k5 hrd5 hq5))
      all_goals
        have HS := Lib.hid (HNX.out _ _ _ _ _ K5.out R5.out G5.out Q5.out HO6.out HGR.out)
        clear c00 c50 c5a c60 z60
        go_wp2_with fail
        go_roundw
        case rel => exact ⟨i + 1, _, _, _, by go_num, HS.out⟩
        case measure => simp [intOf]; omega
    · have he : i = m ∨ s' = none := by
        by_cases h : i < m
        · exact .inr (Classical.byContradiction fun hs => hgo ⟨h, hs⟩)
        · exact .inl (by omega)
      have HD := Lib.hid ((HR.out).done he (K3.out))
      clear hgo
      rcases s' with _ | q'
      · have hb1 := (HR.out).mid.rd
        obtain ⟨z1, hb1⟩ := hb1
        have c2 := hb1.cell 2
        simp at c2
        clear hb1 he
        by_cases him : i < m
        · have dim : decide (((m - i : Nat) : Int) > 0) = true := by simp; omega
          have dim2 : decide (0 < m - i) = true := by simp; omega
          go_wp2_with fail
          clear c2
          refine (pnumbers_any (HR.out).mid.rd (HR.out).mid.inn).mono ?_
          rintro e w5 ⟨B, cc, ks, rfl, K5, hrk, hkB, hrd, hg⟩
          have hk5 : Hid (Reads w5 w5.heap.size 1 B ks.length (ks.map (Value.int .i64))) := by have := hrk; rw [flat_one] at this; exact this
          have HKB := Lib.hid hkB
          have HG := Lib.hid hg
          have M5 := Lib.hid ((HR.out).mid.next hrd hg)
          have h3' := (HD.out).2
          have k3' := (HD.out).1
          rw [← ho3.out, ← list_count] at h3' k3'
          have hch := pack_chain h3' k3' rfl (k := ks) (fun y hy => by have := (K5 y hy).1; rw [List.map_id] at this; exact this)
          have B5 := Lib.hid ((HR.out).box.grown hg (by have := HS0.out; intro e; injection e; omega))
          have E5 : Hid (Blk w5 w.heap.size 29 #[.slice none 0 0, .slice none 0 0]) := (HRES.out).grown (M5.out).gr (by intro e; injection e; omega)
          have BL5 : Hid (Below w.heap.size w w5) := hbel.out.grown (M5.out).gr (by have := HS0.out; omega) (fun k hk => by injection hk; omega)
          have b0 := (B5.out).cell 0
          have b1 := (B5.out).cell 1
          have z1 := (B5.out).frozen 1
          simp at b0 b1
          have BX : Hid (Blk (w5.setCell ⟨w0.heap.size, 1, none⟩ (.slice B ks.length cc)) w0.heap.size 29 #[.slice lA i lc, .slice B ks.length cc]) := (B5.out).set_ 1 _
          have hne0 : w.heap.size ≠ w0.heap.size := by have := HS0.out; omega
          have hne2 : w.heap.size + 1 ≠ w0.heap.size := by have := HS0.out; omega
          have EX : Hid (Blk (w5.setCell ⟨w0.heap.size, 1, none⟩ (.slice B ks.length cc)) w.heap.size 29 #[.slice none 0 0, .slice none 0 0]) := (E5.out).far (p := ⟨w0.heap.size, 1, none⟩) hne0 _
          have BLX : Hid (Below w.heap.size w (w5.setCell ⟨w0.heap.size, 1, none⟩ (.slice B ks.length cc))) := (BL5.out).setCell (p := ⟨w0.heap.size, 1, none⟩) (by have := HS0.out; show w.heap.size ≤ w0.heap.size; omega) _
          have RX := Lib.hid ((M5.out).rd.far (p := ⟨w0.heap.size, 1, none⟩) hne2 (.slice B ks.length cc))
          clear hrk hkB hrd hg h3' k3' K5
          generalize (Option.map (fun x : List Int × Nat => x.2) (none.bind (listP (numP bs) bs))) = s4 at RX hch
          have HCH := Lib.hid hch
          clear hch
          have e0 := (EX.out).cell 0
          have e1' := (EX.out).cell 1
          have t0 := (EX.out).frozen 0
          have t1 := (EX.out).frozen 1
          have bx0 := (BX.out).cell 0
          have bx1 := (BX.out).cell 1
          simp at e0 e1' bx0 bx1
          rcases s4 with _ | q
          · obtain ⟨zz, hbx⟩ := RX.out
            have k2 := hbx.cell 2
            simp at k2
            have HE := Lib.hid (((EX.out).set_ 0 (.slice none 0 0)).set_ 1 (.slice none 0 0))
            have x0 := HE.out.cell 0
            have x1 := HE.out.cell 1
            simp at x0 x1
            clear hbx
            go_wp2_with fail
            refine bodyPost_ret (v := .tuple #[.agg #[.slice none 0 0, .slice none 0 0], .int .i64 13]) (by simp [results, Tryd.results33, go_sem, x0, x1]) rfl ?_
            refine ⟨.inr ⟨fun ns rs h => ?_, rfl⟩, (BLX.out.setCell (p := ⟨w.heap.size, 0, none⟩) (Nat.le_refl _) _).setCell (p := ⟨w.heap.size, 1, none⟩) (Nat.le_refl _) _⟩
            rw [packB_none (HCH.out).2] at h
            cases h
          · obtain ⟨hbx, hq⟩ := RX.out
            have k1 := hbx.cell 1
            have k2 := hbx.cell 2
            simp at k1 k2
            clear hbx
            by_cases hqn : q = n
            · obtain rfl : n = q := hqn.symm
              have d1 : ((n : Int) == (n : Int)) = true := by simp
              have d2 : ((n : Int) != (n : Int)) = false := by simp
              have HPB := Lib.hid (packB_on (HCH.out).2 (HL.out).symm (HCH.out).1)
              have hfit5 := Lib.hid (HFIT.out _ _ HPB.out)
              have hlow : w.heap.size ≤ w0.heap.size := by have := HS0.out; omega
              have HC1 : Hid (Chg w5 (w5.setCell ⟨w0.heap.size, 1, none⟩ (.slice B ks.length cc)) (fun k => k = w0.heap.size ∨ k = w.heap.size)) := (Chg.refl w5 _).setCell (p := ⟨w0.heap.size, 1, none⟩) (.inl (.inl rfl)) _
              have HOK := Lib.hid (PLoop.ok (cc := cc) (ge := w.heap.size) HR.out HG.out hk5.out HKB.out hfit5.out HC1.out hlow)
              have HVAL : Hid (Calls Tryd.prog 21 #[.agg #[.slice lA i lc, .slice B ks.length cc]] (w5.setCell ⟨w0.heap.size, 1, none⟩ (.slice B ks.length cc)) (RetB (w5.setCell ⟨w0.heap.size, 1, none⟩ (.slice B ks.length cc)) (validP (ps.map PX.plain) ks))) := by
                have hv := valid_any _ _ HOK.out ((HT.out).below BLX.out)
                unfold Hid
                rw [← (HR.out).len]
                exact hv
              clear hqn hq hlow HOK
              go_wp2_with fail
              refine (HVAL.out).mono ?_
              rintro e w7 ⟨bv, hbv, rfl, hb7⟩
              have EX7 := Lib.hid ((EX.out).below hb7 (EX.out).lt)
              have BX7 := Lib.hid ((BX.out).below hb7 (BX.out).lt)
              have BL7 := Lib.hid ((BLX.out).trans (hb7.mono (BLX.out).size))
              have HC7 := Lib.hid ((HC1.out).trans (Chg.of_low hb7) (fun _ _ h => h))
              have HBV := Lib.hid hbv
              have g0 := (EX7.out).cell 0
              have g1 := (EX7.out).cell 1
              have u0 := (EX7.out).frozen 0
              have u1 := (EX7.out).frozen 1
              have y0 := (BX7.out).cell 0
              have y1 := (BX7.out).cell 1
              simp at g0 g1 y0 y1
              clear hbv hb7 HVAL
              cases bv
              · have HE := Lib.hid (((EX7.out).set_ 0 (.slice none 0 0)).set_ 1 (.slice none 0 0))
                have x0 := HE.out.cell 0
                have x1 := HE.out.cell 1
                simp at x0 x1
                go_wp2_with fail
                refine bodyPost_ret (v := .tuple #[.agg #[.slice none 0 0, .slice none 0 0], .int .i64 13]) (by simp [results, Tryd.results33, go_sem, x0, x1]) rfl ?_
                refine ⟨.inr ⟨fun ns rs h hv => ?_, rfl⟩, (BL7.out.setCell (p := ⟨w.heap.size, 0, none⟩) (Nat.le_refl _) _).setCell (p := ⟨w.heap.size, 1, none⟩) (Nat.le_refl _) _⟩
                have h2 := HPB.out
                rw [h] at h2
                injection h2 with h2
                injection h2 with h3 h4
                rw [h3, h4] at hv
                cases (HBV.out).2 hv
              · have HE := Lib.hid (((EX7.out).set_ 0 (.slice lA i lc)).set_ 1 (.slice B ks.length cc))
                have x0 := HE.out.cell 0
                have x1 := HE.out.cell 1
                simp at x0 x1
                go_wp2_with fail
                refine bodyPost_ret (v := .tuple #[.agg #[.slice lA i lc, .slice B ks.length cc], .int .i64 0]) (by simp [results, Tryd.results33, go_sem, x0, x1]) rfl ?_
                have hlow : w.heap.size ≤ w0.heap.size := by have := HS0.out; omega
                refine ⟨.inl ⟨⟨lA, ps, lc, B, ks, cc⟩, HPB.out, (HBV.out).1 trivial, ?_, ?_⟩, (BL7.out.setCell (p := ⟨w.heap.size, 0, none⟩) (Nat.le_refl _) _).setCell (p := ⟨w.heap.size, 1, none⟩) (Nat.le_refl _) _⟩
                · show _ = Ending.returned (.tuple #[.agg #[.slice lA ps.length lc, .slice B ks.length cc], .int .i64 0])
                  rw [(HR.out).len]
                · exact PLoop.ok (ge := w.heap.size) HR.out HG.out hk5.out HKB.out hfit5.out (((HC7.out).setCell (p := ⟨w.heap.size, 0, none⟩) (.inl (.inr rfl)) _).setCell (p := ⟨w.heap.size, 1, none⟩) (.inl (.inr rfl)) _) hlow
            · have d1 : ((q : Int) == (n : Int)) = false := by simp; omega
              have d2 : ((q : Int) != (n : Int)) = true := by simp; omega
              have HE := Lib.hid (((EX.out).set_ 0 (.slice none 0 0)).set_ 1 (.slice none 0 0))
              have x0 := HE.out.cell 0
              have x1 := HE.out.cell 1
              simp at x0 x1
              have HQN := Lib.hid (packB_off (HCH.out).2 (by rw [HL.out]; exact hqn))
              clear hqn hq
              go_wp2_with fail
              refine bodyPost_ret (v := .tuple #[.agg #[.slice none 0 0, .slice none 0 0], .int .i64 13]) (by simp [results, Tryd.results33, go_sem, x0, x1]) rfl ?_
              refine ⟨.inr ⟨fun ns rs h => ?_, rfl⟩, (BLX.out.setCell (p := ⟨w.heap.size, 0, none⟩) (Nat.le_refl _) _).setCell (p := ⟨w.heap.size, 1, none⟩) (Nat.le_refl _) _⟩
              rw [HQN.out] at h
              cases h
        · have dim : decide (((m - i : Nat) : Int) > 0) = false := by simp; omega
          have dim2 : decide (0 < m - i) = false := by simp; omega
          go_wp2_with fail
          clear c2
          refine (pnumbers_any (HR.out).mid.rd (HR.out).mid.inn).mono ?_
          rintro e w5 ⟨B, cc, ks, rfl, K5, hrk, hkB, hrd, hg⟩
          have hk5 : Hid (Reads w5 w5.heap.size 1 B ks.length (ks.map (Value.int .i64))) := by have := hrk; rw [flat_one] at this; exact this
          have HKB := Lib.hid hkB
          have HG := Lib.hid hg
          have M5 := Lib.hid ((HR.out).mid.next hrd hg)
          have h3' := (HD.out).2
          have k3' := (HD.out).1
          rw [← ho3.out, ← list_count] at h3' k3'
          have hch := pack_chain h3' k3' rfl (k := ks) (fun y hy => by have := (K5 y hy).1; rw [List.map_id] at this; exact this)
          have B5 := Lib.hid ((HR.out).box.grown hg (by have := HS0.out; intro e; injection e; omega))
          have E5 : Hid (Blk w5 w.heap.size 29 #[.slice none 0 0, .slice none 0 0]) := (HRES.out).grown (M5.out).gr (by intro e; injection e; omega)
          have BL5 : Hid (Below w.heap.size w w5) := hbel.out.grown (M5.out).gr (by have := HS0.out; omega) (fun k hk => by injection hk; omega)
          have b0 := (B5.out).cell 0
          have b1 := (B5.out).cell 1
          have z1 := (B5.out).frozen 1
          simp at b0 b1
          have BX : Hid (Blk (w5.setCell ⟨w0.heap.size, 1, none⟩ (.slice B ks.length cc)) w0.heap.size 29 #[.slice lA i lc, .slice B ks.length cc]) := (B5.out).set_ 1 _
          have hne0 : w.heap.size ≠ w0.heap.size := by have := HS0.out; omega
          have hne2 : w.heap.size + 1 ≠ w0.heap.size := by have := HS0.out; omega
          have EX : Hid (Blk (w5.setCell ⟨w0.heap.size, 1, none⟩ (.slice B ks.length cc)) w.heap.size 29 #[.slice none 0 0, .slice none 0 0]) := (E5.out).far (p := ⟨w0.heap.size, 1, none⟩) hne0 _
          have BLX : Hid (Below w.heap.size w (w5.setCell ⟨w0.heap.size, 1, none⟩ (.slice B ks.length cc))) := (BL5.out).setCell (p := ⟨w0.heap.size, 1, none⟩) (by have := HS0.out; show w.heap.size ≤ w0.heap.size; omega) _
          have RX := Lib.hid ((M5.out).rd.far (p := ⟨w0.heap.size, 1, none⟩) hne2 (.slice B ks.length cc))
          clear hrk hkB hrd hg h3' k3' K5
          generalize (Option.map (fun x : List Int × Nat => x.2) (none.bind (listP (numP bs) bs))) = s4 at RX hch
          have HCH := Lib.hid hch
          clear hch
          have e0 := (EX.out).cell 0
          have e1' := (EX.out).cell 1
          have t0 := (EX.out).frozen 0
          have t1 := (EX.out).frozen 1
          have bx0 := (BX.out).cell 0
          have bx1 := (BX.out).cell 1
          simp at e0 e1' bx0 bx1
          rcases s4 with _ | q
          · obtain ⟨zz, hbx⟩ := RX.out
            have k2 := hbx.cell 2
            simp at k2
            have HE := Lib.hid (((EX.out).set_ 0 (.slice none 0 0)).set_ 1 (.slice none 0 0))
            have x0 := HE.out.cell 0
            have x1 := HE.out.cell 1
            simp at x0 x1
            clear hbx
            go_wp2_with fail
            refine bodyPost_ret (v := .tuple #[.agg #[.slice none 0 0, .slice none 0 0], .int .i64 13]) (by simp [results, Tryd.results33, go_sem, x0, x1]) rfl ?_
            refine ⟨.inr ⟨fun ns rs h => ?_, rfl⟩, (BLX.out.setCell (p := ⟨w.heap.size, 0, none⟩) (Nat.le_refl _) _).setCell (p := ⟨w.heap.size, 1, none⟩) (Nat.le_refl _) _⟩
            rw [packB_none (HCH.out).2] at h
            cases h
          · obtain ⟨hbx, hq⟩ := RX.out
            have k1 := hbx.cell 1
            have k2 := hbx.cell 2
            simp at k1 k2
            clear hbx
            by_cases hqn : q = n
            · obtain rfl : n = q := hqn.symm
              have d1 : ((n : Int) == (n : Int)) = true := by simp
              have d2 : ((n : Int) != (n : Int)) = false := by simp
              have HPB := Lib.hid (packB_on (HCH.out).2 (HL.out).symm (HCH.out).1)
              have hfit5 := Lib.hid (HFIT.out _ _ HPB.out)
              have hlow : w.heap.size ≤ w0.heap.size := by have := HS0.out; omega
              have HC1 : Hid (Chg w5 (w5.setCell ⟨w0.heap.size, 1, none⟩ (.slice B ks.length cc)) (fun k => k = w0.heap.size ∨ k = w.heap.size)) := (Chg.refl w5 _).setCell (p := ⟨w0.heap.size, 1, none⟩) (.inl (.inl rfl)) _
              have HOK := Lib.hid (PLoop.ok (cc := cc) (ge := w.heap.size) HR.out HG.out hk5.out HKB.out hfit5.out HC1.out hlow)
              have HVAL : Hid (Calls Tryd.prog 21 #[.agg #[.slice lA i lc, .slice B ks.length cc]] (w5.setCell ⟨w0.heap.size, 1, none⟩ (.slice B ks.length cc)) (RetB (w5.setCell ⟨w0.heap.size, 1, none⟩ (.slice B ks.length cc)) (validP (ps.map PX.plain) ks))) := by
                have hv := valid_any _ _ HOK.out ((HT.out).below BLX.out)
                unfold Hid
                rw [← (HR.out).len]
                exact hv
              clear hqn hq hlow HOK
              go_wp2_with fail
              refine (HVAL.out).mono ?_
              rintro e w7 ⟨bv, hbv, rfl, hb7⟩
              have EX7 := Lib.hid ((EX.out).below hb7 (EX.out).lt)
              have BX7 := Lib.hid ((BX.out).below hb7 (BX.out).lt)
              have BL7 := Lib.hid ((BLX.out).trans (hb7.mono (BLX.out).size))
              have HC7 := Lib.hid ((HC1.out).trans (Chg.of_low hb7) (fun _ _ h => h))
              have HBV := Lib.hid hbv
              have g0 := (EX7.out).cell 0
              have g1 := (EX7.out).cell 1
              have u0 := (EX7.out).frozen 0
              have u1 := (EX7.out).frozen 1
              have y0 := (BX7.out).cell 0
              have y1 := (BX7.out).cell 1
              simp at g0 g1 y0 y1
              clear hbv hb7 HVAL
              cases bv
              · have HE := Lib.hid (((EX7.out).set_ 0 (.slice none 0 0)).set_ 1 (.slice none 0 0))
                have x0 := HE.out.cell 0
                have x1 := HE.out.cell 1
                simp at x0 x1
                go_wp2_with fail
                refine bodyPost_ret (v := .tuple #[.agg #[.slice none 0 0, .slice none 0 0], .int .i64 13]) (by simp [results, Tryd.results33, go_sem, x0, x1]) rfl ?_
                refine ⟨.inr ⟨fun ns rs h hv => ?_, rfl⟩, (BL7.out.setCell (p := ⟨w.heap.size, 0, none⟩) (Nat.le_refl _) _).setCell (p := ⟨w.heap.size, 1, none⟩) (Nat.le_refl _) _⟩
                have h2 := HPB.out
                rw [h] at h2
                injection h2 with h2
                injection h2 with h3 h4
                rw [h3, h4] at hv
                cases (HBV.out).2 hv
              · have HE := Lib.hid (((EX7.out).set_ 0 (.slice lA i lc)).set_ 1 (.slice B ks.length cc))
                have x0 := HE.out.cell 0
                have x1 := HE.out.cell 1
                simp at x0 x1
                go_wp2_with fail
                refine bodyPost_ret (v := .tuple #[.agg #[.slice lA i lc, .slice B ks.length cc], .int .i64 0]) (by simp [results, Tryd.results33, go_sem, x0, x1]) rfl ?_
                have hlow : w.heap.size ≤ w0.heap.size := by have := HS0.out; omega
                refine ⟨.inl ⟨⟨lA, ps, lc, B, ks, cc⟩, HPB.out, (HBV.out).1 trivial, ?_, ?_⟩, (BL7.out.setCell (p := ⟨w.heap.size, 0, none⟩) (Nat.le_refl _) _).setCell (p := ⟨w.heap.size, 1, none⟩) (Nat.le_refl _) _⟩
                · show _ = Ending.returned (.tuple #[.agg #[.slice lA ps.length lc, .slice B ks.length cc], .int .i64 0])
                  rw [(HR.out).len]
                · exact PLoop.ok (ge := w.heap.size) HR.out HG.out hk5.out HKB.out hfit5.out (((HC7.out).setCell (p := ⟨w.heap.size, 0, none⟩) (.inl (.inr rfl)) _).setCell (p := ⟨w.heap.size, 1, none⟩) (.inl (.inr rfl)) _) hlow
            · have d1 : ((q : Int) == (n : Int)) = false := by simp; omega
              have d2 : ((q : Int) != (n : Int)) = true := by simp; omega
              have HE := Lib.hid (((EX.out).set_ 0 (.slice none 0 0)).set_ 1 (.slice none 0 0))
              have x0 := HE.out.cell 0
              have x1 := HE.out.cell 1
              simp at x0 x1
              have HQN := Lib.hid (packB_off (HCH.out).2 (by rw [HL.out]; exact hqn))
              clear hqn hq
              go_wp2_with fail
              refine bodyPost_ret (v := .tuple #[.agg #[.slice none 0 0, .slice none 0 0], .int .i64 13]) (by simp [results, Tryd.results33, go_sem, x0, x1]) rfl ?_
              refine ⟨.inr ⟨fun ns rs h => ?_, rfl⟩, (BLX.out.setCell (p := ⟨w.heap.size, 0, none⟩) (Nat.le_refl _) _).setCell (p := ⟨w.heap.size, 1, none⟩) (Nat.le_refl _) _⟩
              rw [HQN.out] at h
              cases h
      · have him : ¬ i < m := by have := he.resolve_right (by simp); omega
        have dim : decide (((m - i : Nat) : Int) > 0) = false := by simp; omega
        have dim2 : decide (0 < m - i) = false := by simp; omega
        clear he
        go_wp2_with fail
        refine (pnumbers_any (HR.out).mid.rd (HR.out).mid.inn).mono ?_
        rintro e w5 ⟨B, cc, ks, rfl, K5, hrk, hkB, hrd, hg⟩
        have hk5 : Hid (Reads w5 w5.heap.size 1 B ks.length (ks.map (Value.int .i64))) := by have := hrk; rw [flat_one] at this; exact this
        have HKB := Lib.hid hkB
        have HG := Lib.hid hg
        have M5 := Lib.hid ((HR.out).mid.next hrd hg)
        have h3' := (HD.out).2
        have k3' := (HD.out).1
        rw [← ho3.out, ← list_count] at h3' k3'
        have hch := pack_chain h3' k3' rfl (k := ks) (fun y hy => by have := (K5 y hy).1; rw [List.map_id] at this; exact this)
        have B5 := Lib.hid ((HR.out).box.grown hg (by have := HS0.out; intro e; injection e; omega))
        have E5 : Hid (Blk w5 w.heap.size 29 #[.slice none 0 0, .slice none 0 0]) := (HRES.out).grown (M5.out).gr (by intro e; injection e; omega)
        have BL5 : Hid (Below w.heap.size w w5) := hbel.out.grown (M5.out).gr (by have := HS0.out; omega) (fun k hk => by injection hk; omega)
        have b0 := (B5.out).cell 0
        have b1 := (B5.out).cell 1
        have z1 := (B5.out).frozen 1
        simp at b0 b1
        have BX : Hid (Blk (w5.setCell ⟨w0.heap.size, 1, none⟩ (.slice B ks.length cc)) w0.heap.size 29 #[.slice lA i lc, .slice B ks.length cc]) := (B5.out).set_ 1 _
        have hne0 : w.heap.size ≠ w0.heap.size := by have := HS0.out; omega
        have hne2 : w.heap.size + 1 ≠ w0.heap.size := by have := HS0.out; omega
        have EX : Hid (Blk (w5.setCell ⟨w0.heap.size, 1, none⟩ (.slice B ks.length cc)) w.heap.size 29 #[.slice none 0 0, .slice none 0 0]) := (E5.out).far (p := ⟨w0.heap.size, 1, none⟩) hne0 _
        have BLX : Hid (Below w.heap.size w (w5.setCell ⟨w0.heap.size, 1, none⟩ (.slice B ks.length cc))) := (BL5.out).setCell (p := ⟨w0.heap.size, 1, none⟩) (by have := HS0.out; show w.heap.size ≤ w0.heap.size; omega) _
        have RX := Lib.hid ((M5.out).rd.far (p := ⟨w0.heap.size, 1, none⟩) hne2 (.slice B ks.length cc))
        clear hrk hkB hrd hg h3' k3' K5
        generalize (Option.map (fun x : List Int × Nat => x.2) ((some q').bind (listP (numP bs) bs))) = s4 at RX hch
        have HCH := Lib.hid hch
        clear hch
        have e0 := (EX.out).cell 0
        have e1' := (EX.out).cell 1
        have t0 := (EX.out).frozen 0
        have t1 := (EX.out).frozen 1
        have bx0 := (BX.out).cell 0
        have bx1 := (BX.out).cell 1
        simp at e0 e1' bx0 bx1
        rcases s4 with _ | q
        · obtain ⟨zz, hbx⟩ := RX.out
          have k2 := hbx.cell 2
          simp at k2
          have HE := Lib.hid (((EX.out).set_ 0 (.slice none 0 0)).set_ 1 (.slice none 0 0))
          have x0 := HE.out.cell 0
          have x1 := HE.out.cell 1
          simp at x0 x1
          clear hbx
          go_wp2_with fail
          refine bodyPost_ret (v := .tuple #[.agg #[.slice none 0 0, .slice none 0 0], .int .i64 13]) (by simp [results, Tryd.results33, go_sem, x0, x1]) rfl ?_
          refine ⟨.inr ⟨fun ns rs h => ?_, rfl⟩, (BLX.out.setCell (p := ⟨w.heap.size, 0, none⟩) (Nat.le_refl _) _).setCell (p := ⟨w.heap.size, 1, none⟩) (Nat.le_refl _) _⟩
          rw [packB_none (HCH.out).2] at h
          cases h
        · obtain ⟨hbx, hq⟩ := RX.out
          have k1 := hbx.cell 1
          have k2 := hbx.cell 2
          simp at k1 k2
          clear hbx
          by_cases hqn : q = n
          · obtain rfl : n = q := hqn.symm
            have d1 : ((n : Int) == (n : Int)) = true := by simp
            have d2 : ((n : Int) != (n : Int)) = false := by simp
            have HPB := Lib.hid (packB_on (HCH.out).2 (HL.out).symm (HCH.out).1)
            have hfit5 := Lib.hid (HFIT.out _ _ HPB.out)
            have hlow : w.heap.size ≤ w0.heap.size := by have := HS0.out; omega
            have HC1 : Hid (Chg w5 (w5.setCell ⟨w0.heap.size, 1, none⟩ (.slice B ks.length cc)) (fun k => k = w0.heap.size ∨ k = w.heap.size)) := (Chg.refl w5 _).setCell (p := ⟨w0.heap.size, 1, none⟩) (.inl (.inl rfl)) _
            have HOK := Lib.hid (PLoop.ok (cc := cc) (ge := w.heap.size) HR.out HG.out hk5.out HKB.out hfit5.out HC1.out hlow)
            have HVAL : Hid (Calls Tryd.prog 21 #[.agg #[.slice lA i lc, .slice B ks.length cc]] (w5.setCell ⟨w0.heap.size, 1, none⟩ (.slice B ks.length cc)) (RetB (w5.setCell ⟨w0.heap.size, 1, none⟩ (.slice B ks.length cc)) (validP (ps.map PX.plain) ks))) := by
              have hv := valid_any _ _ HOK.out ((HT.out).below BLX.out)
              unfold Hid
              rw [← (HR.out).len]
              exact hv
            clear hqn hq hlow HOK
            go_wp2_with fail
            refine (HVAL.out).mono ?_
            rintro e w7 ⟨bv, hbv, rfl, hb7⟩
            have EX7 := Lib.hid ((EX.out).below hb7 (EX.out).lt)
            have BX7 := Lib.hid ((BX.out).below hb7 (BX.out).lt)
            have BL7 := Lib.hid ((BLX.out).trans (hb7.mono (BLX.out).size))
            have HC7 := Lib.hid ((HC1.out).trans (Chg.of_low hb7) (fun _ _ h => h))
            have HBV := Lib.hid hbv
            have g0 := (EX7.out).cell 0
            have g1 := (EX7.out).cell 1
            have u0 := (EX7.out).frozen 0
            have u1 := (EX7.out).frozen 1
            have y0 := (BX7.out).cell 0
            have y1 := (BX7.out).cell 1
            simp at g0 g1 y0 y1
            clear hbv hb7 HVAL
            cases bv
            · have HE := Lib.hid (((EX7.out).set_ 0 (.slice none 0 0)).set_ 1 (.slice none 0 0))
              have x0 := HE.out.cell 0
              have x1 := HE.out.cell 1
              simp at x0 x1
              go_wp2_with fail
              refine bodyPost_ret (v := .tuple #[.agg #[.slice none 0 0, .slice none 0 0], .int .i64 13]) (by simp [results, Tryd.results33, go_sem, x0, x1]) rfl ?_
              refine ⟨.inr ⟨fun ns rs h hv => ?_, rfl⟩, (BL7.out.setCell (p := ⟨w.heap.size, 0, none⟩) (Nat.le_refl _) _).setCell (p := ⟨w.heap.size, 1, none⟩) (Nat.le_refl _) _⟩
              have h2 := HPB.out
              rw [h] at h2
              injection h2 with h2
              injection h2 with h3 h4
              rw [h3, h4] at hv
              cases (HBV.out).2 hv
            · have HE := Lib.hid (((EX7.out).set_ 0 (.slice lA i lc)).set_ 1 (.slice B ks.length cc))
              have x0 := HE.out.cell 0
              have x1 := HE.out.cell 1
              simp at x0 x1
              go_wp2_with fail
              refine bodyPost_ret (v := .tuple #[.agg #[.slice lA i lc, .slice B ks.length cc], .int .i64 0]) (by simp [results, Tryd.results33, go_sem, x0, x1]) rfl ?_
              have hlow : w.heap.size ≤ w0.heap.size := by have := HS0.out; omega
              refine ⟨.inl ⟨⟨lA, ps, lc, B, ks, cc⟩, HPB.out, (HBV.out).1 trivial, ?_, ?_⟩, (BL7.out.setCell (p := ⟨w.heap.size, 0, none⟩) (Nat.le_refl _) _).setCell (p := ⟨w.heap.size, 1, none⟩) (Nat.le_refl _) _⟩
              · show _ = Ending.returned (.tuple #[.agg #[.slice lA ps.length lc, .slice B ks.length cc], .int .i64 0])
                rw [(HR.out).len]
              · exact PLoop.ok (ge := w.heap.size) HR.out HG.out hk5.out HKB.out hfit5.out (((HC7.out).setCell (p := ⟨w.heap.size, 0, none⟩) (.inl (.inr rfl)) _).setCell (p := ⟨w.heap.size, 1, none⟩) (.inl (.inr rfl)) _) hlow
          · have d1 : ((q : Int) == (n : Int)) = false := by simp; omega
            have d2 : ((q : Int) != (n : Int)) = true := by simp; omega
            have HE := Lib.hid (((EX.out).set_ 0 (.slice none 0 0)).set_ 1 (.slice none 0 0))
            have x0 := HE.out.cell 0
            have x1 := HE.out.cell 1
            simp at x0 x1
            have HQN := Lib.hid (packB_off (HCH.out).2 (by rw [HL.out]; exact hqn))
            clear hqn hq
            go_wp2_with fail
            refine bodyPost_ret (v := .tuple #[.agg #[.slice none 0 0, .slice none 0 0], .int .i64 13]) (by simp [results, Tryd.results33, go_sem, x0, x1]) rfl ?_
            refine ⟨.inr ⟨fun ns rs h => ?_, rfl⟩, (BLX.out.setCell (p := ⟨w.heap.size, 0, none⟩) (Nat.le_refl _) _).setCell (p := ⟨w.heap.size, 1, none⟩) (Nat.le_refl _) _⟩
            rw [HQN.out] at h
            cases h

theorem PkV.ok.fitV {v : PkV} {w : World} {B : Nat} (h : v.ok w B) : FitV v.ns v.rs := by
  refine ⟨by rw [v.ns_len]; exact h.nl, h.rl, h.rr, fun x hx => ?_⟩
  obtain ⟨p, hp, rfl⟩ := List.mem_map.1 hx
  have := h.each p hp
  exact ⟨this.kind, this.text, this.lk, this.ll, this.kl, this.kk⟩
/-- few and short -/
def smallP (ns : List PN) (rs : List Int) : Prop := ns.length ≤ 60 ∧ rs.length ≤ 60 ∧ ∀ x ∈ ns, x.2.1.size ≤ 1 ∧ x.2.2.1.length ≤ 1 ∧ (∀ s ∈ x.2.2.1, s.size ≤ 1) ∧ x.2.2.2.length ≤ 60
theorem puts_tiny {ts : List T} (hg : ∀ t ∈ ts, tiny t) (hs : T.sizes ts ≤ 60) : smallP (T.puts ts []).1 (T.puts ts []).2 := by
  have h4 := (T.puts_size ts []).2
  simp only [List.length_nil, Nat.zero_add] at h4
  have h5 := congrArg List.length (puts_back ts).2.2
  have h6 := len_sizes ts
  unfold treesP at h5
  rw [List.length_map] at h5
  refine ⟨by omega, by omega, fun x hx => ?_⟩
  obtain ⟨-, h1, h2, -, -⟩ := T.puts_spec ts [] formN_nil List.nodup_nil
  have h3 := T.puts_mem ts [] formN_nil List.nodup_nil
  obtain ⟨i, hi, e⟩ := List.getElem_of_mem hx
  have hxi : (T.puts ts []).1[i]? = some x := by rw [List.getElem?_eq_getElem hi, e]
  have hm := h3 i (by simp) hi
  have ht := trA_at h1 hxi
  have hsz := T.subsL_size ts _ hm
  obtain ⟨t, htm, hu⟩ := mem_subsL.1 hm
  have hgd := hg t htm _ hu
  rw [ht] at hsz hgd
  refine ⟨hgd.1, hgd.2.1, hgd.2.2.1, ?_⟩
  rw [T.size] at hsz
  have := len_sizes (x.2.2.2.map fun k => trA (T.puts ts []).1 k.toNat)
  rw [List.length_map] at this
  omega
theorem small_fit {ns : List PN} {rs : List Int} (h : FitV ns rs) (hs : smallP ns rs) : fitP ns rs := by
  obtain ⟨s1, s2, s3⟩ := hs
  obtain ⟨f1, f2, f3, f4⟩ := h
  refine ⟨by omega, fun x hx => ?_, by omega, f3⟩
  obtain ⟨a1, a2, a3, a4⟩ := s3 x hx
  obtain ⟨b1, b2, b3, b4, b5, b6⟩ := f4 x hx
  exact ⟨b1, by omega, ⟨by omega, fun l hl => by have := a3 l hl; omega⟩, by omega, b6⟩
theorem flatT_len {l : List ByteArray} (hs : ∀ s ∈ l, s.size ≤ 1) : (l.flatMap encT).length ≤ 11 * l.length := by
  induction l with
  | nil => simp
  | cons x l ih =>
    have h1 := encT_len (s := x) (by have := hs x (by simp); omega)
    have h2 := hs x (by simp)
    have h3 := ih (fun s hs' => hs s (by simp [hs']))
    rw [List.flatMap_cons, List.length_append, List.length_cons]
    omega
theorem flatN_len {l : List PN} {k : Nat} (hs : ∀ x ∈ l, (encN x).length ≤ k) : (l.flatMap encN).length ≤ k * l.length := by
  induction l with
  | nil => simp
  | cons x l ih =>
    have h1 := hs x (by simp)
    have h3 := ih (fun s hs' => hs s (by simp [hs']))
    rw [List.flatMap_cons, List.length_append, List.length_cons, Nat.mul_succ]
    omega
theorem small_len {ns : List PN} {rs : List Int} (h : FitV ns rs) (hs : smallP ns rs) : (encP ns rs).length ≤ 700000000 := by
  obtain ⟨s1, s2, s3⟩ := hs
  obtain ⟨f1, f2, f3, f4⟩ := h
  have hn : ∀ x ∈ ns, (encN x).length ≤ 700 := fun x hx => by
    obtain ⟨a1, a2, a3, a4⟩ := s3 x hx
    obtain ⟨b1, b2, b3, b4, b5, b6⟩ := f4 x hx
    have e1 := encI_len' (show inI64 x.1 from b1)
    have e2 := encT_len (s := x.2.1) (by omega)
    have e3 := encI_nat (n := x.2.2.1.length) (by omega)
    have e4 := flatT_len a3
    have e5 := encL_len (l := x.2.2.2) b6 (by omega)
    unfold encN
    simp only [List.length_append]
    omega
  have e1 := encI_nat (n := ns.length) (by omega)
  have e2 := flatN_len hn
  have e3 := encL_len (l := rs) f3 (by omega)
  unfold encP
  simp only [List.length_append]
  have : 700 * ns.length ≤ 700 * 60 := Nat.mul_le_mul_left _ s1
  omega
theorem encT_byte (s : ByteArray) : ∀ x ∈ encT s, x < 256 := fun x hx => by
  unfold encT at hx
  rcases List.mem_append.1 hx with h | h
  · exact encI_byte _ x h
  · exact txt_byte s x h
theorem encL_byte (l : List Int) : ∀ x ∈ encL l, x < 256 := fun x hx => by
  unfold encL at hx
  rcases List.mem_append.1 hx with h | h
  · exact encI_byte _ x h
  · obtain ⟨k, -, h⟩ := List.mem_flatMap.1 h
    exact encI_byte _ x h
theorem encN_byte (p : PN) : ∀ x ∈ encN p, x < 256 := fun x hx => by
  unfold encN at hx
  rcases List.mem_append.1 hx with h | h
  · exact encI_byte _ x h
  rcases List.mem_append.1 h with h | h
  · exact encT_byte _ x h
  rcases List.mem_append.1 h with h | h
  · exact encI_byte _ x h
  rcases List.mem_append.1 h with h | h
  · obtain ⟨k, -, h⟩ := List.mem_flatMap.1 h
    exact encT_byte _ x h
  · exact encL_byte _ x h
theorem encP_byte (ns : List PN) (rs : List Int) : ∀ x ∈ encP ns rs, x < 256 := fun x hx => by
  unfold encP at hx
  rcases List.mem_append.1 hx with h | h
  · exact encI_byte _ x h
  rcases List.mem_append.1 h with h | h
  · obtain ⟨k, -, h⟩ := List.mem_flatMap.1 h
    exact encN_byte _ x h
  · exact encL_byte _ x h
theorem acc_cap {w : World} {base n c : Nat} {A : Option Addr} {bs : List Nat} (h : Acc w base (.slice A n c) bs) (hn : bs.length = n) : n ≤ c := by
  rcases h.2 with ⟨h1, h2⟩ | ⟨g, cap, cur, h1, -, -, h2, -⟩
  · injection h1 with _ h3 h4; omega
  · injection h1 with _ h3 h4; omega
end Go.Proofs.YtdabmjcpiblofaaDoor
