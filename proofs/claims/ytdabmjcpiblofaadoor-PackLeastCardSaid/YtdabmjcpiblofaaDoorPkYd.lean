/-
  The parser of packs: node. No condition.
-/
import Derived.Test.YtdabmjcpiblofaaDoorPkU
import Derived.Test.YtdabmjcpiblofaaDoorPkY
namespace Go.Proofs.YtdabmjcpiblofaaDoor
open Go.RowKit
set_option linter.unusedVariables false

/-- what node knows between two calls: its result's box at g, the node's own box behind it -/
structure NMid (w0 w : World) (r g : Nat) (A : Option Addr) (n c : Nat) (bs : List Nat) (s : Option Nat) (a b d e : Value) : Prop where
  mid : LMid w0 w r A n c bs s
  box : Blk w (g + 1) 48 #[a, b, d, e]
  out : Blk w g 48 #[.int .i64 0, .string ⟨#[]⟩, .slice none 0 0, .slice none 0 0]
  new : w0.heap.size ≤ g
section
variable {w0 w w' : World} {r g n c : Nat} {A : Option Addr} {bs : List Nat} {s s' : Option Nat} {a b d e : Value}
theorem NMid.next (h : NMid w0 w r g A n c bs s a b d e) (hr : PRd w' r A n c s') (hg : w.grownBy w' (some r)) : NMid w0 w' r g A n c bs s' a b d e :=
  ⟨h.mid.next hr hg, h.box.grown hg (by have := h.new; have := h.mid.old; intro e; injection e; omega), h.out.grown hg (by have := h.new; have := h.mid.old; intro e; injection e; omega), h.new⟩
theorem NMid.drewN (h : NMid w0 w r g A n c bs s a b d e) (k : Nat) : NMid w0 (w.drewN k) r g A n c bs s a b d e := ⟨h.mid.drewN k, h.box, h.out, h.new⟩
theorem NMid.put0 (h : NMid w0 w r g A n c bs s a b d e) (u : Value) : NMid w0 (w.setCell ⟨g + 1, 0, none⟩ u) r g A n c bs s u b d e :=
  ⟨h.mid.setCell (by have := h.new; show _ ≤ g + 1; omega) u, h.box.set_ 0 u, h.out.far (by show g ≠ g + 1; omega) u, h.new⟩
theorem NMid.put1 (h : NMid w0 w r g A n c bs s a b d e) (u : Value) : NMid w0 (w.setCell ⟨g + 1, 1, none⟩ u) r g A n c bs s a u d e :=
  ⟨h.mid.setCell (by have := h.new; show _ ≤ g + 1; omega) u, h.box.set_ 1 u, h.out.far (by show g ≠ g + 1; omega) u, h.new⟩
theorem NMid.put2 (h : NMid w0 w r g A n c bs s a b d e) (u : Value) : NMid w0 (w.setCell ⟨g + 1, 2, none⟩ u) r g A n c bs s a b u e :=
  ⟨h.mid.setCell (by have := h.new; show _ ≤ g + 1; omega) u, h.box.set_ 2 u, h.out.far (by show g ≠ g + 1; omega) u, h.new⟩
theorem NMid.put3 (h : NMid w0 w r g A n c bs s a b d e) (u : Value) : NMid w0 (w.setCell ⟨g + 1, 3, none⟩ u) r g A n c bs s a b d u :=
  ⟨h.mid.setCell (by have := h.new; show _ ≤ g + 1; omega) u, h.box.set_ 3 u, h.out.far (by show g ≠ g + 1; omega) u, h.new⟩
theorem NMid.grows {v v' : Value} (h : NMid w0 w r g A n c bs s a b d e) (hg : Grows w w' v v') (hv : ∀ k, v.ownBlock = some k → g + 2 ≤ k) : NMid w0 w' r g A n c bs s a b d e :=
  ⟨h.mid.grows hg (fun k hk => by have := hv k hk; have := h.new; omega), hg.blk h.box (fun e => by have := hv _ e; omega), hg.blk h.out (fun e => by have := hv _ e; omega), h.new⟩
theorem NMid.alloc (h : NMid w0 w r g A n c bs s a b d e) (o : Obj) : NMid w0 (w.alloc o) r g A n c bs s a b d e := ⟨h.mid.alloc o, h.box.alloc o, h.out.alloc o, h.new⟩
end
/-- what its loop knows -/
structure NLoop (w0 wr : World) (r g : Nat) (A : Option Addr) (n c : Nat) (bs : List Nat) (o : Option (Nat × Nat)) (m i : Nat) (s : Option Nat) (xs : List ByteArray) (v kd tx : Value) : Prop where
  le : i ≤ m
  len : xs.length = i
  st : (o.bind fun y => manyP (textP bs) i y.2).map (·.2) = s
  xs_ : ∀ z, (o.bind fun y => manyP (textP bs) i y.2) = some z → z.1 = xs
  own : wr.ownsRow (g + 2) 9 1 v i (xs.map Value.string)
  nm : NMid w0 wr r g A n c bs s kd tx v (.slice none 0 0)
  hg : g + 2 ≤ wr.heap.size
section
variable {w0 wr w5 w6 : World} {r g n c m i : Nat} {A : Option Addr} {bs : List Nat} {o : Option (Nat × Nat)} {s : Option Nat} {xs : List ByteArray} {v v6 kd tx : Value} {a : ByteArray}
theorem NLoop.step (h : NLoop w0 wr r g A n c bs o m i s xs v kd tx) (him : i < m) (ka : ∀ y, s.bind (textP bs) = some y → y.1 = a) (hr : PRd w5 r A n c ((s.bind (textP bs)).map (·.2))) (hg : wr.grownBy w5 (some r)) (ob : Obj)
    (hown : w6.ownsRow (g + 2) 9 1 v6 (i + 1) (xs.map Value.string ++ [.string a])) (hgr : Grows (w5.alloc ob) w6 v v6) : NLoop w0 (w6.setCell ⟨g + 1, 2, none⟩ v6) r g A n c bs o m (i + 1) ((s.bind (textP bs)).map (·.2)) (xs ++ [a]) v6 kd tx := by
  have hn1 := ((h.nm.next hr hg).alloc ob).grows hgr (fun k hk => own_ge h.own hk)
  have hs6 := hgr.grown.size
  have hs5 := hg.size
  refine ⟨him, by rw [List.length_append, h.len]; rfl, ?_, fun z hz => ?_, ?_, hn1.put2 v6, ?_⟩
  · rw [← h.st]
    rcases o with _ | y
    · rfl
    · simp only [Option.bind_some]
      rw [manyP_snoc]
      cases manyP (textP bs) i y.2 with
      | none => rfl
      | some z =>
        show ((textP bs z.2).map _).map _ = (textP bs z.2).map _
        cases textP bs z.2 <;> rfl
  · rcases o with _ | y
    · cases hz
    · simp only [Option.bind_some] at hz
      rw [manyP_snoc] at hz
      obtain ⟨y1, hy1, hz⟩ := Option.bind_eq_some_iff.1 hz
      obtain ⟨x, hx, rfl⟩ := Option.map_eq_some_iff.1 hz
      have e1 := h.xs_ y1 hy1
      have e2 := h.st
      simp only [Option.bind_some] at e2
      rw [hy1] at e2
      have e3 := ka x (by rw [← e2]; exact hx)
      rw [e1, e3]
  · rw [List.map_append]
    exact hown.kept (only_setCell (g := g + 1) (World.grownBy.refl w6 _) (.inl rfl) v6) (.inr (own_ne hown (by omega)))
  · simp at hs6 ⊢
    have := h.hg
    omega
/-- at the loop's end -/
theorem NLoop.done (h : NLoop w0 wr r g A n c bs o m i s xs v kd tx) (he : i = m ∨ s = none) (hm : ∀ y, o = some y → y.1 = m) : (∀ z, (o.bind fun y => manyP (textP bs) y.1 y.2) = some z → z.1 = xs) ∧ (o.bind fun y => manyP (textP bs) y.1 y.2).map (·.2) = s := by
  rcases o with _ | y
  · exact ⟨(fun z hz => by cases hz), h.st⟩
  · have e1 := h.st
    have e2 := h.xs_
    simp only [Option.bind_some] at e1 e2 ⊢
    rw [hm y rfl]
    rcases he with rfl | he
    · exact ⟨e2, e1⟩
    · have h1 : manyP (textP bs) i y.2 = none := by
        rw [he] at e1
        simpa using e1
      rw [manyP_none m i y.2 h.le h1, he]
      exact ⟨(fun z hz => by cases hz), rfl⟩
end
theorem node_chain {bs : List Nat} {s s1 s2 s3 s4 : Option Nat} {a : Int} {t : ByteArray} {l : List ByteArray} {k : List Int}
    (h1 : (s.bind (numP bs)).map (·.2) = s1) (k1 : ∀ y, s.bind (numP bs) = some y → y.1 = a)
    (h2 : (s1.bind (textP bs)).map (·.2) = s2) (k2 : ∀ y, s1.bind (textP bs) = some y → y.1 = t)
    (h3 : (s2.bind (listP (textP bs) bs)).map (·.2) = s3) (k3 : ∀ y, s2.bind (listP (textP bs) bs) = some y → y.1 = l)
    (h4 : (s3.bind (listP (numP bs) bs)).map (·.2) = s4) (k4 : ∀ y, s3.bind (listP (numP bs) bs) = some y → y.1 = k) :
    (∀ z, s.bind (nodeP bs) = some z → z.1 = (a, t, l, k)) ∧ (s.bind (nodeP bs)).map (·.2) = s4 := by
  subst h1 h2 h3 h4
  rcases s with _ | p
  · exact ⟨(fun z hz => by cases hz), rfl⟩
  simp only [Option.bind_some] at *
  unfold nodeP
  rcases e1 : numP bs p with _ | y1
  · exact ⟨(fun z hz => by cases hz), rfl⟩
  simp only [e1, Option.map_some, Option.bind_some] at *
  rcases e2 : textP bs y1.2 with _ | y2
  · exact ⟨(fun z hz => by cases hz), rfl⟩
  simp only [e2, Option.map_some, Option.bind_some] at *
  rcases e3 : listP (textP bs) bs y2.2 with _ | y3
  · exact ⟨(fun z hz => by cases hz), rfl⟩
  simp only [e3, Option.map_some, Option.bind_some] at *
  rcases e4 : listP (numP bs) bs y3.2 with _ | y4
  · exact ⟨(fun z hz => by cases hz), rfl⟩
  simp only [e4, Option.map_some] at *
  refine ⟨fun z hz => ?_, trivial⟩
  injection hz with hz
  subst hz
  rw [k1 _ rfl, k2 _ rfl, k3 _ rfl, k4 _ rfl]
theorem Reads.spare {w : World} {B n : Nat} {A : Option Addr} {xs : List Value} {p : Addr} (h : Reads w B 1 A n xs) (hA : ∀ ad, A = some ad → ad.block ≠ p.block) (u : Value) : Reads (w.setCell p u) B 1 A n xs := by
  refine ⟨h.1, fun hn => ?_⟩
  obtain ⟨ad, e, hb, hc⟩ := h.2 hn
  refine ⟨ad, e, hb, fun j v hv => ?_⟩
  rw [World.cell?_setCell_other]
  · exact hc j v hv
  · intro e2
    exact hA ad e (by rw [e2, block_of_add])
theorem flat_one {α : Type} (f : α → Value) (l : List α) : (l.flatMap fun x => [f x]) = l.map f := by
  induction l with
  | nil => rfl
  | cons x l ih => rw [List.flatMap_cons, ih]; rfl

/-- the node that was read: its rows are new -/
def NodeAt (w w' : World) (p : PX) : Prop :=
  Reads w' w'.heap.size 1 p.lA p.leads.length (p.leads.map Value.string) ∧ (∀ ad, p.lA = some ad → w.heap.size ≤ ad.block ∧ ad.block < w'.heap.size) ∧
  Reads w' w'.heap.size 1 p.kA p.kids.length (p.kids.map (Value.int .i64)) ∧ (∀ ad, p.kA = some ad → w.heap.size ≤ ad.block ∧ ad.block < w'.heap.size)
def ReadNode (w : World) (r : Nat) (A : Option Addr) (n c : Nat) (o : Option (PN × Nat)) (e : Ending) (w' : World) : Prop :=
  ∃ p : PX, e = .returned (.agg #[.int .i64 p.kind, .string p.text, .slice p.lA p.leads.length p.lc, .slice p.kA p.kids.length p.kc]) ∧ (∀ z, o = some z → z.1 = p.plain) ∧ NodeAt w w' p ∧ PRd w' r A n c (o.map (·.2)) ∧ w.grownBy w' (some r)
theorem string_info' : (Tryd.prog.info? 9).map (fun i => (i.zero, i.size, i.bytes)) = some (some (.string ⟨#[]⟩), 1, 16) := by kernel_rfl

theorem node_end {w w5 : World} {r g n c i lc cc : Nat} {A lA B : Option Addr} {bs : List Nat} {s4 : Option Nat} {o : Option (PN × Nat)} {kd : Int} {tx : ByteArray} {xs : List ByteArray} {ks : List Int} (hlen : xs.length = i)
    (hl : w5.ownsRow (g + 2) 9 1 (.slice lA i lc) i (xs.map Value.string)) (hk : Reads w5 w5.heap.size 1 B ks.length (ks.map (Value.int .i64))) (hkB : ∀ ad, B = some ad → g + 2 ≤ ad.block ∧ ad.block < w5.heap.size)
    (hn : NMid w w5 r g A n c bs s4 (.int .i64 kd) (.string tx) (.slice lA i lc) (.slice none 0 0)) (hch : (∀ z, o = some z → z.1 = (kd, tx, xs, ks)) ∧ o.map (·.2) = s4) :
    ReadNode w r A n c o (.returned (.agg #[.int .i64 kd, .string tx, .slice lA i lc, .slice B ks.length cc])) (((((w5.setCell ⟨g + 1, 3, none⟩ (.slice B ks.length cc)).setCell ⟨g, 0, none⟩ (.int .i64 kd)).setCell ⟨g, 1, none⟩ (.string tx)).setCell ⟨g, 2, none⟩ (.slice lA i lc)).setCell ⟨g, 3, none⟩ (.slice B ks.length cc)) := by
  subst hlen
  have hnew := hn.new
  have hold := hn.mid.old
  have k1 := ((((hl.kept (only_setCell (p := ⟨g + 1, 3, none⟩) (g := g + 1) (World.grownBy.refl _ _) (.inl rfl) (.slice B ks.length cc)) (.inr (own_ne hl (by omega)))).kept (only_setCell (p := ⟨g, 0, none⟩) (g := g) (World.grownBy.refl _ _) (.inl rfl) (.int .i64 kd)) (.inr (own_ne hl (by omega)))).kept (only_setCell (p := ⟨g, 1, none⟩) (g := g) (World.grownBy.refl _ _) (.inl rfl) (.string tx)) (.inr (own_ne hl (by omega)))).kept (only_setCell (p := ⟨g, 2, none⟩) (g := g) (World.grownBy.refl _ _) (.inl rfl) (.slice lA xs.length lc)) (.inr (own_ne hl (by omega)))).kept (only_setCell (p := ⟨g, 3, none⟩) (g := g) (World.grownBy.refl _ _) (.inl rfl) (.slice B ks.length cc)) (.inr (own_ne hl (by omega)))
  obtain ⟨lA', lc', e, hr, hb⟩ := own_reads k1
  injection e with e1 _ e2
  subst e1 e2
  have m1 := ((((hn.mid.setCell (p := ⟨g + 1, 3, none⟩) (by show _ ≤ g + 1; omega) (.slice B ks.length cc)).setCell (p := ⟨g, 0, none⟩) hnew (.int .i64 kd)).setCell (p := ⟨g, 1, none⟩) hnew (.string tx)).setCell (p := ⟨g, 2, none⟩) hnew (.slice lA xs.length lc)).setCell (p := ⟨g, 3, none⟩) hnew (.slice B ks.length cc)
  have hf : ∀ (q : Addr), q.block = g ∨ q.block = g + 1 → ∀ ad, B = some ad → ad.block ≠ q.block := fun q hq ad e => by have := hkB ad e; omega
  have r1 := ((((hk.spare (p := ⟨g + 1, 3, none⟩) (hf _ (.inr rfl)) (.slice B ks.length cc)).spare (p := ⟨g, 0, none⟩) (hf _ (.inl rfl)) (.int .i64 kd)).spare (p := ⟨g, 1, none⟩) (hf _ (.inl rfl)) (.string tx)).spare (p := ⟨g, 2, none⟩) (hf _ (.inl rfl)) (.slice lA xs.length lc)).spare (p := ⟨g, 3, none⟩) (hf _ (.inl rfl)) (.slice B ks.length cc)
  refine ⟨⟨kd, tx, lA, xs, lc, B, ks, cc⟩, rfl, hch.1, ⟨hr, fun ad e => ⟨by have := hb ad e; omega, (hb ad e).2⟩, ?_, fun ad e => ⟨by have := hkB ad e; omega, ?_⟩⟩, ?_, m1.gr⟩
  · have := r1.more (B' := (((((w5.setCell ⟨g + 1, 3, none⟩ (.slice B ks.length cc)).setCell ⟨g, 0, none⟩ (.int .i64 kd)).setCell ⟨g, 1, none⟩ (.string tx)).setCell ⟨g, 2, none⟩ (.slice lA xs.length lc)).setCell ⟨g, 3, none⟩ (.slice B ks.length cc)).heap.size) (by simp)
    exact this
  · have := (hkB ad e).2
    simpa using this
  · rw [hch.2]; exact m1.rd

set_option maxRecDepth 100000 in
set_option maxHeartbeats 3200000 in
theorem pnode_any {w : World} {r n c : Nat} {A : Option Addr} {bs : List Nat} {s : Option Nat} (h : PRd w r A n c s) (hi : RdIn w r A n c bs) :
    Calls Tryd.prog 57 #[.pointer (some ⟨r, 0, none⟩)] w (ReadNode w r A n c (s.bind (nodeP bs))) := by
  have L0 : LMid w w r A n c bs s := ⟨h, hi, World.grownBy.refl w _, h.lt⟩
  have hro := h.lt
  obtain ⟨i0, hi0, hz0, hz1, hz2⟩ := info_parts string_info'
  have hb1 := Blk.new w 48 #[.int .i64 0, .string ⟨#[]⟩, .slice none 0 0, .slice none 0 0]
  have hb2 := Blk.new (w.alloc (.cells #[.int .i64 0, .string ⟨#[]⟩, .slice none 0 0, .slice none 0 0] 48)) 48 #[.int .i64 0, .string ⟨#[]⟩, .slice none 0 0, .slice none 0 0]
  have M0 : Hid (NMid w ((w.alloc (.cells #[.int .i64 0, .string ⟨#[]⟩, .slice none 0 0, .slice none 0 0] 48)).alloc (.cells #[.int .i64 0, .string ⟨#[]⟩, .slice none 0 0, .slice none 0 0] 48)) r w.heap.size A n c bs s (.int .i64 0) (.string ⟨#[]⟩) (.slice none 0 0) (.slice none 0 0)) := by
    refine ⟨(L0.alloc _).alloc _, ?_, hb1.alloc _, Nat.le_refl _⟩
    have e : (w.alloc (.cells #[.int .i64 0, .string ⟨#[]⟩, .slice none 0 0, .slice none 0 0] 48)).heap.size = w.heap.size + 1 := by simp
    rw [← e]
    exact hb2
  clear h hi L0 hb1 hb2
  go_enter Tryd.func57, Tryd.ntmps57
  go_wp2_with fail
  refine (pnumber_any (M0.out).mid.rd (M0.out).mid.inn).mono ?_
  rintro e w1 ⟨kd, rfl, K1, hrd, hg⟩
  replace K1 := Lib.hid K1
  have N1 := Lib.hid ((M0.out).next hrd hg)
  have M1 := Lib.hid ((N1.out).put0 (.int .i64 kd))
  have ck := (N1.out).box.cell 0
  have fk := (N1.out).box.frozen 0
  simp at ck
  clear hrd hg M0 N1
  go_wp2_with fail
  clear ck fk
  refine (ptext_any (M1.out).mid.rd (M1.out).mid.inn).mono ?_
  rintro e w2 ⟨tx, rfl, K2, hrd, hg⟩
  replace K2 := Lib.hid K2
  have N2 := Lib.hid ((M1.out).next hrd hg)
  have M2 := Lib.hid ((N2.out).put1 (.string tx))
  have ck := (N2.out).box.cell 1
  have fk := (N2.out).box.frozen 1
  simp at ck
  clear hrd hg M1 N2
  go_wp2_with fail
  clear ck fk
  refine (pcount_any (M2.out).mid.rd (M2.out).mid.inn).mono ?_
  rintro e w3 ⟨m, rfl, hm, K3, K3n, hrd, hg⟩
  have R0 : Hid (NLoop w w3 r w.heap.size A n c bs ((Option.map (·.2) ((Option.map (·.2) (s.bind (numP bs))).bind (textP bs))).bind (countP bs)) m 0 (Option.map (·.2) ((Option.map (·.2) ((Option.map (·.2) (s.bind (numP bs))).bind (textP bs))).bind (countP bs))) [] (.slice none 0 0) (.int .i64 kd) (.string tx)) := by
    have hn := (M2.out).next hrd hg
    refine ⟨Nat.zero_le _, rfl, ?_, fun z hz => ?_, ⟨rfl, .inl ⟨rfl, rfl⟩⟩, hn, hn.box.lt⟩
    · cases ((Option.map (·.2) ((Option.map (·.2) (s.bind (numP bs))).bind (textP bs))).bind (countP bs)) <;> rfl
    · generalize ((Option.map (·.2) ((Option.map (·.2) (s.bind (numP bs))).bind (textP bs))).bind (countP bs)) = o at hz
      rcases o with _ | y
      · cases hz
      · injection hz with hz
        rw [← hz]
  replace K3 := Lib.hid K3
  have hs1 : Hid (∃ s1, Option.map (·.2) (s.bind (numP bs)) = s1) := ⟨_, rfl⟩
  obtain ⟨s2, hs2⟩ : ∃ s2, Option.map (·.2) ((Option.map (·.2) (s.bind (numP bs))).bind (textP bs)) = s2 := ⟨_, rfl⟩
  rw [hs2] at R0 K3
  obtain ⟨o3, ho3⟩ : ∃ o3, s2.bind (countP bs) = o3 := ⟨_, rfl⟩
  rw [ho3] at R0 K3
  replace hs2 := Lib.hid hs2
  replace ho3 := Lib.hid ho3
  clear hrd hg M2 K3n hs1
  go_wp2_with fail
  go_loopw [4] (fun iv wr => ∃ (i : Nat) (s' : Option Nat) (xs : List ByteArray) (v : Value), iv = .int .i64 ((m - i : Nat) : Int) ∧ NLoop w wr r w.heap.size A n c bs o3 m i s' xs v (.int .i64 kd) (.string tx)) (fun iv _ => (intOf iv).toNat)
  case atStart => exact ⟨0, _, [], _, rfl, R0.out⟩
  case round =>
    obtain ⟨i, s', xs, v, rfl, hR⟩ := hrel
    have HR := Lib.hid hR
    have hle := hR.le
    obtain ⟨lA, lc, rfl, -, -⟩ := own_reads hR.own
    clear hR R0
    by_cases hgo : i < m ∧ s' ≠ none
    · obtain ⟨him, hs'⟩ := hgo
      obtain ⟨p, rfl⟩ := Option.ne_none_iff_exists'.1 hs'
      clear hs'
      have dim : decide (((m - i : Nat) : Int) > 0) = true := by simp; omega
      have dim2 : decide (0 < m - i) = true := by simp; omega
      have e1 : IntKind.i64.wrap (((m - i : Nat) : Int) - 1) = ((m - (i + 1) : Nat) : Int) := by rw [IntKind.wrap_i64]; omega
      have hb1 := (HR.out).nm.mid.rd.1
      have c2 := hb1.cell 2
      simp at c2
      clear hb1
      have HT : Hid (Calls Tryd.prog 73 #[.pointer (some ⟨r, 0, none⟩)] wr.drew (TextAny wr.drew r A n c (textP bs p))) := ptext_any (s := some p) ((HR.out).nm.drewN 1).mid.rd ((HR.out).nm.drewN 1).mid.inn
      have hne1 : some (w.heap.size + 1) ≠ some r := fun e => by injection e; omega
      have HC3 : Hid (∀ w', wr.drew.grownBy w' (some r) → w'.cell? ⟨w.heap.size + 1, 2, none⟩ = some (.slice lA i lc) ∧ w'.frozen? ⟨w.heap.size + 1, 2, none⟩ = false) := fun w' hb => by
        have h1 : Blk w' _ _ _ := (show Blk wr.drew _ _ _ from (HR.out).nm.box).grown hb hne1
        exact ⟨by rw [h1.cell]; rfl, h1.frozen 2⟩
      have HC4 : Hid (∀ w' o, wr.drew.grownBy w' (some r) → (w'.alloc o).cell? ⟨w.heap.size + 1, 2, none⟩ = some (.slice lA i lc)) := fun w' o hb => by
        have h1 : Blk w' _ _ _ := (show Blk wr.drew _ _ _ from (HR.out).nm.box).grown hb hne1
        have h2 := h1.alloc o
        rw [h2.cell]; rfl
      have HOW : Hid (∀ w5 o, wr.drew.grownBy w5 (some r) → (w5.alloc o).ownsRow (w.heap.size + 2) 9 1 (.slice lA i lc) i (xs.map Value.string)) := fun w5 o hb =>
        (World.ownsRow.kept (show wr.drew.ownsRow _ _ _ _ _ _ from (HR.out).own) hb (.inr (own_ne (HR.out).own (by omega)))).alloc o
      have HNX : Hid (∀ (w5 w6 : World) (a : ByteArray) (v6 : Value) (o : Obj), (∀ y, textP bs p = some y → y.1 = a) → PRd w5 r A n c ((textP bs p).map (·.2)) → wr.drew.grownBy w5 (some r) → w6.ownsRow (w.heap.size + 2) 9 1 v6 (i + 1) (xs.map Value.string ++ [.string a]) → Grows (w5.alloc o) w6 (.slice lA i lc) v6 →
          NLoop w (w6.setCell ⟨w.heap.size + 1, 2, none⟩ v6) r w.heap.size A n c bs o3 m (i + 1) ((textP bs p).map (·.2)) (xs ++ [a]) v6 (.int .i64 kd) (.string tx)) := fun w5 w6 a v6 o h1 h2 h3 h4 h5 => (HR.out).step him h1 h2 ⟨h3.os, h3.tape, h3.output, h3.size, h3.block⟩ o h4 h5
      have HG6 : Hid (∀ (w5 w6 : World) (v6 : Value) (o : Obj), wr.drew.grownBy w5 (some r) → Grows (w5.alloc o) w6 (.slice lA i lc) v6 → w6.cell? ⟨w.heap.size + 1, 2, none⟩ = some (.slice lA i lc) ∧ w6.frozen? ⟨w.heap.size + 1, 2, none⟩ = false) := fun w5 w6 v6 o hb hg => by
        have h1 : Blk w5 _ _ _ := (show Blk wr.drew _ _ _ from (HR.out).nm.box).grown hb hne1
        have h2 := hg.blk (h1.alloc o) (own_ne (HR.out).own (by omega))
        exact ⟨by rw [h2.cell]; rfl, h2.frozen 2⟩
      have G0 : Hid (wr.drew.grownBy wr.drew (some r)) := World.grownBy.refl _ _
      have HZ5 : Hid (∀ w5 o, wr.drew.grownBy w5 (some r) → w.heap.size + 2 ≤ (w5.alloc o).heap.size) := fun w5 o hb => by have h1 := hb.size; have h2 := (HR.out).hg; simp at h1 ⊢; omega
      have HM1 : Hid (i + 1 ≤ maxLen) := by unfold Hid maxLen; omega
      have HM2 : Hid ((i + 1) * 16 ≤ 140737488355328) := by unfold Hid; omega
      have HI := Lib.hid hi0
      have HZ0 := Lib.hid hz0
      have HZ1 := Lib.hid hz1
      have HZ2 := Lib.hid hz2
      have c00 := (HC3.out _ G0.out).1
      clear hne1 hi0 hz0 hz1 hz2
      go_wp2_with fail
      clear c2
      rw [late_load _ 24]
      go_region_held3 (fun w' => True) (trivial)
        (first
          | (refine step_append_row _ rfl (.tmp 25) (.tmp 28) 40 40 rfl (w.heap.size + 2) 9 i0 (.string ⟨#[]⟩) 1 16 Tryd.underlying40 HI.out HZ0.out HZ1.out HZ2.out rfl (by decide) (.slice lA i lc) i (xs.map Value.string) rfl (HOW.out _ _ G5.out) (.slice (some ⟨w5.heap.size, 0, none⟩) 1 1) 1 [.string a5] rfl (src_new w5 Tryd.underlying40 [.string a5] 1 1 1 9 rfl (fun u hu => by simp at hu; subst hu; rfl)) HM1.out HM2.out (HZ5.out _ _ G5.out) ?_; intro v6 w6 ho6 hg6; obtain ⟨A6, c6, rfl, -, -⟩ := reads_of_owns ho6; have HO6 := Lib.hid ho6; have HGR := Lib.hid hg6; have HG7 := Lib.hid (HG6.out _ _ _ _ G5.out hg6); have c60 := HG7.out.1; have z60 := HG7.out.2; clear ho6 hg6)
          | (go_at_call 73; refine (HT.out).mono ?_; rintro e w5 ⟨a5, rfl, k5, hrd5, hg5⟩; have G5 := Lib.hid hg5; have K5 := Lib.hid k5; have R5 := Lib.hid hrd5; have c50 := (HC3.out _ G5.out).1; have c5a := HC4.out _ (.cells #[.string a5] 9) G5.out; clear hg5 k5 hrd5))
      all_goals
        have HS := Lib.hid (HNX.out _ _ _ _ _ K5.out R5.out G5.out HO6.out HGR.out)
        clear c00 c50 c5a c60 z60
        go_wp2_with fail
        go_roundw
        case rel => exact ⟨i + 1, _, _, _, by go_num, HS.out⟩
        case measure => simp [intOf]; omega
    · have he : i = m ∨ s' = none := by
        by_cases h : i < m
        · exact .inr (Classical.byContradiction fun hs => hgo ⟨h, hs⟩)
        · exact .inl (by omega)
      have HD := Lib.hid ((HR.out).done he (K3.out))
      clear hgo
      have hgg := (HR.out).nm.new
      rcases s' with _ | q'
      · have hb1 := (HR.out).nm.mid.rd
        obtain ⟨z1, hb1⟩ := hb1
        have c2 := hb1.cell 2
        simp at c2
        clear hb1 he
        by_cases him : i < m
        · have dim : decide (((m - i : Nat) : Int) > 0) = true := by simp; omega
          have dim2 : decide (0 < m - i) = true := by simp; omega
          go_wp2_with fail
          clear c2
          refine (pnumbers_any (HR.out).nm.mid.rd (HR.out).nm.mid.inn).mono ?_
          rintro e w5 ⟨B, cc, ks, rfl, K5, hrk, hkB, hrd, hg⟩
          replace K5 := Lib.hid K5
          have N5 := Lib.hid ((HR.out).nm.next hrd hg)
          have O5 := Lib.hid ((HR.out).own.kept hg (.inr (own_ne (HR.out).own (by omega))))
          have hk5 : Hid (Reads w5 w5.heap.size 1 B ks.length (ks.map (Value.int .i64))) := by have := hrk; rw [flat_one] at this; exact this
          have hb5 : Hid (∀ ad, B = some ad → w.heap.size + 2 ≤ ad.block ∧ ad.block < w5.heap.size) := fun ad e => ⟨Nat.le_trans (HR.out).hg (hkB ad e).1, (hkB ad e).2⟩
          have h3' := (HD.out).2
          have k3' := (HD.out).1
          rw [← ho3.out, ← list_count] at h3' k3'
          have hch := node_chain rfl K1.out hs2.out K2.out h3' k3' rfl (k := ks) (fun y hy => by have := ((K5.out) y hy).1; rw [List.map_id] at this; exact this)
          have HE := Lib.hid (node_end (cc := cc) (HR.out).len (O5.out) hk5.out hb5.out N5.out hch)
          have b0 := (N5.out).box.cell 0
          have b1 := (N5.out).box.cell 1
          have b2 := (N5.out).box.cell 2
          have fk := (N5.out).box.frozen 3
          have o0 := (N5.out).out.cell 0
          have o1 := (N5.out).out.cell 1
          have o2 := (N5.out).out.cell 2
          have o3' := (N5.out).out.cell 3
          have f0 := (N5.out).out.frozen 0
          have f1 := (N5.out).out.frozen 1
          have f2 := (N5.out).out.frozen 2
          have f3 := (N5.out).out.frozen 3
          have b3 := (N5.out).box.cell 3
          simp at b0 b1 b2 b3 o0 o1 o2 o3'
          have HXE := Lib.hid (put4_blk (((N5.out).put3 (.slice B ks.length cc)).out) (.int .i64 kd) (.string tx) (.slice lA i lc) (.slice B ks.length cc))
          have x0 := HXE.out.cell 0
          have x1 := HXE.out.cell 1
          have x2 := HXE.out.cell 2
          have x3 := HXE.out.cell 3
          simp at x0 x1 x2 x3
          clear hrk hkB hrd hg hch O5 h3' k3'
          go_wp2_with fail
          refine bodyPost_ret (v := .agg #[.int .i64 kd, .string tx, .slice lA i lc, .slice B ks.length cc]) (by simp [results, Tryd.results57, go_sem, x0, x1, x2, x3]) rfl ?_
          exact HE.out
        · have dim : decide (((m - i : Nat) : Int) > 0) = false := by simp; omega
          have dim2 : decide (0 < m - i) = false := by simp; omega
          go_wp2_with fail
          clear c2
          refine (pnumbers_any (HR.out).nm.mid.rd (HR.out).nm.mid.inn).mono ?_
          rintro e w5 ⟨B, cc, ks, rfl, K5, hrk, hkB, hrd, hg⟩
          replace K5 := Lib.hid K5
          have N5 := Lib.hid ((HR.out).nm.next hrd hg)
          have O5 := Lib.hid ((HR.out).own.kept hg (.inr (own_ne (HR.out).own (by omega))))
          have hk5 : Hid (Reads w5 w5.heap.size 1 B ks.length (ks.map (Value.int .i64))) := by have := hrk; rw [flat_one] at this; exact this
          have hb5 : Hid (∀ ad, B = some ad → w.heap.size + 2 ≤ ad.block ∧ ad.block < w5.heap.size) := fun ad e => ⟨Nat.le_trans (HR.out).hg (hkB ad e).1, (hkB ad e).2⟩
          have h3' := (HD.out).2
          have k3' := (HD.out).1
          rw [← ho3.out, ← list_count] at h3' k3'
          have hch := node_chain rfl K1.out hs2.out K2.out h3' k3' rfl (k := ks) (fun y hy => by have := ((K5.out) y hy).1; rw [List.map_id] at this; exact this)
          have HE := Lib.hid (node_end (cc := cc) (HR.out).len (O5.out) hk5.out hb5.out N5.out hch)
          have b0 := (N5.out).box.cell 0
          have b1 := (N5.out).box.cell 1
          have b2 := (N5.out).box.cell 2
          have fk := (N5.out).box.frozen 3
          have o0 := (N5.out).out.cell 0
          have o1 := (N5.out).out.cell 1
          have o2 := (N5.out).out.cell 2
          have o3' := (N5.out).out.cell 3
          have f0 := (N5.out).out.frozen 0
          have f1 := (N5.out).out.frozen 1
          have f2 := (N5.out).out.frozen 2
          have f3 := (N5.out).out.frozen 3
          have b3 := (N5.out).box.cell 3
          simp at b0 b1 b2 b3 o0 o1 o2 o3'
          have HXE := Lib.hid (put4_blk (((N5.out).put3 (.slice B ks.length cc)).out) (.int .i64 kd) (.string tx) (.slice lA i lc) (.slice B ks.length cc))
          have x0 := HXE.out.cell 0
          have x1 := HXE.out.cell 1
          have x2 := HXE.out.cell 2
          have x3 := HXE.out.cell 3
          simp at x0 x1 x2 x3
          clear hrk hkB hrd hg hch O5 h3' k3'
          go_wp2_with fail
          refine bodyPost_ret (v := .agg #[.int .i64 kd, .string tx, .slice lA i lc, .slice B ks.length cc]) (by simp [results, Tryd.results57, go_sem, x0, x1, x2, x3]) rfl ?_
          exact HE.out
      · have him : ¬ i < m := by have := he.resolve_right (by simp); omega
        have dim : decide (((m - i : Nat) : Int) > 0) = false := by simp; omega
        have dim2 : decide (0 < m - i) = false := by simp; omega
        clear he
        go_wp2_with fail
        refine (pnumbers_any (HR.out).nm.mid.rd (HR.out).nm.mid.inn).mono ?_
        rintro e w5 ⟨B, cc, ks, rfl, K5, hrk, hkB, hrd, hg⟩
        replace K5 := Lib.hid K5
        have N5 := Lib.hid ((HR.out).nm.next hrd hg)
        have O5 := Lib.hid ((HR.out).own.kept hg (.inr (own_ne (HR.out).own (by omega))))
        have hk5 : Hid (Reads w5 w5.heap.size 1 B ks.length (ks.map (Value.int .i64))) := by have := hrk; rw [flat_one] at this; exact this
        have hb5 : Hid (∀ ad, B = some ad → w.heap.size + 2 ≤ ad.block ∧ ad.block < w5.heap.size) := fun ad e => ⟨Nat.le_trans (HR.out).hg (hkB ad e).1, (hkB ad e).2⟩
        have h3' := (HD.out).2
        have k3' := (HD.out).1
        rw [← ho3.out, ← list_count] at h3' k3'
        have hch := node_chain rfl K1.out hs2.out K2.out h3' k3' rfl (k := ks) (fun y hy => by have := ((K5.out) y hy).1; rw [List.map_id] at this; exact this)
        have HE := Lib.hid (node_end (cc := cc) (HR.out).len (O5.out) hk5.out hb5.out N5.out hch)
        have b0 := (N5.out).box.cell 0
        have b1 := (N5.out).box.cell 1
        have b2 := (N5.out).box.cell 2
        have fk := (N5.out).box.frozen 3
        have o0 := (N5.out).out.cell 0
        have o1 := (N5.out).out.cell 1
        have o2 := (N5.out).out.cell 2
        have o3' := (N5.out).out.cell 3
        have f0 := (N5.out).out.frozen 0
        have f1 := (N5.out).out.frozen 1
        have f2 := (N5.out).out.frozen 2
        have f3 := (N5.out).out.frozen 3
        have b3 := (N5.out).box.cell 3
        simp at b0 b1 b2 b3 o0 o1 o2 o3'
        have HXE := Lib.hid (put4_blk (((N5.out).put3 (.slice B ks.length cc)).out) (.int .i64 kd) (.string tx) (.slice lA i lc) (.slice B ks.length cc))
        have x0 := HXE.out.cell 0
        have x1 := HXE.out.cell 1
        have x2 := HXE.out.cell 2
        have x3 := HXE.out.cell 3
        simp at x0 x1 x2 x3
        clear hrk hkB hrd hg hch O5 h3' k3'
        go_wp2_with fail
        refine bodyPost_ret (v := .agg #[.int .i64 kd, .string tx, .slice lA i lc, .slice B ks.length cc]) (by simp [results, Tryd.results57, go_sem, x0, x1, x2, x3]) rfl ?_
        exact HE.out
end Go.Proofs.YtdabmjcpiblofaaDoor
