/-
  The reference's write (write and sync), and what it leaves. No condition.
-/
import Derived.Test.YtnjafhlpnoikcaaLrA
namespace Go.Proofs.Ytnjafhlpnoikcaa
open Go.RowKit
set_option linter.unusedVariables false

theorem RLogX.setDead {w : World} {g r : Nat} {l : LS} {v : Value} {rs : List Rc} {K : Nat → Prop} (h : RLogX w g r l v rs K) (b : Bool) : RLogX (w.setCell ⟨g, 4, none⟩ (.bool b)) g r { l with dead := b } v rs K := by
  have hvg : v.ownBlock ≠ some g := own_blk_ne h.own h.blk (by decide)
  have hc : Chg w (w.setCell ⟨g, 4, none⟩ (.bool b)) (fun i => i = g) := (Chg.refl w (fun i => i = g)).setCell (p := ⟨g, 4, none⟩) (.inl rfl) _
  have hs : w.heap.size = (w.setCell ⟨g, 4, none⟩ (.bool b)).heap.size := by simp [World.setCell]
  refine ⟨h.blk.set_ 4 (.bool b), owns_chg h.own hc (fun x hx hi => hvg (by rw [hx, hi])), h.rsb, fun r hr => ⟨?_, (h.good r hr).2⟩, h.kg, h.kv, fun x hx => by rw [← hs]; exact h.lt x hx, h.half, h.fin, h.few, h.byte, h.small⟩
  exact ((h.good r hr).1.chg0 hc (Nat.le_refl _) (fun hn ad ha hi => ((h.good r hr).2 hn ad ha).2.2 hi)).more hc.size

/-- what a call on the reference's log leaves: the disk in a new state, the log alive or dead -/
def RWPost (w : World) (g r : Nat) (l : LS) (F K : Nat → Prop) (x : Int × DS) (e : Ending) (w' : World) : Prop :=
  e = .returned (.int .i64 x.1) ∧ ∃ F', RBoth w' g r x.2 { l with dead := x.1 != 0 } F' K ∧ Chg w w' (fun i => F i ∨ K i) ∧ ∀ i, F' i → F i ∨ w.heap.size ≤ i

theorem writeS_len (s : DS) (a : Int) (b : List Nat) : (writeS s a b).2.dur.length = s.dur.length := by
  have h : (spendS s).2.dur = s.dur := by
    obtain ⟨dur, wait, off, fuse⟩ := s
    cases fuse with
    | none => rfl
    | some k => cases k <;> rfl
  unfold writeS
  split
  · rfl
  · split
    · rfl
    · split
      · rfl
      · split
        · show (spendS s).2.dur.length = _; rw [h]
        · show (spendS s).2.dur.length = _; rw [h]
theorem syncS_len {s : DS} (hs : s.ok) : (syncS s).2.dur.length = s.dur.length := by
  have h : (spendS s).2.dur = s.dur := by
    obtain ⟨dur, wait, off, fuse⟩ := s
    cases fuse with
    | none => rfl
    | some k => cases k <;> rfl
  unfold syncS
  split
  · rfl
  · split
    · exact seen_len _ _ hs.fit rfl
    · show (spendS s).2.dur.length = _; rw [h]

set_option maxRecDepth 100000 in
set_option maxHeartbeats 1000000 in
theorem rstore_any {w : World} {g r : Nat} {l : LS} {s : DS} {F K : Nat → Prop} (a : Int) (A : Option Addr) (c : Nat) (b : List Nat) (h : RBoth w g r s l F K) (hb : ∀ x ∈ b, x < 256) (hbl : b.length ≤ 1000000000) (hr : Reads w w.heap.size 1 A b.length (b.map byt)) (hA : 0 < b.length → ∀ ad, A = some ad → ¬ F ad.block) :
    Calls Try.prog 51 #[.pointer (some ⟨g, 0, none⟩), .int .i64 a, .slice A b.length c] w (RWPost w g r l F K (storeS s a b)) := by
  obtain ⟨v, rs, hx⟩ := h.log
  have c0 := hx.blk.cell 0
  simp at c0
  have HX := Lib.hid hx
  have HH := Lib.hid h
  have hwl := writeS_len s a b
  have hW := rwrite_m r s F a A c b w h.disk hb hbl hr hA
  have hst : storeS s a b = if (writeS s a b).1 = 0 then syncS (writeS s a b).2 else writeS s a b := rfl
  generalize writeS s a b = y at hW hst hwl
  obtain ⟨x, s1⟩ := y
  simp only at hst hW hwl
  have HW := Lib.hid hW
  have HWL := Lib.hid hwl
  clear hx hr hb hW h hwl
  have fin : ∀ (w1 : World) (s2 : DS) (F2 : Nat → Prop) (x2 : Int), RMine w1 r s2 F2 → Chg w w1 F → (∀ i, F2 i → F i ∨ w.heap.size ≤ i) → s2.dur.length = s.dur.length → RWPost w g r l F K (x2, s2) (.returned (.int .i64 x2)) (w1.setCell ⟨g, 4, none⟩ (.bool (x2 != 0))) := by
    intro w1 s2 F2 x2 hm hc hs hl
    have hx1 := (HX.out).chg hc (fun i hK hF => (HH.out).apart i hF hK)
    have hap : ∀ i, F2 i → ¬ K i := fun i hF hK => by
      rcases hs i hF with h4 | h4
      · exact (HH.out).apart i h4 hK
      · have := (HX.out).lt i hK; omega
    refine ⟨rfl, F2, ⟨hm.chg (G := fun i => i = g) ((Chg.refl w1 (fun i => i = g)).setCell (p := ⟨g, 4, none⟩) (.inl rfl) _) (fun i hF hi => hap i hF (by rw [hi]; exact hx1.kg)), ⟨v, rs, hx1.setDead _⟩, hap, ?_⟩, ?_, hs⟩
    · rw [hl]; exact (HH.out).hh
    · exact (hc.mono (fun i hi => .inl hi)).setCell (p := ⟨g, 4, none⟩) (.inl (.inr hx1.kg)) _
  have FIN := Lib.hid fin
  clear fin
  by_cases h0 : x = 0
  · subst h0
    rw [if_pos rfl] at hst
    replace hst := Lib.hid hst
    go_enter Try.func51, Try.ntmps51
    go_wp2_with fail
    refine (HW.out).mono ?_
    rintro e w1 ⟨rfl, F1, m1, k1, f1⟩
    have X1 := Lib.hid ((HX.out).chg k1 (fun b hK hF => (HH.out).apart b hF hK))
    have c01 := (X1.out).blk.cell 0
    simp at c01
    have hsl := syncS_len m1.ok
    have hY := rsync_m r s1 F1 w1 m1
    have hst1 := hst.out
    generalize syncS s1 = y at hY hst1 hsl
    obtain ⟨x2, s2⟩ := y
    simp only at hsl hY
    have HY := Lib.hid hY
    have HSL := Lib.hid hsl
    have HST := Lib.hid hst1
    have K1 := Lib.hid k1
    have F1' := Lib.hid f1
    clear c0 m1 k1 f1 HW hY hsl hst1
    go_wp2_with fail
    refine (HY.out).mono ?_
    rintro e w2 ⟨rfl, ho⟩
    obtain ⟨F2, m2, k2, f2⟩ := ROpPost.trans (K1.out) (F1'.out) ho
    have X2 := (HX.out).chg k2 (fun b hK hF => (HH.out).apart b hF hK)
    have c42 := X2.blk.cell 4
    have f42 := X2.blk.frozen 4
    simp at c42
    have FF := Lib.hid ((FIN.out) _ _ _ x2 m2 k2 f2 ((HSL.out).trans (HWL.out)))
    clear ho m2 k2 f2 X2 HY c01 X1
    go_wp2_with fail
    go_ret
    rw [HST.out]
    exact FF.out
  · rw [if_neg h0] at hst
    have d0 : (x == 0) = false := by simpa using h0
    replace hst := Lib.hid hst
    go_enter Try.func51, Try.ntmps51
    go_wp2_with fail
    refine (HW.out).mono ?_
    rintro e w1 ⟨rfl, F1, m1, k1, f1⟩
    have X2 := (HX.out).chg k1 (fun b hK hF => (HH.out).apart b hF hK)
    have c42 := X2.blk.cell 4
    have f42 := X2.blk.frozen 4
    simp at c42
    have FF := Lib.hid ((FIN.out) _ _ _ x m1 k1 f1 (HWL.out))
    clear m1 k1 f1 X2 HW
    go_wp2_with fail
    go_ret
    rw [hst.out]
    exact FF.out
end Go.Proofs.Ytnjafhlpnoikcaa
