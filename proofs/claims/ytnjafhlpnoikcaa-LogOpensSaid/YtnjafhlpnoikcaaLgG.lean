/-
  notice, and what add knows between its calls. No condition.
-/
import Derived.Test.YtnjafhlpnoikcaaLgF
import Derived.Defers
namespace Go.Proofs.Ytnjafhlpnoikcaa
open Go.RowKit
set_option linter.unusedVariables false

set_option maxRecDepth 100000 in
set_option maxHeartbeats 400000 in
theorem notice_no {w : World} {g g0 : Nat} (u : FrameMode) (hc : w.cell? ⟨g0, 0, none⟩ = some (.int .i64 0)) :
    CallsD Try.prog 54 #[.pointer (some ⟨g, 0, none⟩), .pointer (some ⟨g0, 0, none⟩)] u w fun e u' w' => u' = u ∧ (e = .returned (.tuple #[]) ∧ w' = w) := by
  go_enter_d Try.func54, Try.ntmps54
  go_wp2_with fail
  go_end0
  exact ⟨rfl, rfl⟩
set_option maxRecDepth 100000 in
set_option maxHeartbeats 400000 in
theorem notice_yes {w : World} {g g0 : Nat} {x : Int} {old : Value} (u : FrameMode) (hc : w.cell? ⟨g0, 0, none⟩ = some (.int .i64 x)) (hx : (x != 0) = true) (hd : w.cell? ⟨g, 5, none⟩ = some old) (hz : w.frozen? ⟨g, 5, none⟩ = false) :
    CallsD Try.prog 54 #[.pointer (some ⟨g, 0, none⟩), .pointer (some ⟨g0, 0, none⟩)] u w fun e u' w' => u' = u ∧ (e = .returned (.tuple #[]) ∧ w' = w.setCell ⟨g, 5, none⟩ (.bool true)) := by
  go_enter_d Try.func54, Try.ntmps54
  go_wp2_with fail
  go_end0
  exact ⟨rfl, rfl⟩

/-- what add knows: w0 is where it began, its result's box lies at w0.heap.size -/
structure AM (w0 wr : World) (g d : Nat) (s : DS) (l : LS) (F K F0 : Nat → Prop) (ev : Int) (A : Option Addr) (b : List Nat) : Prop where
  both : Both wr g d s l F K
  box : Blk wr w0.heap.size 23 #[.int .i64 ev]
  nf : ∀ i, F i → ¬ i = w0.heap.size
  nk : ∀ i, K i → i < w0.heap.size
  chg : Chg w0 wr F0
  sub : ∀ i, F i → F0 i ∨ w0.heap.size ≤ i
  rb : Reads wr wr.heap.size 1 A b.length (b.map byt)
  ra : 0 < b.length → ∀ ad, A = some ad → ad.block < w0.heap.size ∧ ¬ F0 ad.block
section
variable {w0 wr w' : World} {g d : Nat} {s s' : DS} {l : LS} {F K F0 : Nat → Prop} {ev : Int} {A : Option Addr} {b : List Nat}
theorem AM.lt (h : AM w0 wr g d s l F K F0 ev A b) : w0.heap.size < wr.heap.size := h.box.lt
theorem AM.below (h : AM w0 wr g d s l F K F0 ev A b) (hb : Below wr.heap.size wr w') : AM w0 w' g d s l F K F0 ev A b :=
  ⟨⟨h.both.disk.below hb (Nat.le_refl _), h.both.log.below hb, h.both.apart⟩, h.box.below hb h.lt, h.nf, h.nk,
    ⟨hb.os.trans h.chg.os, hb.tape.trans h.chg.tape, hb.output.trans h.chg.output, Nat.le_trans h.chg.size hb.size, fun i hi hn => (hb.block i (Nat.lt_of_lt_of_le hi h.chg.size)).trans (h.chg.block i hi hn)⟩, h.sub,
    (h.rb.below hb).more hb.size, h.ra⟩
theorem AM.put (h : AM w0 wr g d s l F K F0 ev A b) (x : Int) : AM w0 (wr.setCell ⟨w0.heap.size, 0, none⟩ (.int .i64 x)) g d s l F K F0 x A b := by
  have hc : Chg wr (wr.setCell ⟨w0.heap.size, 0, none⟩ (.int .i64 x)) (fun i => i = w0.heap.size) := (Chg.refl wr (fun i => i = w0.heap.size)).setCell (p := ⟨w0.heap.size, 0, none⟩) (.inl rfl) _
  refine ⟨⟨h.both.disk.chg hc h.nf, h.both.log.chg hc (fun i hK hi => by have := h.nk i hK; omega), h.both.apart⟩, h.box.set_ 0 (.int .i64 x), h.nf, h.nk, ?_, h.sub, ?_, h.ra⟩
  · exact h.chg.setCell (p := ⟨w0.heap.size, 0, none⟩) (.inr (Nat.le_refl _)) _
  · exact (h.rb.chg0 hc (Nat.le_refl _) (fun hn ad ha hi => by have := (h.ra hn ad ha).1; omega)).more hc.size
theorem AM.op (h : AM w0 wr g d s l F K F0 ev A b) (ho : OpPost wr d s' F w') : ∃ F', AM w0 w' g d s' l F' K F0 ev A b := by
  obtain ⟨F', h1, h2, h3⟩ := ho
  have hlt := h.lt
  refine ⟨F', ⟨h1, h.both.log.chg h2 (fun i hK hF => h.both.apart i hF hK), fun i hF hK => ?_⟩, h.box.chg h2 (fun hF => h.nf _ hF rfl), fun i hF hi => ?_, h.nk, ?_, fun i hF => ?_, ?_, h.ra⟩
  · rcases h3 i hF with h4 | h4
    · exact h.both.apart i h4 hK
    · have := h.nk i hK; omega
  · rcases h3 i hF with h4 | h4
    · exact h.nf i h4 hi
    · omega
  · refine ⟨h2.os.trans h.chg.os, h2.tape.trans h.chg.tape, h2.output.trans h.chg.output, Nat.le_trans h.chg.size h2.size, fun i hi hn => (h2.block i (Nat.lt_of_lt_of_le hi h.chg.size) (fun hF => ?_)).trans (h.chg.block i hi hn)⟩
    rcases h.sub i hF with h4 | h4
    · exact hn h4
    · omega
  · rcases h3 i hF with h4 | h4
    · exact h.sub i h4
    · exact .inr (by omega)
  · refine (h.rb.chg0 h2 (Nat.le_refl _) (fun hn ad ha hF => ?_)).more h2.size
    obtain ⟨k1, k2⟩ := h.ra hn ad ha
    rcases h.sub _ hF with h4 | h4
    · exact k2 h4
    · omega
theorem AM.start {w : World} (h : Both w g d s l F K) (hr : Reads w w.heap.size 1 A b.length (b.map byt)) (hA : 0 < b.length → ∀ ad, A = some ad → ¬ F ad.block) : AM w (w.alloc (.cells #[.int .i64 0] 23)) g d s l F K F 0 A b := by
  have hb := (Below.refl w.heap.size w).alloc (Nat.le_refl _) (.cells #[.int .i64 0] 23)
  obtain ⟨v, rs, hx⟩ := h.log
  refine ⟨⟨h.disk.below hb (Nat.le_refl _), LogAt.below ⟨v, rs, hx⟩ hb, h.apart⟩, Blk.new w _ _, fun i hF hi => by have := h.disk.lt i hF; omega, hx.lt, (Chg.refl w F).alloc _, fun i hF => .inl hF, (hr.below hb).more hb.size, fun hn ad ha => ⟨?_, hA hn ad ha⟩⟩
  obtain ⟨ad', e, hl, -⟩ := hr.2 hn
  rw [ha] at e
  injection e with e
  rw [e]
  exact hl
end
end Go.Proofs.Ytnjafhlpnoikcaa
