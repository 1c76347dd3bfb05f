/-
  What add leaves. No condition.
-/
import Derived.Test.YtnjafhlpnoikcaaLgG
namespace Go.Proofs.Ytnjafhlpnoikcaa
open Go.RowKit
set_option linter.unusedVariables false

def AddPost (w : World) (g d : Nat) (l : LS) (F K : Nat → Prop) (r : Int × DS) (e : Ending) (w' : World) : Prop :=
  e = .returned (.int .i64 r.1) ∧ ∃ F', Both w' g d r.2 { l with dead := if r.1 = 0 then l.dead else true } F' K ∧ Chg w w' (fun i => F i ∨ K i) ∧ ∀ i, F' i → F i ∨ w.heap.size ≤ i
theorem LogX.setDead {w : World} {g d : Nat} {l : LS} {v : Value} {rs : List Rc} {K : Nat → Prop} (h : LogX w g d l v rs K) : LogX (w.setCell ⟨g, 5, none⟩ (.bool true)) g d { l with dead := true } v rs K := by
  have hvg : v.ownBlock ≠ some g := own_blk_ne h.own h.blk (by decide)
  have hc : Chg w (w.setCell ⟨g, 5, none⟩ (.bool true)) (fun i => i = g) := (Chg.refl w (fun i => i = g)).setCell (p := ⟨g, 5, none⟩) (.inl rfl) _
  have hs : w.heap.size = (w.setCell ⟨g, 5, none⟩ (.bool true)).heap.size := by simp [World.setCell]
  refine ⟨h.blk.set_ 5 (.bool true), owns_chg h.own hc (fun b hb hi => hvg (by rw [hb, hi])), h.rsb, fun r hr => ⟨?_, (h.good r hr).2⟩, h.kg, h.kv, fun b hb => by rw [← hs]; exact h.lt b hb, h.half, h.fin, h.few, h.byte, h.small⟩
  exact ((h.good r hr).1.chg0 hc (Nat.le_refl _) (fun hn ad ha hi => ((h.good r hr).2 hn ad ha).2.2 hi)).more hc.size
theorem AM.fin0 {w wr : World} {g d : Nat} {s : DS} {l : LS} {F K F0 : Nat → Prop} {A : Option Addr} {b : List Nat} (h : AM w wr g d s l F K F0 0 A b) : AddPost w g d l F0 K (0, s) (.returned (.int .i64 0)) wr :=
  ⟨rfl, F, ⟨h.both.disk, by simpa using h.both.log, h.both.apart⟩, h.chg.mono (fun i hi => .inl hi), h.sub⟩
theorem AM.fin1 {w wr : World} {g d : Nat} {s : DS} {l : LS} {F K F0 : Nat → Prop} {x : Int} {A : Option Addr} {b : List Nat} (h : AM w wr g d s l F K F0 x A b) (hx : x ≠ 0) : AddPost w g d l F0 K (x, s) (.returned (.int .i64 x)) (wr.setCell ⟨g, 5, none⟩ (.bool true)) := by
  obtain ⟨v, rs, hl⟩ := h.both.log
  have hc : Chg wr (wr.setCell ⟨g, 5, none⟩ (.bool true)) (fun i => i = g) := (Chg.refl wr (fun i => i = g)).setCell (p := ⟨g, 5, none⟩) (.inl rfl) _
  refine ⟨rfl, F, ⟨h.both.disk.chg hc (fun i hF hi => h.both.apart i hF (by rw [hi]; exact hl.kg)), ⟨v, rs, ?_⟩, h.both.apart⟩, ?_, h.sub⟩
  · rw [if_neg hx]
    exact hl.setDead
  · exact (h.chg.mono (fun i hi => .inl hi)).setCell (p := ⟨g, 5, none⟩) (.inl (.inr hl.kg)) _

theorem results_box {P : Program} {fn : Func} {p : Tmp} {ty : TypeId} {k : IntKind} (h : fn.results = #[.cell p ty]) (hu : P.underlying ty = some (.int k)) (tmps : Array Value) (w : World) (g0 : Nat) (x : Value) (hp : tmps.getD p undef = .pointer (some ⟨g0, 0, none⟩)) (hc : w.cell? ⟨g0, 0, none⟩ = some x) :
    (results fn tmps).run P w = .ok x w := by
  have hp' : tmps[p]?.getD undef = .pointer (some ⟨g0, 0, none⟩) := by simpa using hp
  simp [results, h, hp', asAddr, loadVar, isAgg, run_underlying hu, Result.andThen, hc]

theorem bne_true {x : Int} (h : x ≠ 0) : (x != 0) = true := by simpa using h
end Go.Proofs.Ytnjafhlpnoikcaa
