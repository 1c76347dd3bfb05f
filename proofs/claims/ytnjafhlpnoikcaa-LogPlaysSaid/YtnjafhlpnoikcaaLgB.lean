/-
  A log in memory; Dead, Room, start. No condition.
-/
import Derived.Test.YtnjafhlpnoikcaaLgA
import Derived.Handy
namespace Go.Proofs.Ytnjafhlpnoikcaa
open Go.RowKit
set_option linter.unusedVariables false

/-- a record as it lies in memory -/
structure Rc where
  A : Option Addr
  c : Nat
  b : List Nat
def rcell (r : Rc) : List Value := [.slice r.A r.b.length r.c]
structure LogX (w : World) (g d : Nat) (l : LS) (v : Value) (rs : List Rc) (K : Nat → Prop) : Prop where
  blk : Blk w g 62 #[.iface 26 (.pointer (some ⟨d, 0, none⟩)), .int .i64 (l.half : Int), .bool l.second, .int .i64 (l.fin : Int), v, .bool l.dead]
  own : w.ownsRow 0 32 1 v rs.length (rs.flatMap rcell)
  rsb : rs.map (·.b) = l.recs
  good : ∀ r ∈ rs, Reads w w.heap.size 1 r.A r.b.length (r.b.map byt) ∧ (0 < r.b.length → ∀ ad, r.A = some ad → K ad.block ∧ v.ownBlock ≠ some ad.block ∧ ad.block ≠ g)
  kg : K g
  kv : ∀ b, v.ownBlock = some b → K b
  lt : ∀ b, K b → b < w.heap.size
  half : l.half ≤ 65536
  fin : l.fin ≤ l.half
  few : 5 * l.recs.length ≤ l.fin
  byte : ∀ b ∈ l.recs, ∀ x ∈ b, x < 256
  small : ∀ b ∈ l.recs, b.length ≤ 65536
def LogAt (w : World) (g d : Nat) (l : LS) (K : Nat → Prop) : Prop := ∃ v rs, LogX w g d l v rs K
section
variable {w w' : World} {g d : Nat} {l : LS} {v : Value} {rs : List Rc} {K G : Nat → Prop}
theorem LogX.chg (h : LogX w g d l v rs K) (hc : Chg w w' G) (hd : ∀ b, K b → ¬ G b) : LogX w' g d l v rs K :=
  ⟨h.blk.chg hc (hd g h.kg), owns_chg h.own hc (fun b hb => hd b (h.kv b hb)), h.rsb, fun r hr => ⟨((h.good r hr).1.chg0 hc (Nat.le_refl _) (fun hn ad ha => hd _ ((h.good r hr).2 hn ad ha).1)).more hc.size, (h.good r hr).2⟩, h.kg, h.kv, fun b hb => Nat.lt_of_lt_of_le (h.lt b hb) hc.size, h.half, h.fin, h.few, h.byte, h.small⟩
theorem LogX.below (h : LogX w g d l v rs K) (hb : Below w.heap.size w w') : LogX w' g d l v rs K :=
  h.chg (G := fun b => w.heap.size ≤ b) (Chg.of_below hb (fun i hi => hi)) (fun b hK hG => by have := h.lt b hK; omega)
theorem LogAt.chg (h : LogAt w g d l K) (hc : Chg w w' G) (hd : ∀ b, K b → ¬ G b) : LogAt w' g d l K := by
  obtain ⟨v, rs, hx⟩ := h
  exact ⟨v, rs, hx.chg hc hd⟩
theorem LogAt.below (h : LogAt w g d l K) (hb : Below w.heap.size w w') : LogAt w' g d l K := by
  obtain ⟨v, rs, hx⟩ := h
  exact ⟨v, rs, hx.below hb⟩
theorem LogX.len (h : LogX w g d l v rs K) : rs.length = l.recs.length := by rw [← h.rsb, List.length_map]
theorem LogX.slice (h : LogX w g d l v rs K) : ∃ A c, v = .slice A rs.length c := by
  obtain ⟨A, c, hv, -, -⟩ := reads_of_owns h.own
  exact ⟨A, c, hv⟩
end

set_option maxRecDepth 100000 in
set_option maxHeartbeats 400000 in
theorem dead_any {w : World} {g d : Nat} {l : LS} {K : Nat → Prop} (h : LogAt w g d l K) : Calls Try.prog 36 #[.pointer (some ⟨g, 0, none⟩)] w fun e w' => e = .returned (.bool l.dead) ∧ w = w' := by
  obtain ⟨v, rs, hx⟩ := h
  have c5 := hx.blk.cell 5
  simp at c5
  clear hx
  go_enter Try.func36, Try.ntmps36
  go_wp2_with fail
  go_ret
  exact ⟨rfl, rfl⟩

set_option maxRecDepth 100000 in
set_option maxHeartbeats 400000 in
theorem start_any {w : World} {g d : Nat} {l : LS} {K : Nat → Prop} (h : LogAt w g d l K) (b : Bool) : Calls Try.prog 30 #[.pointer (some ⟨g, 0, none⟩), .bool b] w fun e w' => e = .returned (.int .i64 (startS l.half b : Nat)) ∧ w = w' := by
  obtain ⟨v, rs, hx⟩ := h
  have c1 := hx.blk.cell 1
  have hh := hx.half
  simp at c1
  clear hx
  cases b
  all_goals
    go_enter Try.func30, Try.ntmps30
    go_wp2_with fail
    go_ret
    exact ⟨rfl, rfl⟩

set_option maxRecDepth 100000 in
set_option maxHeartbeats 400000 in
theorem room_any {w : World} {g d : Nat} {l : LS} {K : Nat → Prop} (h : LogAt w g d l K) : Calls Try.prog 35 #[.pointer (some ⟨g, 0, none⟩)] w fun e w' => e = .returned (.int .i64 (roomS l)) ∧ ∃ k, w' = w.drewN k := by
  obtain ⟨v, rs, hx⟩ := h
  have c1 := hx.blk.cell 1
  have c3 := hx.blk.cell 3
  have c5 := hx.blk.cell 5
  have hh := hx.half
  have hf := hx.fin
  simp at c1 c3 c5
  clear hx
  have hr : roomS l = if l.dead ∨ l.half < l.fin + 6 then -1 else (l.half : Int) - l.fin - 6 := rfl
  rw [hr]
  clear hr
  obtain ⟨half, second, fin, recs, dead⟩ := l
  simp only at c1 c3 c5 hh hf ⊢
  cases dead
  · by_cases hlt : half < fin + 6
    · have hd : decide ((half : Int) < (fin : Int) + 6) = true := by simp; omega
      rw [if_pos (.inr hlt)]
      go_enter Try.func35, Try.ntmps35
      go_wp2_with fail
      go_quiet (fail)
      go_wp2_with fail
      go_ret
      exact ⟨rfl, _, rfl⟩
    · have hd : decide ((half : Int) < (fin : Int) + 6) = false := by simp; omega
      rw [if_neg (by simp; omega)]
      go_enter Try.func35, Try.ntmps35
      go_wp2_with fail
      go_quiet (fail)
      go_wp2_with fail
      go_quiet (fail)
      go_wp2_with fail
      go_ret
      exact ⟨rfl, _, World.drewN_drewN _ _ _⟩
  · rw [if_pos (.inl rfl)]
    go_enter Try.func35, Try.ntmps35
    go_wp2_with fail
    go_quiet (fail)
    go_wp2_with fail
    go_ret
    exact ⟨rfl, _, rfl⟩
end Go.Proofs.Ytnjafhlpnoikcaa
