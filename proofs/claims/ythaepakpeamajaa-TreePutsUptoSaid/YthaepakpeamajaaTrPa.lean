/-
  begins; what a call leaves that is stored into a new node. No condition.
-/
import Derived.Test.YthaepakpeamajaaTrZ
namespace Go.Proofs.Ythaepakpeamajaa
open Go.RowKit
set_option linter.unusedVariables false

def startsB (a b : List Int) : Bool := decide (b.length ≤ a.length) && decide (a.take b.length = b)
theorem startsB_iff {a b : List Int} : startsB a b = true ↔ starts a b := by unfold startsB starts; simp
theorem startsB_not {a b : List Int} (h : startsB a b = false) : ¬ starts a b := fun h' => by rw [startsB_iff.2 h'] at h; cases h

set_option maxRecDepth 100000 in
set_option maxHeartbeats 800000 in
theorem begins_any (A A' : Option Addr) (c c' B B' : Nat) (a b : List Int) (w : World) (hr : Reads w B 1 A a.length (a.map (Value.int .i64))) (hr' : Reads w B' 1 A' b.length (b.map (Value.int .i64))) (ha : a.length ≤ 140737488351232) (hb : b.length ≤ 140737488351232) (hc : a.length ≤ c) :
    Calls Try.prog 28 #[.slice A a.length c, .slice A' b.length c'] w (Ret w (.bool (startsB a b))) := by
  by_cases h : b.length ≤ a.length
  · have hrt : Reads w B 1 A (a.take b.length).length ((a.take b.length).map (Value.int .i64)) := by
      have e : (a.take b.length).length = b.length := by rw [List.length_take]; omega
      rw [e]
      refine ⟨by rw [List.length_map, e]; omega, fun hp => ?_⟩
      obtain ⟨ad, e1, e2, e3⟩ := hr.2 (by omega)
      refine ⟨ad, e1, e2, fun j u hu => e3 j u ?_⟩
      rw [List.getElem?_map] at hu ⊢
      rw [List.getElem?_take] at hu
      split at hu
      · exact hu
      · cases hu
    have HC := Lib.hid (path_any A A' c c' B B' (a.take b.length) b w hrt hr' (by rw [List.length_take]; omega) hb)
    have HE : Hid (startsB a b = decide (a.take b.length = b)) := by unfold startsB Hid; simp [h]
    rw [show (a.take b.length).length = b.length from by rw [List.length_take]; omega] at HC
    obtain ⟨n, hn⟩ : ∃ n, a.length = n := ⟨_, rfl⟩
    obtain ⟨m, hm⟩ : ∃ m, b.length = m := ⟨_, rfl⟩
    rw [hn, hm] at h
    rw [hn] at hc ha ⊢
    rw [hm] at hb ⊢
    have d1 : decide (m ≤ n) = true := by simpa using h
    have d2 : decide ((m : Int) ≤ (n : Int)) = true := by simpa using h
    have i1 : (m : Int) ≤ (c : Int) := by omega
    have HM := Lib.hid hm
    rw [hm] at HC
    clear hr hr' hrt hn hm
    go_enter Try.func28, Try.ntmps28
    go_wp2_with fail
    refine (HC.out).mono ?_
    rintro e w2 ⟨rfl, q, rfl⟩
    go_wp2_with fail
    go_ret
    exact ⟨by rw [HE.out, HM.out]; rfl, below_drewN (Below.refl _ _) q⟩
  · have HE : Hid (startsB a b = false) := by unfold startsB Hid; simp; omega
    have d1 : decide (b.length ≤ a.length) = false := by simpa using h
    have d2 : decide ((b.length : Int) ≤ (a.length : Int)) = false := by simpa using h
    clear hr hr'
    go_enter Try.func28, Try.ntmps28
    go_wp2_with fail
    go_ret
    exact ⟨by rw [HE.out]; rfl, Below.refl _ _⟩

/-- what a call leaves: a node that reads as it does whatever becomes of older blocks -/
def MidC (w : World) (s : T) (e : Ending) (w' : World) : Prop := ∃ y : TX, e = .returned (.tuple #[y.val, .bool true]) ∧ Below w.heap.size w w' ∧ y.plain = s ∧ ∀ w7, TC w' w7 (· < w.heap.size) → Tr w7 w7.heap.size y
/-- the node stored into a new box -/
structure Mid (V : World) (s : T) (wr : World) (bx : Nat) (x : TX) : Prop where
  bel : Below V.heap.size V wr
  blk : Blk wr bx 25 x.arr
  plain : x.plain = s
  tr : Tr wr wr.heap.size x
theorem Mid.a {V w1 w2 : World} {s : T} {x : TX} (h1 : Below V.heap.size V w1) (h2 : Below w1.heap.size w1 w2) (hp : x.plain = s) (ht : ∀ w7, TC w2 w7 (· < w1.heap.size) → Tr w7 w7.heap.size x) : Mid V s (w2.alloc (.cells x.arr 25)) w2.heap.size x := by
  have h3 := h1.trans (h2.mono h1.size)
  have h4 : Below w2.heap.size w2 (w2.alloc (.cells x.arr 25)) := (Below.refl _ w2).alloc (Nat.le_refl _) _
  exact ⟨h3.alloc h3.size _, Blk.new w2 25 _, hp, ht _ (TC.of_below h4 _)⟩
theorem Mid.b {V w1 w2 : World} {s : T} {x : TX} {cs : Array Value} (h1 : Below V.heap.size V w1) (hcs : cs.size = 4) (h2 : Below (w1.alloc (.cells cs 25)).heap.size (w1.alloc (.cells cs 25)) w2) (hp : x.plain = s) (ht : ∀ w7, TC w2 w7 (· < (w1.alloc (.cells cs 25)).heap.size) → Tr w7 w7.heap.size x) :
    Mid V s ((((w2.setCell ⟨w1.heap.size, 0, none⟩ (.int .i64 x.kind)).setCell ⟨w1.heap.size, 1, none⟩ (.string x.text)).setCell ⟨w1.heap.size, 2, none⟩ (.slice x.lA x.leads.length x.lc)).setCell ⟨w1.heap.size, 3, none⟩ (.slice x.kA x.kids.length x.kc)) w1.heap.size x := by
  have hz := h1.size
  have hsz : (w1.alloc (.cells cs 25)).heap.size = w1.heap.size + 1 := by simp
  have h0 : Below w1.heap.size w1 (w1.alloc (.cells cs 25)) := (Below.refl _ w1).alloc (Nat.le_refl _) _
  have h3 : Below V.heap.size V w2 := h1.trans ((h0.trans (h2.mono h0.size)).mono hz)
  have hk : Blk w2 w1.heap.size 25 cs := (Blk.new w1 25 cs).below h2 (by omega)
  obtain ⟨a0, a1, a2, a3, rfl⟩ : ∃ a0 a1 a2 a3, cs = #[a0, a1, a2, a3] := by
    obtain ⟨l⟩ := cs
    match l, hcs with
    | [a0, a1, a2, a3], _ => exact ⟨a0, a1, a2, a3, rfl⟩
  have htc := tc_putV (S := fun b => b = w1.heap.size) hk rfl (.int .i64 x.kind) (.string x.text) (.slice x.lA x.leads.length x.lc) (.slice x.kA x.kids.length x.kc)
  exact ⟨h3.trans (htc.below h3.size (fun b h => by omega)), blk_putV hk _ _ _ _, hp, ht _ (htc.mono (fun b _ h => by omega))⟩
theorem blk_laid {V w2 : World} {cs : Array Value} (h : Below (V.drew.alloc (.cells cs 25)).heap.size (V.drew.alloc (.cells cs 25)) w2) : Blk w2 V.heap.size 25 cs := by
  have hsz : (V.drew.alloc (.cells cs 25)).heap.size = V.heap.size + 1 := by simp
  exact (Blk.new V.drew 25 cs).below h (by show V.heap.size < _; omega)
theorem at_mid (t : TX) (A : Option Addr) (c : Nat) (p : List Int) (w : World) (s : T) (h : Tr w w.heap.size t) (hp : Reads w w.heap.size 1 A p.length (p.map (Value.int .i64))) (hl : p.length ≤ 140737488351232) (hb : ∀ x ∈ p, -9223372036854775808 ≤ x ∧ x ≤ 9223372036854775807) (hs : t.plain.find p = some s) :
    Calls Try.prog 11 #[t.val, .slice A p.length c] w (MidC w s) :=
  (at_any t A c p w h hp hl hb).mono fun e w' hq => by
    obtain ⟨b, hq⟩ := hq
    have h1 := find_plain p t
    rw [hs] at h1
    cases hf : t.find p with
    | none => rw [hf] at h1; cases h1
    | some x =>
      rw [hf] at h1 hq
      obtain ⟨y, he, hp, hfr⟩ := hq
      refine ⟨y, he, b, by rw [hp]; simpa using h1, fun w7 h7 => (hfr.tc h7 (fun b h1 h2 h3 => by omega)).tr⟩
theorem repl_mid (t u : TX) (A : Option Addr) (c : Nat) (p : List Int) (w : World) (s : T) (h : Tr w w.heap.size t) (hu : Tr w w.heap.size u) (hp : Reads w w.heap.size 1 A p.length (p.map (Value.int .i64))) (hl : p.length ≤ 140737488351232) (hb : ∀ x ∈ p, -9223372036854775808 ≤ x ∧ x ≤ 9223372036854775807) (hs : t.plain.repl p u.plain = some s) :
    Calls Try.prog 19 #[t.val, .slice A p.length c, u.val] w (MidC w s) :=
  (replace_anyS t u A c p w h hu hp hl hb).mono fun e w' hq => by
    obtain ⟨b, hq⟩ := hq
    rw [hs] at hq
    obtain ⟨y, he, hp, hfr⟩ := hq
    exact ⟨y, he, b, hp, hfr⟩
end Go.Proofs.Ythaepakpeamajaa
