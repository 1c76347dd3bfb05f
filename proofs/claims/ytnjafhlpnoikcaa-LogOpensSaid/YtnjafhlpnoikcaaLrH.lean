/-
  The program's disk and log beside the reference's: what each call leaves of both. No condition.
-/
import Derived.Test.YtnjafhlpnoikcaaLrG
namespace Go.Proofs.Ytnjafhlpnoikcaa
open Go.RowKit
set_option linter.unusedVariables false

/-- two things in one memory, each with blocks of its own, from the law's first world on; the blocks of B are neither's, and as they were in wb -/
structure Duo (w0 wb : World) (B : Nat → Prop) (w : World) (P Q : World → Prop) (F G : Nat → Prop) : Prop where
  p : P w
  q : Q w
  lp : ∀ b, F b → b < w.heap.size
  lq : ∀ b, G b → b < w.heap.size
  ap : ∀ b, F b → ¬ G b
  own : ∀ b, F b ∨ G b → w0.heap.size ≤ b
  bel : Below w0.heap.size w0 w
  nb : ∀ b, B b → ¬ F b ∧ ¬ G b
  bl : ∀ b, B b → b < w.heap.size
  kp : ∀ b, B b → w.heap[b]? = wb.heap[b]?
/-- P looks at blocks of F alone -/
def Stab (P : World → Prop) (F : Nat → Prop) : Prop := ∀ (w w' : World) (S : Nat → Prop), P w → Chg w w' S → (∀ b, F b → ¬ S b) → P w'
section
variable {w0 wb w w' : World} {B : Nat → Prop} {P P' Q Q' : World → Prop} {F F' G G' : Nat → Prop}
theorem Duo.left (h : Duo w0 wb B w P Q F G) (hs : Stab Q G) (hc : Chg w w' F) (hp : P' w') (hF : ∀ b, F' b → F b ∨ w.heap.size ≤ b) (hl : ∀ b, F' b → b < w'.heap.size) : Duo w0 wb B w' P' Q F' G := by
  have hsz := h.bel.size
  refine ⟨hp, hs _ _ _ h.q hc (fun b hg hf => h.ap b hf hg), hl, fun b hb => Nat.lt_of_lt_of_le (h.lq b hb) hc.size, fun b hf hg => ?_, fun b hb => ?_, h.bel.trans (hc.below hsz (fun i hi => h.own i (.inl hi))), fun b hB => ⟨fun hf => ?_, (h.nb b hB).2⟩, fun b hB => Nat.lt_of_lt_of_le (h.bl b hB) hc.size, fun b hB => (hc.block b (h.bl b hB) (h.nb b hB).1).trans (h.kp b hB)⟩
  · rcases hF b hf with h1 | h1
    · exact h.ap b h1 hg
    · have := h.lq b hg; omega
  · rcases hb with hb | hb
    · rcases hF b hb with h1 | h1
      · exact h.own b (.inl h1)
      · omega
    · exact h.own b (.inr hb)
  · rcases hF b hf with h1 | h1
    · exact (h.nb b hB).1 h1
    · have := h.bl b hB; omega
theorem Duo.right (h : Duo w0 wb B w P Q F G) (hs : Stab P F) (hc : Chg w w' G) (hq : Q' w') (hG : ∀ b, G' b → G b ∨ w.heap.size ≤ b) (hl : ∀ b, G' b → b < w'.heap.size) : Duo w0 wb B w' P Q' F G' := by
  have hsz := h.bel.size
  refine ⟨hs _ _ _ h.p hc (fun b hf hg => h.ap b hf hg), hq, fun b hb => Nat.lt_of_lt_of_le (h.lp b hb) hc.size, hl, fun b hf hg => ?_, fun b hb => ?_, h.bel.trans (hc.below hsz (fun i hi => h.own i (.inr hi))), fun b hB => ⟨(h.nb b hB).1, fun hg => ?_⟩, fun b hB => Nat.lt_of_lt_of_le (h.bl b hB) hc.size, fun b hB => (hc.block b (h.bl b hB) (h.nb b hB).2).trans (h.kp b hB)⟩
  · rcases hG b hg with h1 | h1
    · exact h.ap b hf h1
    · have := h.lp b hf; omega
  · rcases hb with hb | hb
    · exact h.own b (.inl hb)
    · rcases hG b hb with h1 | h1
      · exact h.own b (.inr h1)
      · omega
  · rcases hG b hg with h1 | h1
    · exact (h.nb b hB).2 h1
    · have := h.bl b hB; omega
theorem Duo.below (h : Duo w0 wb B w P Q F G) (hs : Stab P F) (hs2 : Stab Q G) (hb : Below w.heap.size w w') : Duo w0 wb B w' P Q F G := by
  have hc : Chg w w' (fun b => w.heap.size ≤ b) := Chg.of_below hb (fun _ h => h)
  refine ⟨hs _ _ _ h.p hc (fun b hf hg => ?_), hs2 _ _ _ h.q hc (fun b hf hg => ?_), fun b hb' => Nat.lt_of_lt_of_le (h.lp b hb') hb.size, fun b hb' => Nat.lt_of_lt_of_le (h.lq b hb') hb.size, h.ap, h.own, h.bel.trans (hb.mono h.bel.size), h.nb, fun b hB => Nat.lt_of_lt_of_le (h.bl b hB) hb.size, fun b hB => (hb.block b (h.bl b hB)).trans (h.kp b hB)⟩
  · have := h.lp b hf; omega
  · have := h.lq b hf; omega
end
theorem stab_mine (d : Nat) (s : DS) (F : Nat → Prop) : Stab (fun w => Mine w d s F) F := fun w w' S h hc hd => h.chg hc hd
theorem stab_rmine (r : Nat) (s : DS) (F : Nat → Prop) : Stab (fun w => RMine w r s F) F := fun w w' S h hc hd => h.chg hc hd
theorem stab_both (g d : Nat) (s : DS) (l : LS) (F K : Nat → Prop) : Stab (fun w => Both w g d s l F K) (fun b => F b ∨ K b) := fun w w' S h hc hd =>
  ⟨h.disk.chg hc (fun b hb => hd b (.inl hb)), h.log.chg hc (fun b hb => hd b (.inr hb)), h.apart⟩
theorem stab_rboth (g r : Nat) (s : DS) (l : LS) (F K : Nat → Prop) : Stab (fun w => RBoth w g r s l F K) (fun b => F b ∨ K b) := fun w w' S h hc hd =>
  ⟨h.disk.chg hc (fun b hb => hd b (.inl hb)), h.log.chg hc (fun b hb => hd b (.inr hb)), h.apart, h.hh⟩
theorem Both.lt {w : World} {g d : Nat} {s : DS} {l : LS} {F K : Nat → Prop} (h : Both w g d s l F K) : ∀ b, F b ∨ K b → b < w.heap.size := fun b hb => by
  obtain ⟨v, rs, hx⟩ := h.log
  rcases hb with hb | hb
  · exact h.disk.lt b hb
  · exact hx.lt b hb
theorem RBoth.lt {w : World} {g d : Nat} {s : DS} {l : LS} {F K : Nat → Prop} (h : RBoth w g d s l F K) : ∀ b, F b ∨ K b → b < w.heap.size := fun b hb => by
  obtain ⟨v, rs, hx⟩ := h.log
  rcases hb with hb | hb
  · exact h.disk.lt b hb
  · exact hx.lt b hb

/-- both disks -/
def DDb (w0 wb : World) (B : Nat → Prop) (w : World) (d r : Nat) (s t : DS) : Prop := ∃ F G, Duo w0 wb B w (fun w => Mine w d s F) (fun w => RMine w r t G) F G
/-- the program's disk with its log, the reference's disk -/
def LDb (w0 wb : World) (B : Nat → Prop) (w : World) (d g r : Nat) (s : DS) (l : LS) (t : DS) : Prop := ∃ F K G, Duo w0 wb B w (fun w => Both w g d s l F K) (fun w => RMine w r t G) (fun b => F b ∨ K b) G
/-- both disks, each with its log -/
def LLb (w0 wb : World) (B : Nat → Prop) (w : World) (d g r q : Nat) (s : DS) (l : LS) (t : DS) (m : LS) : Prop := ∃ F K G H, Duo w0 wb B w (fun w => Both w g d s l F K) (fun w => RBoth w q r t m G H) (fun b => F b ∨ K b) (fun b => G b ∨ H b)
section
variable {w0 wb w w' : World} {B : Nat → Prop} {d g r q : Nat} {s t : DS} {l m : LS}
theorem DDb.below (h : DDb w0 wb B w d r s t) (hb : Below w.heap.size w w') : DDb w0 wb B w' d r s t := by
  obtain ⟨F, G, h⟩ := h
  exact ⟨F, G, h.below (stab_mine _ _ _) (stab_rmine _ _ _) hb⟩
theorem LLb.below (h : LLb w0 wb B w d g r q s l t m) (hb : Below w.heap.size w w') : LLb w0 wb B w' d g r q s l t m := by
  obtain ⟨F, K, G, H, h⟩ := h
  exact ⟨F, K, G, H, h.below (stab_both _ _ _ _ _ _) (stab_rboth _ _ _ _ _ _) hb⟩
theorem DDb.bel (h : DDb w0 wb B w d r s t) : Below w0.heap.size w0 w := by
  obtain ⟨F, G, h⟩ := h
  exact h.bel
theorem LDb.bel (h : LDb w0 wb B w d g r s l t) : Below w0.heap.size w0 w := by
  obtain ⟨F, K, G, h⟩ := h
  exact h.bel
theorem LLb.bel (h : LLb w0 wb B w d g r q s l t m) : Below w0.heap.size w0 w := by
  obtain ⟨F, K, G, H, h⟩ := h
  exact h.bel
theorem LLb.sizes (h : LLb w0 wb B w d g r q s l s l) : 2 * l.half + 1 ≤ s.dur.length ∧ s.dur.length ≤ 131072 ∧ 64 ≤ s.dur.length := by
  obtain ⟨F, K, G, H, h⟩ := h
  have h1 : l.half = (s.dur.length - 1) / 2 := h.q.hh
  have hok := (h.q.disk : RMine w r s G).ok
  have h2 := hok.lo
  have h3 := hok.hi
  exact ⟨by omega, h3, h2⟩
/-- both disks made -/
theorem DDb.make {F G : Nat → Prop} {w1 : World} (h1 : Mine w1 d s F) (hF : ∀ b, F b → w.heap.size ≤ b) (hb : Below w.heap.size w w1) (h2 : RMine w' r t G) (hG : ∀ b, G b → w1.heap.size ≤ b) (hb2 : Below w1.heap.size w1 w') : DDb w wb (fun _ => False) w' d r s t := by
  refine ⟨F, G, h1.below hb2 (Nat.le_refl _), h2, fun b hf => Nat.lt_of_lt_of_le (h1.lt b hf) hb2.size, h2.lt, fun b hf hg => ?_, fun b hb' => ?_, hb.trans (hb2.mono hb.size), (fun b hB => hB.elim), (fun b hB => hB.elim), (fun b hB => hB.elim)⟩
  · have := h1.lt b hf
    have := hG b hg
    omega
  · rcases hb' with hb' | hb'
    · exact hF b hb'
    · have h3 := hG b hb'
      have h4 := hb.size
      omega
theorem LLb.disks (h : LLb w0 wb B w d g r q s l t m) : DDb w0 wb B w d r s t := by
  obtain ⟨F, K, G, H, h⟩ := h
  exact ⟨F, G, h.p.disk, h.q.disk, fun b hb => h.lp b (.inl hb), fun b hb => h.lq b (.inl hb), fun b hf hg => h.ap b (.inl hf) (.inl hg), fun b hb => h.own b (by rcases hb with hb | hb; exact .inl (.inl hb); exact .inr (.inl hb)), h.bel, fun b hB => ⟨fun hf => (h.nb b hB).1 (.inl hf), fun hg => (h.nb b hB).2 (.inl hg)⟩, h.bl, h.kp⟩
-- a slice of the law's arguments
theorem arg_in {A : Option Addr} {n : Nat} {xs : List Value} (hb : Below w0.heap.size w0 w) (hr : Reads w0 w0.heap.size 1 A n xs) : Reads w w.heap.size 1 A n xs := (hr.below hb).more hb.size
theorem DDb.write {A : Option Addr} {c : Nat} {b : List Nat} (a : Int) (h : DDb w0 wb B w d r s t) (hbl : b.length ≤ 1000000000) (hr : Reads w0 w0.heap.size 1 A b.length (b.map byt)) (hb : ∀ x ∈ b, x < 256) :
    Calls Try.prog 12 #[.pointer (some ⟨d, 0, none⟩), .int .i64 a, .slice A b.length c] w fun e w' => e = .returned (.int .i64 (writeS s a b).1) ∧ DDb w0 wb B w' d r (writeS s a b).2 t := by
  obtain ⟨F, G, h⟩ := h
  refine (write_m d s F a A c b w h.p hb hbl (arg_in h.bel hr) (fun hn ad ha hF => ?_)).mono fun e w' ⟨he, F', h1, h2, h3⟩ => ⟨he, F', G, h.left (stab_rmine _ _ _) h2 h1 h3 h1.lt⟩
  have h1 := hr.at_block hn ad ha
  have h2 := h.own _ (.inl hF)
  omega
theorem DDb.rwrite {A : Option Addr} {c : Nat} {b : List Nat} (a : Int) (h : DDb w0 wb B w d r s t) (hbl : b.length ≤ 1000000000) (hr : Reads w0 w0.heap.size 1 A b.length (b.map byt)) (hb : ∀ x ∈ b, x < 256) :
    Calls Try.prog 19 #[.pointer (some ⟨r, 0, none⟩), .int .i64 a, .slice A b.length c] w fun e w' => e = .returned (.int .i64 (writeS t a b).1) ∧ DDb w0 wb B w' d r s (writeS t a b).2 := by
  obtain ⟨F, G, h⟩ := h
  refine (rwrite_m r t G a A c b w h.q hb hbl (arg_in h.bel hr) (fun hn ad ha hF => ?_)).mono fun e w' ⟨he, F', h1, h2, h3⟩ => ⟨he, F, F', h.right (stab_mine _ _ _) h2 h1 h3 h1.lt⟩
  have h1 := hr.at_block hn ad ha
  have h2 := h.own _ (.inr hF)
  omega
/-- a slice that was just made by the law -/
theorem DDb.writeN {A : Option Addr} {c : Nat} {b : List Nat} (a : Int) (h : DDb w0 wb B w d r s t) (hbl : b.length ≤ 1000000000) {X : World} (hX : Below w.heap.size w X) (hr : Reads X X.heap.size 1 A b.length (b.map byt)) (hA : 0 < b.length → ∀ ad, A = some ad → w.heap.size ≤ ad.block) (hb : ∀ x ∈ b, x < 256) :
    Calls Try.prog 12 #[.pointer (some ⟨d, 0, none⟩), .int .i64 a, .slice A b.length c] X fun e w' => e = .returned (.int .i64 (writeS s a b).1) ∧ DDb w0 wb B w' d r (writeS s a b).2 t := by
  obtain ⟨F, G, h⟩ := h
  have h' := h.below (stab_mine _ _ _) (stab_rmine _ _ _) hX
  refine (write_m d s F a A c b X h'.p hb hbl hr (fun hn ad ha hF => ?_)).mono fun e w' ⟨he, F', h1, h2, h3⟩ => ⟨he, F', G, h'.left (stab_rmine _ _ _) h2 h1 h3 h1.lt⟩
  have h1 := hA hn ad ha
  have h2 := h.lp _ hF
  omega
theorem DDb.rwriteN {A : Option Addr} {c : Nat} {b : List Nat} (a : Int) (h : DDb w0 wb B w d r s t) (hbl : b.length ≤ 1000000000) {X : World} (hX : Below w.heap.size w X) (hr : Reads X X.heap.size 1 A b.length (b.map byt)) (hA : 0 < b.length → ∀ ad, A = some ad → w.heap.size ≤ ad.block) (hb : ∀ x ∈ b, x < 256) :
    Calls Try.prog 19 #[.pointer (some ⟨r, 0, none⟩), .int .i64 a, .slice A b.length c] X fun e w' => e = .returned (.int .i64 (writeS t a b).1) ∧ DDb w0 wb B w' d r s (writeS t a b).2 := by
  obtain ⟨F, G, h⟩ := h
  have h' := h.below (stab_mine _ _ _) (stab_rmine _ _ _) hX
  refine (rwrite_m r t G a A c b X h'.q hb hbl hr (fun hn ad ha hF => ?_)).mono fun e w' ⟨he, F', h1, h2, h3⟩ => ⟨he, F, F', h'.right (stab_mine _ _ _) h2 h1 h3 h1.lt⟩
  have h1 := hA hn ad ha
  have h2 := h.lq _ hF
  omega
theorem DDb.crash {A : Option Addr} {c : Nat} {keep : List Bool} (part : Int) (h : DDb w0 wb B w d r s t) (hkl : keep.length ≤ 1000000000000) (hr : Reads w0 w0.heap.size 1 A keep.length (keep.map Value.bool)) :
    Calls Try.prog 15 #[.pointer (some ⟨d, 0, none⟩), .slice A keep.length c, .int .i64 part] w fun e w' => e = .returned (.tuple #[]) ∧ DDb w0 wb B w' d r (crashS s keep part) t := by
  obtain ⟨F, G, h⟩ := h
  refine (crash_m d s F A c keep part w h.p hkl (arg_in h.bel hr) (fun hn ad ha hF => ?_)).mono fun e w' ⟨he, F', h1, h2, h3⟩ => ⟨he, F', G, h.left (stab_rmine _ _ _) h2 h1 h3 h1.lt⟩
  have h1 := hr.at_block hn ad ha
  have h2 := h.own _ (.inl hF)
  omega
theorem DDb.rcrash {A : Option Addr} {c : Nat} {keep : List Bool} (part : Int) (h : DDb w0 wb B w d r s t) (hkl : keep.length ≤ 1000000000000) (hr : Reads w0 w0.heap.size 1 A keep.length (keep.map Value.bool)) :
    Calls Try.prog 28 #[.pointer (some ⟨r, 0, none⟩), .slice A keep.length c, .int .i64 part] w fun e w' => e = .returned (.tuple #[]) ∧ DDb w0 wb B w' d r s (crashS t keep part) := by
  obtain ⟨F, G, h⟩ := h
  refine (rcrash_m r t G A c keep part w h.q hkl (arg_in h.bel hr) (fun hn ad ha hF => ?_)).mono fun e w' ⟨he, F', h1, h2, h3⟩ => ⟨he, F, F', h.right (stab_mine _ _ _) h2 h1 h3 h1.lt⟩
  have h1 := hr.at_block hn ad ha
  have h2 := h.own _ (.inr hF)
  omega
theorem DDb.open_ {l : LS} (h : DDb w0 wb B w d r s t) (ho : openS s = some l) :
    Calls Try.prog 8 #[.pointer (some ⟨d, 0, none⟩)] w fun e w' => ∃ g, e = .returned (.tuple #[.pointer (some ⟨g, 0, none⟩), .int .i64 0]) ∧ LDb w0 wb B w' d g r s l t := by
  obtain ⟨F, G, h⟩ := h
  refine (open_any h.p).mono fun e w' ⟨hb, hq⟩ => ?_
  rw [ho] at hq
  obtain ⟨g, K, he, hbo, hK⟩ := hq
  have hc : Chg w w' F := (Chg.of_below (M := fun i => w.heap.size ≤ i) hb (fun i hi => hi)) |> fun c => ⟨c.os, c.tape, c.output, c.size, fun i hi _ => c.block i hi (by omega)⟩
  refine ⟨g, he, F, K, G, h.left (stab_rmine _ _ _) hc hbo (fun b hb' => ?_) hbo.lt⟩
  rcases hb' with hb' | hb'
  · exact .inl hb'
  · exact .inr (hK b hb')
theorem LDb.open_ {m : LS} (h : LDb w0 wb B w d g r s l t) (ho : openS t = some m) :
    Calls Try.prog 20 #[.pointer (some ⟨r, 0, none⟩)] w fun e w' => ∃ q, e = .returned (.tuple #[.pointer (some ⟨q, 0, none⟩), .int .i64 0]) ∧ LLb w0 wb B w' d g r q s l t m := by
  obtain ⟨F, K, G, h⟩ := h
  refine (ropen_any h.q).mono fun e w' ⟨hb, hq⟩ => ?_
  rw [ho] at hq
  obtain ⟨q, H, he, hbo, hH⟩ := hq
  have hc : Chg w w' G := (Chg.of_below (M := fun i => w.heap.size ≤ i) hb (fun i hi => hi)) |> fun c => ⟨c.os, c.tape, c.output, c.size, fun i hi _ => c.block i hi (by omega)⟩
  refine ⟨q, he, F, K, G, H, h.right (stab_both _ _ _ _ _ _) hc hbo (fun b hb' => ?_) hbo.lt⟩
  rcases hb' with hb' | hb'
  · exact .inl hb'
  · exact .inr (hH b hb')
theorem LLb.app {A : Option Addr} {c : Nat} {b : List Nat} (h : LLb w0 wb B w d g r q s l t m) (hN : 2 * l.half + 1 ≤ s.dur.length) (hbl : b.length ≤ 1000000000) (hr : Reads w0 w0.heap.size 1 A b.length (b.map byt)) (hb : ∀ x ∈ b, x < 256) :
    Calls Try.prog 14 #[.pointer (some ⟨g, 0, none⟩), .slice A b.length c] w fun e w' => e = .returned (.int .i64 (appS s l b).1) ∧ LLb w0 wb B w' d g r q (appS s l b).2.1 (appS s l b).2.2 t m := by
  obtain ⟨F, K, G, H, h⟩ := h
  refine (app_any h.p hN hbl (arg_in h.bel hr) (fun hn ad ha => ?_) hb).mono fun e w' ⟨he, F', K', h1, h2, h3⟩ => ⟨he, F', K', G, H, h.left (stab_rboth _ _ _ _ _ _) h2 h1 h3 h1.lt⟩
  have h1 := hr.at_block hn ad ha
  exact ⟨fun hF => by have := h.own _ (.inl (.inl hF)); omega, fun hF => by have := h.own _ (.inl (.inr hF)); omega⟩
theorem LLb.rapp {A : Option Addr} {c : Nat} {b : List Nat} (h : LLb w0 wb B w d g r q s l t m) (hbl : b.length ≤ 1000000000) (hr : Reads w0 w0.heap.size 1 A b.length (b.map byt)) (hb : ∀ x ∈ b, x < 256) :
    Calls Try.prog 22 #[.pointer (some ⟨q, 0, none⟩), .slice A b.length c] w fun e w' => e = .returned (.int .i64 (appS t m b).1) ∧ LLb w0 wb B w' d g r q s l (appS t m b).2.1 (appS t m b).2.2 := by
  obtain ⟨F, K, G, H, h⟩ := h
  refine (rapp_any h.q hbl (arg_in h.bel hr) (fun hn ad ha => ?_) hb).mono fun e w' ⟨he, F', K', h1, h2, h3⟩ => ⟨he, F, K, F', K', h.right (stab_both _ _ _ _ _ _) h2 h1 h3 h1.lt⟩
  have h1 := hr.at_block hn ad ha
  exact ⟨fun hF => by have := h.own _ (.inr (.inl hF)); omega, fun hF => by have := h.own _ (.inr (.inr hF)); omega⟩
theorem LLb.reset {A : Option Addr} {c : Nat} {rs : List Rc} {X : World} (h : LLb w0 wb B w d g r q s l t m) (hX : Below w.heap.size w X) (hn : rs.length ≤ 100) (hsm : ∀ r ∈ rs, r.b.length ≤ 1000) (hr : RcA X (fun i => w0.heap.size ≤ i ∧ i < w.heap.size) A rs) :
    Calls Try.prog 23 #[.pointer (some ⟨g, 0, none⟩), .slice A rs.length c] X fun e w' => e = .returned (.int .i64 (resetS s l (rs.map (·.b))).1) ∧ LLb w0 wb B w' d g r q (resetS s l (rs.map (·.b))).2.1 (resetS s l (rs.map (·.b))).2.2 t m := by
  obtain ⟨F, K, G, H, h⟩ := h
  have h' := h.below (stab_both _ _ _ _ _ _) (stab_rboth _ _ _ _ _ _) hX
  exact (reset_any h'.p hn hsm (hr.sub (fun i hi => ⟨h.own i (.inl hi), h.lp i hi⟩))).mono fun e w' ⟨he, F', K', h1, h2, h3⟩ => ⟨he, F', K', G, H, h'.left (stab_rboth _ _ _ _ _ _) h2 h1 h3 h1.lt⟩
theorem LLb.rreset {A : Option Addr} {c : Nat} {rs : List Rc} {X : World} (h : LLb w0 wb B w d g r q s l t m) (hX : Below w.heap.size w X) (hn : rs.length ≤ 100) (hsm : ∀ r ∈ rs, r.b.length ≤ 1000) (hr : RcA X (fun i => w0.heap.size ≤ i ∧ i < w.heap.size) A rs) :
    Calls Try.prog 26 #[.pointer (some ⟨q, 0, none⟩), .slice A rs.length c] X fun e w' => e = .returned (.int .i64 (resetS t m (rs.map (·.b))).1) ∧ LLb w0 wb B w' d g r q s l (resetS t m (rs.map (·.b))).2.1 (resetS t m (rs.map (·.b))).2.2 := by
  obtain ⟨F, K, G, H, h⟩ := h
  have h' := h.below (stab_both _ _ _ _ _ _) (stab_rboth _ _ _ _ _ _) hX
  exact (rreset_any h'.q hn hsm (hr.sub (fun i hi => ⟨h.own i (.inr hi), h.lq i hi⟩))).mono fun e w' ⟨he, F', K', h1, h2, h3⟩ => ⟨he, F, K, F', K', h'.right (stab_both _ _ _ _ _ _) h2 h1 h3 h1.lt⟩
theorem LLb.fuse (n : Int) (h : LLb w0 wb B w d g r q s l t m) (hn : n ≤ 9223372036854775807) :
    Calls Try.prog 11 #[.pointer (some ⟨d, 0, none⟩), .int .i64 n] w fun e w' => e = .returned (.tuple #[]) ∧ LLb w0 wb B w' d g r q (fuseS s n) l t m := by
  obtain ⟨F, K, G, H, h⟩ := h
  refine (fuse_m d s F n w h.p.disk hn).mono fun e w' ⟨he, F', h1, h2, h3⟩ => ⟨he, F', K, G, H, ?_⟩
  have hlog := (h.p.log : LogAt w g d l K)
  have hlog' := hlog.chg h2 (fun i hK hF => (h.p : Both w g d s l F K).apart i hF hK)
  have hbo : Both w' g d (fuseS s n) l F' K := ⟨h1, hlog', fun i hF hK => by
    rcases h3 i hF with h4 | h4
    · exact (h.p : Both w g d s l F K).apart i h4 hK
    · have := h.lp i (.inr hK); omega⟩
  refine h.left (stab_rboth _ _ _ _ _ _) (h2.mono (fun i hi => .inl hi)) hbo (fun b hb => ?_) hbo.lt
  rcases hb with hb | hb
  · rcases h3 b hb with h4 | h4
    · exact .inl (.inl h4)
    · exact .inr h4
  · exact .inl (.inr hb)
theorem LLb.rfuse (n : Int) (h : LLb w0 wb B w d g r q s l t m) (hn : n ≤ 9223372036854775807) :
    Calls Try.prog 27 #[.pointer (some ⟨r, 0, none⟩), .int .i64 n] w fun e w' => e = .returned (.tuple #[]) ∧ LLb w0 wb B w' d g r q s l (fuseS t n) m := by
  obtain ⟨F, K, G, H, h⟩ := h
  refine (rfuse_m r t G n w h.q.disk hn).mono fun e w' ⟨he, F', h1, h2, h3⟩ => ⟨he, F, K, F', H, ?_⟩
  have hlog := (h.q.log : RLogAt w q r m H)
  have hlog' := hlog.chg h2 (fun i hK hF => (h.q : RBoth w q r t m G H).apart i hF hK)
  have hdl : (fuseS t n).dur = t.dur := rfl
  have hbo : RBoth w' q r (fuseS t n) m F' H := ⟨h1, hlog', fun i hF hK => by
    rcases h3 i hF with h4 | h4
    · exact (h.q : RBoth w q r t m G H).apart i h4 hK
    · have := h.lq i (.inr hK); omega, by rw [hdl]; exact (h.q : RBoth w q r t m G H).hh⟩
  refine h.right (stab_both _ _ _ _ _ _) (h2.mono (fun i hi => .inl hi)) hbo (fun b hb => ?_) hbo.lt
  rcases hb with hb | hb
  · rcases h3 b hb with h4 | h4
    · exact .inl (.inl h4)
    · exact .inr h4
  · exact .inl (.inr hb)
/-- a box of the law's own -/
theorem LLb.box (h : LLb w0 wb B w d g r q s l t m) (o : Obj) : LLb w0 (w.alloc o) (fun b => b = w.heap.size) (w.alloc o) d g r q s l t m := by
  obtain ⟨F, K, G, H, h⟩ := h
  have h' := h.below (stab_both _ _ _ _ _ _) (stab_rboth _ _ _ _ _ _) ((Below.refl _ w).alloc (Nat.le_refl _) o)
  exact ⟨F, K, G, H, h'.p, h'.q, h'.lp, h'.lq, h'.ap, h'.own, h'.bel, fun b hB => ⟨fun hf => by have := h.lp b hf; omega, fun hg => by have := h.lq b hg; omega⟩, fun b hB => by rw [hB]; simp, fun b hB => rfl⟩
/-- the law's box is let go -/
theorem LLb.unbox (h : LLb w0 wb B w d g r q s l t m) : LLb w0 w0 (fun _ => False) w d g r q s l t m := by
  obtain ⟨F, K, G, H, h⟩ := h
  exact ⟨F, K, G, H, h.p, h.q, h.lp, h.lq, h.ap, h.own, h.bel, (fun b hB => hB.elim), (fun b hB => hB.elim), (fun b hB => hB.elim)⟩
theorem DDb.blk {bx : Nat} {ty : TypeId} {cs : Array Value} (h : DDb w0 wb (fun b => b = bx) w d r s t) (hk : Blk wb bx ty cs) : Blk w bx ty cs := by
  obtain ⟨F, G, h⟩ := h
  exact (h.kp bx rfl).trans hk
theorem LLb.blk {bx : Nat} {ty : TypeId} {cs : Array Value} (h : LLb w0 wb (fun b => b = bx) w d g r q s l t m) (hk : Blk wb bx ty cs) : Blk w bx ty cs := h.disks.blk hk
end
abbrev DD (w0 w : World) (d r : Nat) (s t : DS) : Prop := DDb w0 w0 (fun _ => False) w d r s t
abbrev LD (w0 w : World) (d g r : Nat) (s : DS) (l : LS) (t : DS) : Prop := LDb w0 w0 (fun _ => False) w d g r s l t
abbrev LL (w0 w : World) (d g r q : Nat) (s : DS) (l : LS) (t : DS) (m : LS) : Prop := LLb w0 w0 (fun _ => False) w d g r q s l t m
end Go.Proofs.Ytnjafhlpnoikcaa
