/-
  What the reference's Append knows between its calls; a record more. No condition.
-/
import Derived.Test.YtnjafhlpnoikcaaLrB
namespace Go.Proofs.Ytnjafhlpnoikcaa
open Go.RowKit
set_option linter.unusedVariables false

def RAppPost (w : World) (g r : Nat) (F K : Nat → Prop) (x : Int × DS × LS) (e : Ending) (w' : World) : Prop :=
  e = .returned (.int .i64 x.1) ∧ ∃ F' K', RBoth w' g r x.2.1 x.2.2 F' K' ∧ Chg w w' (fun i => F i ∨ K i) ∧ ∀ i, F' i ∨ K' i → (F i ∨ K i) ∨ w.heap.size ≤ i
theorem LS.alive_same {l : LS} (h : l.dead = false) : ({ l with dead := ((0 : Int) != 0) } : LS) = l := by
  obtain ⟨a, b, c, d, e⟩ := l
  simp only at h
  subst h
  rfl
theorem LS.dead_same {l : LS} {x : Int} (h : x ≠ 0) : ({ l with dead := (x != 0) } : LS) = { l with dead := true } := by
  have : (x != 0) = true := by simpa using h
  rw [this]
/-- what Append knows: w0 is where it began -/
structure RA (w0 wr : World) (g r : Nat) (s : DS) (l : LS) (F K F0 : Nat → Prop) (A : Option Addr) (b : List Nat) : Prop where
  both : RBoth wr g r s l F K
  chg : Chg w0 wr (fun i => F0 i ∨ K i)
  sub : ∀ i, F i → F0 i ∨ w0.heap.size ≤ i
  klt : ∀ i, K i → i < w0.heap.size
  rb : Reads wr wr.heap.size 1 A b.length (b.map byt)
  ra : 0 < b.length → ∀ ad, A = some ad → ad.block < w0.heap.size ∧ ¬ F0 ad.block ∧ ¬ K ad.block
section
variable {w0 wr w' : World} {g r : Nat} {s s' : DS} {l : LS} {F K F0 : Nat → Prop} {A : Option Addr} {b : List Nat}
theorem RA.start (h : RBoth w0 g r s l F K) (hr : Reads w0 w0.heap.size 1 A b.length (b.map byt)) (hA : 0 < b.length → ∀ ad, A = some ad → ¬ F ad.block ∧ ¬ K ad.block) : RA w0 w0 g r s l F K F A b := by
  obtain ⟨v, rs, hx⟩ := h.log
  exact ⟨h, Chg.refl w0 _, fun i hF => .inl hF, hx.lt, hr, fun hn ad ha => ⟨hr.at_block hn ad ha, hA hn ad ha⟩⟩
theorem RA.below (h : RA w0 wr g r s l F K F0 A b) (hb : Below wr.heap.size wr w') : RA w0 w' g r s l F K F0 A b :=
  ⟨h.both.below hb, ⟨hb.os.trans h.chg.os, hb.tape.trans h.chg.tape, hb.output.trans h.chg.output, Nat.le_trans h.chg.size hb.size, fun i hi hn => (hb.block i (Nat.lt_of_lt_of_le hi h.chg.size)).trans (h.chg.block i hi hn)⟩, h.sub, h.klt, (h.rb.below hb).more hb.size, h.ra⟩
theorem RA.noF (h : RA w0 wr g r s l F K F0 A b) : 0 < b.length → ∀ ad, A = some ad → ¬ F ad.block ∧ ¬ K ad.block := fun hn ad ha => by
  obtain ⟨k1, k2, k3⟩ := h.ra hn ad ha
  refine ⟨fun hF => ?_, k3⟩
  rcases h.sub _ hF with h4 | h4
  · exact k2 h4
  · omega
theorem RA.op {x : Int × DS} {e : Ending} (h : RA w0 wr g r s l F K F0 A b) (ho : RWPost wr g r l F K x e w') : e = .returned (.int .i64 x.1) ∧ ∃ F', RA w0 w' g r x.2 { l with dead := x.1 != 0 } F' K F0 A b := by
  obtain ⟨he, F', h1, h2, h3⟩ := ho
  refine ⟨he, F', h1, ?_, fun i hF => ?_, h.klt, ?_, h.ra⟩
  · refine ⟨h2.os.trans h.chg.os, h2.tape.trans h.chg.tape, h2.output.trans h.chg.output, Nat.le_trans h.chg.size h2.size, fun i hi hn => (h2.block i (Nat.lt_of_lt_of_le hi h.chg.size) (fun hF => ?_)).trans (h.chg.block i hi hn)⟩
    rcases hF with hF | hK
    · rcases h.sub i hF with h4 | h4
      · exact hn (.inl h4)
      · omega
    · exact hn (.inr hK)
  · rcases h3 i hF with h4 | h4
    · exact h.sub i h4
    · have := h.chg.size; exact .inr (by omega)
  · refine (h.rb.chg0 h2 (Nat.le_refl _) (fun hn ad ha hx => ?_)).more h2.size
    obtain ⟨k1, k2⟩ := h.noF hn ad ha
    rcases hx with hx | hx
    · exact k1 hx
    · exact k2 hx
theorem RA.fin (h : RA w0 wr g r s l F K F0 A b) (x : Int) : RAppPost w0 g r F0 K (x, s, l) (.returned (.int .i64 x)) wr :=
  ⟨rfl, F, K, h.both, h.chg, fun i hi => by
    rcases hi with hi | hi
    · rcases h.sub i hi with h4 | h4
      · exact .inl (.inl h4)
      · exact .inr h4
    · exact .inl (.inr hi)⟩
end

theorem owns_ne {X : World} {b1 b2 s1 s2 n1 n2 : Nat} {e1 e2 : TypeId} {v1 v2 : Value} {xs1 xs2 : List Value} (h : X.ownsRow b1 e1 s1 v1 n1 xs1) (h' : X.ownsRow b2 e2 s2 v2 n2 xs2) (hne : e1 ≠ e2) {g : Nat} (hg : v1.ownBlock = some g) : v2.ownBlock ≠ some g := by
  rcases h.2 with ⟨rfl, _⟩ | ⟨g', cap, cur, rfl, _, hh, _⟩
  · simp [Value.ownBlock] at hg
  · have : g' = g := by simpa [Value.ownBlock] using hg
    subst this
    exact fun e => own_blk_ne h' hh (fun e => hne e.symm) e

theorem rlog_push {wr w6 : World} {g r : Nat} {l : LS} {v v3 : Value} {rs : List Rc} {K : Nat → Prop} {A2 : Option Addr} {q2 : Nat} {b : List Nat} {fin' : Nat} (h : RLogX wr g r l v rs K) (hb : Below wr.heap.size wr w6) (hr2 : Reads w6 w6.heap.size 1 A2 b.length (b.map byt))
    (hA2 : ∀ ad, A2 = some ad → wr.heap.size ≤ ad.block ∧ v3.ownBlock ≠ some ad.block) (hbb : ∀ x ∈ b, x < 256) (hsm : b.length ≤ 65536) (hown : w6.ownsRow wr.heap.size 32 1 v3 (rs.length + 1) (rs.flatMap rcell ++ [.slice A2 b.length q2])) (hf : l.fin + 5 ≤ fin') (hf2 : fin' ≤ l.half) :
    RLogX ((w6.setCell ⟨g, 1, none⟩ v3).setCell ⟨g, 3, none⟩ (.int .i64 (fin' : Int))) g r { l with recs := l.recs ++ [b], fin := fin' } v3 (rs ++ [⟨A2, q2, b⟩]) (fun i => K i ∨ (wr.heap.size ≤ i ∧ i < w6.heap.size)) ∧ Chg wr ((w6.setCell ⟨g, 1, none⟩ v3).setCell ⟨g, 3, none⟩ (.int .i64 (fin' : Int))) K := by
  have hgl := h.lt g h.kg
  have hs2 := hb.size
  have hv3 := own_from hown
  have hv3l := own_lt hown
  have hblkF := ((h.blk.below hb hgl).set_ 1 v3).set_ 3 (.int .i64 (fin' : Int))
  have hsF : ((w6.setCell ⟨g, 1, none⟩ v3).setCell ⟨g, 3, none⟩ (.int .i64 (fin' : Int))).heap.size = w6.heap.size := by simp [World.setCell]
  have hkeep : ∀ i, i ≠ g → ((w6.setCell ⟨g, 1, none⟩ v3).setCell ⟨g, 3, none⟩ (.int .i64 (fin' : Int))).heap[i]? = w6.heap[i]? := fun i hne =>
    (Below.heap_setCell _ _ _ i (by show i ≠ g; exact hne)).trans (Below.heap_setCell _ _ _ i (by show i ≠ g; exact hne))
  have hownF : ((w6.setCell ⟨g, 1, none⟩ v3).setCell ⟨g, 3, none⟩ (.int .i64 (fin' : Int))).ownsRow 0 32 1 v3 (rs.length + 1) (rs.flatMap rcell ++ [.slice A2 b.length q2]) :=
    (owns_up hown (fun _ _ => Nat.zero_le _)).kept (only_setCell (only_setCell (World.grownBy.refl w6 (some g)) (.inl rfl) v3) (.inl rfl) _) (.inr (fun e => by have := hv3 g e; omega))
  refine ⟨⟨hblkF, ?_, ?_, fun x hx => ?_, .inl h.kg, fun x hx => .inr ⟨hv3 x hx, hv3l x hx⟩, fun x hx => ?_, h.half, hf2, ?_, fun y hy => ?_, fun y hy => ?_⟩, ?_⟩
  · rw [List.flatMap_append, List.length_append]
    exact hownF
  · rw [List.map_append, h.rsb]; rfl
  · rcases List.mem_append.1 hx with hx | hx
    · obtain ⟨g1, g2⟩ := h.good x hx
      refine ⟨?_, fun hn ad ha => ?_⟩
      · refine read_keep g1 (by rw [hsF]; omega) (fun hn ad ha => ?_)
        obtain ⟨k1, k2, k3⟩ := g2 hn ad ha
        exact (hkeep _ k3).trans (hb.block _ (h.lt _ k1))
      · obtain ⟨k1, k2, k3⟩ := g2 hn ad ha
        have hl := h.lt _ k1
        exact ⟨.inl k1, fun e => by have := hv3 _ e; omega, k3⟩
    · obtain rfl : x = ⟨A2, q2, b⟩ := by simpa using hx
      refine ⟨?_, fun hn ad ha => ?_⟩
      · refine read_keep (w := w6) hr2 (by rw [hsF]; exact Nat.le_refl _) (fun hn ad ha => hkeep _ ?_)
        have := (hA2 ad ha).1
        omega
      · have ha' : A2 = some ad := ha
        have l1 := hA2 ad ha'
        have l2 := hr2.at_block hn ad ha'
        exact ⟨.inr ⟨l1.1, l2⟩, l1.2, by omega⟩
  · rw [hsF]
    rcases hx with hx | hx
    · have := h.lt x hx; omega
    · exact hx.2
  · have := h.few
    simp only [List.length_append, List.length_singleton]
    omega
  · rcases List.mem_append.1 hy with hy | hy
    · exact h.byte y hy
    · obtain rfl : y = b := by simpa using hy
      exact hbb
  · rcases List.mem_append.1 hy with hy | hy
    · exact h.small y hy
    · obtain rfl : y = b := by simpa using hy
      exact hsm
  · have c1 : Chg wr w6 K := Chg.of_bel hb
    exact (c1.setCell (p := ⟨g, 1, none⟩) (.inl h.kg) v3).setCell (p := ⟨g, 3, none⟩) (.inl h.kg) _
theorem RA.done {w0 wr w6 : World} {g r : Nat} {s : DS} {l : LS} {F K F0 : Nat → Prop} {A A2 : Option Addr} {b : List Nat} {q2 : Nat} {v v3 : Value} {rs : List Rc} (h : RA w0 wr g r s l F K F0 A b) (hx : RLogX wr g r l v rs K) (hb : Below wr.heap.size wr w6) (hr2 : Reads w6 w6.heap.size 1 A2 b.length (b.map byt))
    (hA2 : ∀ ad, A2 = some ad → wr.heap.size ≤ ad.block ∧ v3.ownBlock ≠ some ad.block) (hbb : ∀ x ∈ b, x < 256) (hown : w6.ownsRow wr.heap.size 32 1 v3 (rs.length + 1) (rs.flatMap rcell ++ [.slice A2 b.length q2])) (hroom : l.fin + 6 + b.length ≤ l.half) :
    RAppPost w0 g r F0 K (0, s, { l with recs := l.recs ++ [b], fin := l.fin + 5 + b.length }) (.returned (.int .i64 0)) ((w6.setCell ⟨g, 1, none⟩ v3).setCell ⟨g, 3, none⟩ (.int .i64 ((l.fin + 5 + b.length : Nat) : Int))) := by
  have hhalf := hx.half
  obtain ⟨h1, h2⟩ := rlog_push (fin' := l.fin + 5 + b.length) hx hb hr2 hA2 hbb (by omega) hown (by omega) (by omega)
  have hs := h.chg.size
  refine ⟨rfl, F, _, ⟨h.both.disk.chg h2 h.both.apart, ⟨_, _, h1⟩, fun i hF hK => ?_, h.both.hh⟩, ?_, fun i hi => ?_⟩
  · have h3 := h.both.disk.lt i hF
    rcases hK with hK | hK
    · exact h.both.apart i hF hK
    · omega
  · exact Chg.union (S := fun i => F0 i ∨ K i) h.chg h2 (fun i hi => hi) (fun i _ hK => .inr hK)
  · rcases hi with hi | hi | hi
    · rcases h.sub i hi with h4 | h4
      · exact .inl (.inl h4)
      · exact .inr h4
    · exact .inl (.inr hi)
    · exact .inr (by omega)
end Go.Proofs.Ytnjafhlpnoikcaa
