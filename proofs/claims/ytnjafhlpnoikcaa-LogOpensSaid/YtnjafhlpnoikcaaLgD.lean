/-
  A record more in a log's memory. No condition.
-/
import Derived.Test.YtnjafhlpnoikcaaLgC
namespace Go.Proofs.Ytnjafhlpnoikcaa
open Go.RowKit
set_option linter.unusedVariables false

theorem chg_grows {w w' : World} {v v' : Value} {M : Nat → Prop} (hg : Grows w w' v v') (hv : ∀ b, v.ownBlock = some b → M b) : Chg w w' M := Chg.of_grown hg.grown hv
theorem read_keep {w w' : World} {A : Option Addr} {n : Nat} {xs : List Value} (h : Reads w w.heap.size 1 A n xs) (hs : w.heap.size ≤ w'.heap.size) (hk : 0 < n → ∀ ad, A = some ad → w'.heap[ad.block]? = w.heap[ad.block]?) : Reads w' w'.heap.size 1 A n xs := by
  refine ⟨h.1, fun hn => ?_⟩
  obtain ⟨ad, e, hb, hc⟩ := h.2 hn
  exact ⟨ad, e, by omega, fun j u hu => (World.cell?_of_block (by rw [block_of_add]; exact hk hn ad e)).trans (hc j u hu)⟩

theorem rec_push {wr w2 w3 : World} {g d : Nat} {l : LS} {v v3 : Value} {rs : List Rc} {K : Nat → Prop} {o : Obj} {A2 : Option Addr} {q2 : Nat} {b : List Nat} {fin' : Nat} (h : LogX wr g d l v rs K) (hb : Below wr.heap.size wr w2) (hr2 : Reads w2 w2.heap.size 1 A2 b.length (b.map byt))
    (hA2 : ∀ ad, A2 = some ad → wr.heap.size ≤ ad.block) (hbb : ∀ x ∈ b, x < 256) (hsm : b.length ≤ 65536) (hg : Grows (w2.alloc o) w3 v v3) (hown : w3.ownsRow 0 32 1 v3 (rs.length + 1) (rs.flatMap rcell ++ [.slice A2 b.length q2])) (hf : l.fin + 5 ≤ fin') (hf2 : fin' ≤ l.half) :
    LogX ((w3.setCell ⟨g, 4, none⟩ v3).setCell ⟨g, 3, none⟩ (.int .i64 (fin' : Int))) g d { l with recs := l.recs ++ [b], fin := fin' } v3 (rs ++ [⟨A2, q2, b⟩]) (fun i => K i ∨ (wr.heap.size ≤ i ∧ i < w3.heap.size)) ∧ Chg wr ((w3.setCell ⟨g, 4, none⟩ v3).setCell ⟨g, 3, none⟩ (.int .i64 (fin' : Int))) K := by
  have hgl := h.lt g h.kg
  have hs2 := hb.size
  have hs3 : w2.heap.size + 1 ≤ w3.heap.size := by have := hg.size; simpa using this
  have hvg : v.ownBlock ≠ some g := own_blk_ne h.own h.blk (by decide)
  have hc2 : Chg wr (w2.alloc o) K := (Chg.of_below (M := fun i => wr.heap.size ≤ i) hb (fun i hi => hi)).alloc o |> fun c => ⟨c.os, c.tape, c.output, c.size, fun i hi _ => c.block i hi (by omega)⟩
  have hc3 : Chg wr w3 K := ⟨hg.grown.os.trans hc2.os, hg.grown.tape.trans hc2.tape, hg.grown.output.trans hc2.output, Nat.le_trans hc2.size hg.grown.size, fun i hi hn => (hg.grown.block i (Nat.lt_of_lt_of_le hi hc2.size) (fun e => hn (h.kv i e.symm))).trans (hc2.block i hi hn)⟩
  have hblk3 : Blk w3 g 62 #[.iface 26 (.pointer (some ⟨d, 0, none⟩)), .int .i64 (l.half : Int), .bool l.second, .int .i64 (l.fin : Int), v, .bool l.dead] := hg.blk ((h.blk.below hb hgl).alloc o) hvg
  have hv3 : ∀ x, v3.ownBlock = some x → (v.ownBlock = some x ∨ w2.heap.size + 1 ≤ x) := fun x hx => by
    rcases hg.own x hx with h1 | h1
    · exact .inl h1
    · right; simpa using h1
  have hv3g : v3.ownBlock ≠ some g := own_blk_ne hown hblk3 (by decide)
  have hblkF := (hblk3.set_ 4 v3).set_ 3 (.int .i64 (fin' : Int))
  -- old blocks but v's row and g, and new ones but v3's row, stay
  have hkeep : ∀ i, i < w3.heap.size → i ≠ g → ((w3.setCell ⟨g, 4, none⟩ v3).setCell ⟨g, 3, none⟩ (.int .i64 (fin' : Int))).heap[i]? = w3.heap[i]? := fun i hi hne =>
    (Below.heap_setCell _ _ _ i (by show i ≠ g; exact hne)).trans (Below.heap_setCell _ _ _ i (by show i ≠ g; exact hne))
  have hsF : ((w3.setCell ⟨g, 4, none⟩ v3).setCell ⟨g, 3, none⟩ (.int .i64 (fin' : Int))).heap.size = w3.heap.size := by simp [World.setCell]
  have hownF : ((w3.setCell ⟨g, 4, none⟩ v3).setCell ⟨g, 3, none⟩ (.int .i64 (fin' : Int))).ownsRow 0 32 1 v3 (rs.length + 1) (rs.flatMap rcell ++ [.slice A2 b.length q2]) :=
    hown.kept (only_setCell (only_setCell (World.grownBy.refl w3 (some g)) (.inl rfl) v3) (.inl rfl) _) (.inr hv3g)
  refine ⟨⟨hblkF, ?_, ?_, fun r hr => ?_, .inl h.kg, fun x hx => ?_, fun x hx => ?_, h.half, hf2, ?_, fun y hy => ?_, fun y hy => ?_⟩, ?_⟩
  · rw [List.flatMap_append, List.length_append]
    exact hownF
  · rw [List.map_append, h.rsb]; rfl
  · rcases List.mem_append.1 hr with hr | hr
    · obtain ⟨g1, g2⟩ := h.good r hr
      refine ⟨?_, fun hn ad ha => ?_⟩
      · refine read_keep g1 (by rw [hsF]; omega) (fun hn ad ha => ?_)
        obtain ⟨k1, k2, k3⟩ := g2 hn ad ha
        have hl := h.lt _ k1
        rw [hkeep _ (by omega) k3]
        refine (hg.grown.block _ (by simp; omega) (fun e => k2 e.symm)).trans ?_
        exact (Below.heap_alloc w2 o _ (by omega)).trans (hb.block _ hl)
      · obtain ⟨k1, k2, k3⟩ := g2 hn ad ha
        have hl := h.lt _ k1
        refine ⟨.inl k1, fun e => ?_, k3⟩
        rcases hv3 _ e with h1 | h1
        · exact k2 h1
        · omega
    · obtain rfl : r = ⟨A2, q2, b⟩ := by simpa using hr
      have hlt2 : 0 < b.length → ∀ ad, A2 = some ad → ad.block < w2.heap.size := fun hn ad ha => by
        obtain ⟨ad', e, hl, -⟩ := hr2.2 hn
        rw [ha] at e
        injection e with e
        rw [e]
        exact hl
      refine ⟨?_, fun hn ad ha => ?_⟩
      · refine read_keep (w := w2) hr2 (by rw [hsF]; omega) (fun hn ad ha => ?_)
        have l1 := hA2 ad ha
        have l2 := hlt2 hn ad ha
        rw [hkeep _ (by omega) (by omega)]
        refine (hg.grown.block _ (by simp; omega) (fun e => ?_)).trans (Below.heap_alloc w2 o _ l2)
        have := h.lt _ (h.kv _ e.symm)
        omega
      · have ha' : A2 = some ad := ha
        have l1 := hA2 ad ha'
        have l2 := hlt2 hn ad ha'
        refine ⟨.inr ⟨l1, by omega⟩, fun e => ?_, by omega⟩
        rcases hv3 _ e with h1 | h1
        · have := h.lt _ (h.kv _ h1); omega
        · omega
  · rcases hv3 x hx with h1 | h1
    · exact .inl (h.kv x h1)
    · exact .inr ⟨by omega, own_lt hown x hx⟩
  · rw [hsF]
    rcases hx with hx | hx
    · have := h.lt x hx; omega
    · exact hx.2
  · have := h.few
    simp only [List.length_append, List.length_singleton]
    omega
  · rcases List.mem_append.1 hy with hy | hy
    · exact h.byte y hy
    · obtain rfl : y = b := by simpa using hy
      exact hbb
  · rcases List.mem_append.1 hy with hy | hy
    · exact h.small y hy
    · obtain rfl : y = b := by simpa using hy
      exact hsm
  · exact (hc3.setCell (p := ⟨g, 4, none⟩) (.inl h.kg) v3).setCell (p := ⟨g, 3, none⟩) (.inl h.kg) _
end Go.Proofs.Ytnjafhlpnoikcaa
