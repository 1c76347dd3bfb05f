/-
  What the reference's Reset knows in its loop. No condition.
-/
import Derived.Test.YtnjafhlpnoikcaaLrD
namespace Go.Proofs.Ytnjafhlpnoikcaa
open Go.RowKit
set_option linter.unusedVariables false

/-- the bytes and the copies made so far -/
structure RC (w wr : World) (bs : List (List Nat)) (j : Nat) (av cv : Value) (rs' : List Rc) : Prop where
  all : wr.ownsRow w.heap.size 5 1 av (areaS (bs.take j)).length ((areaS (bs.take j)).map byt)
  cop : wr.ownsRow w.heap.size 32 1 cv rs'.length (rs'.flatMap rcell)
  map : rs'.map (·.b) = bs.take j
  good : ∀ x ∈ rs', Reads wr wr.heap.size 1 x.A x.b.length (x.b.map byt) ∧ (0 < x.b.length → ∀ ad, x.A = some ad → w.heap.size ≤ ad.block ∧ av.ownBlock ≠ some ad.block ∧ cv.ownBlock ≠ some ad.block)
  bel : Below w.heap.size w wr
/-- the same, the bytes of one more record behind them -/
structure RC2 (w wr : World) (bs : List (List Nat)) (j : Nat) (av cv : Value) (rs' : List Rc) : Prop where
  all : wr.ownsRow w.heap.size 5 1 av (areaS (bs.take (j + 1))).length ((areaS (bs.take (j + 1))).map byt)
  cop : wr.ownsRow w.heap.size 32 1 cv rs'.length (rs'.flatMap rcell)
  map : rs'.map (·.b) = bs.take j
  good : ∀ x ∈ rs', Reads wr wr.heap.size 1 x.A x.b.length (x.b.map byt) ∧ (0 < x.b.length → ∀ ad, x.A = some ad → w.heap.size ≤ ad.block ∧ av.ownBlock ≠ some ad.block ∧ cv.ownBlock ≠ some ad.block)
  bel : Below w.heap.size w wr
section
variable {w wr w' : World} {bs : List (List Nat)} {j : Nat} {av av' cv cv' : Value} {rs' : List Rc}
theorem RC.start (w : World) (bs : List (List Nat)) : RC w w bs 0 (.slice none 0 0) (.slice none 0 0) [] :=
  ⟨⟨rfl, .inl ⟨rfl, rfl⟩⟩, ⟨rfl, .inl ⟨rfl, rfl⟩⟩, rfl, (fun x hx => by cases hx), Below.refl _ _⟩
theorem RC.grow (h : RC w wr bs j av cv rs') (hg : Grows wr w' av av') (ho : w'.ownsRow w.heap.size 5 1 av' (areaS (bs.take (j + 1))).length ((areaS (bs.take (j + 1))).map byt)) : RC2 w w' bs j av' cv rs' := by
  have hc := hg.chg
  have hs := h.bel.size
  refine ⟨ho, owns_grows h.cop hg ?_, h.map, fun x hx => ?_, h.bel.trans (hg.below hs (own_from h.all))⟩
  · cases hvo : cv.ownBlock with
    | none => exact .inl rfl
    | some x => exact .inr (fun e => owns_ne h.cop h.all (by decide) hvo e.symm)
  · obtain ⟨g1, g2⟩ := h.good x hx
    refine ⟨(g1.chg0 hc (Nat.le_refl _) (fun hn ad ha => (g2 hn ad ha).2.1)).more hc.size, fun hn ad ha => ?_⟩
    obtain ⟨k1, k2, k3⟩ := g2 hn ad ha
    refine ⟨k1, fun e => ?_, k3⟩
    rcases hg.own _ e with h1 | h1
    · exact k2 h1
    · have := g1.at_block hn ad ha; omega
/-- a copy more: wh holds the copy, w' the longer list -/
theorem RC2.push {wh : World} {Ah : Option Addr} {ch : Nat} {b : List Nat} {o : Obj} (h : RC2 w wr bs j av cv rs') (hb : bs[j]? = some b) (hbel : Below wr.heap.size wr wh) (hh : wh.ownsRow wr.heap.size 5 1 (.slice Ah b.length ch) b.length (b.map byt)) (hg : Grows (wh.alloc o) w' cv cv') (ho : w'.ownsRow w.heap.size 32 1 cv' (rs'.length + 1) (rs'.flatMap rcell ++ [.slice Ah b.length ch])) :
    RC w w' bs (j + 1) av cv' (rs' ++ [⟨Ah, ch, b⟩]) := by
  have hs := h.bel.size
  have hs2 := hbel.size
  have hc1 : Chg wr w' (fun i => cv.ownBlock = some i) := ⟨hg.grown.os.trans hbel.os, hg.grown.tape.trans hbel.tape, hg.grown.output.trans hbel.output, by have := hg.size; simp at this; omega, fun i hi hn => (hg.grown.block i (by simp; omega) (fun e => hn e.symm)).trans ((Below.heap_alloc wh o i (by omega)).trans (hbel.block i hi))⟩
  have hcvl := own_lt h.cop
  have hlt := own_lt h.all
  have hh' := hh.alloc o
  have hne : (Value.slice Ah b.length ch).ownBlock = none ∨ (Value.slice Ah b.length ch).ownBlock ≠ cv.ownBlock := by
    cases hvo : (Value.slice Ah b.length ch).ownBlock with
    | none => exact .inl rfl
    | some x =>
      refine .inr (fun e => ?_)
      have h1 := own_from hh x hvo
      have h2 := hcvl x e.symm
      omega
  have hhF := owns_grows hh' hg hne
  have hrF : Reads w' w'.heap.size 1 Ah b.length (b.map byt) := by
    have := Reads.of_own hhF
    exact this
  refine ⟨owns_chg h.all hc1 (fun g hg' e => owns_ne h.all h.cop (by decide) hg' e), ?_, ?_, fun x hx => ?_, h.bel.trans (hc1.below hs (own_from h.cop))⟩
  · rw [List.flatMap_append, List.length_append]
    exact ho
  · rw [List.map_append, h.map, List.take_add_one, hb]; rfl
  · rcases List.mem_append.1 hx with hx | hx
    · obtain ⟨g1, g2⟩ := h.good x hx
      refine ⟨(g1.chg0 hc1 (Nat.le_refl _) (fun hn ad ha => (g2 hn ad ha).2.2)).more hc1.size, fun hn ad ha => ?_⟩
      obtain ⟨k1, k2, k3⟩ := g2 hn ad ha
      refine ⟨k1, k2, fun e => ?_⟩
      rcases hg.own _ e with h1 | h1
      · exact k3 h1
      · have := g1.at_block hn ad ha; simp at h1; omega
    · obtain rfl : x = ⟨Ah, ch, b⟩ := by simpa using hx
      refine ⟨hrF, fun hn ad ha => ?_⟩
      have ha' : Ah = some ad := ha
      subst ha'
      have hob : (Value.slice (some ad) b.length ch).ownBlock = some ad.block := rfl
      have h1 := own_from hh _ hob
      exact ⟨by omega, fun e => by have := hlt _ e; omega, owns_ne hhF ho (by decide) hob⟩
end

/-- the log after a Reset -/
theorem rlog_reset {w0 wq : World} {g r : Nat} {l : LS} {v : Value} {rs0 rs' : List Rc} {K : Nat → Prop} {cv : Value} {bs : List (List Nat)} (h : RLogX wq g r l v rs0 K)
    (hcop : wq.ownsRow w0.heap.size 32 1 cv rs'.length (rs'.flatMap rcell)) (hmap : rs'.map (·.b) = bs) (hgood : ∀ x ∈ rs', Reads wq wq.heap.size 1 x.A x.b.length (x.b.map byt) ∧ (0 < x.b.length → ∀ ad, x.A = some ad → w0.heap.size ≤ ad.block ∧ cv.ownBlock ≠ some ad.block)) (hgw : g < w0.heap.size)
    (hroom : (areaS bs).length + 1 ≤ l.half) (hby : ∀ b ∈ bs, ∀ x ∈ b, x < 256) (hKw : ∀ i, K i → i < w0.heap.size) (hs0 : w0.heap.size ≤ wq.heap.size) :
    RLogX (((wq.setCell ⟨g, 1, none⟩ cv).setCell ⟨g, 3, none⟩ (.int .i64 ((areaS bs).length : Int))).setCell ⟨g, 2, none⟩ (.bool (!l.second))) g r { l with second := !l.second, recs := bs, fin := (areaS bs).length } cv rs' (fun i => K i ∨ (w0.heap.size ≤ i ∧ (cv.ownBlock = some i ∨ ∃ x ∈ rs', 0 < x.b.length ∧ ∃ ad, x.A = some ad ∧ ad.block = i))) ∧
    Chg wq (((wq.setCell ⟨g, 1, none⟩ cv).setCell ⟨g, 3, none⟩ (.int .i64 ((areaS bs).length : Int))).setCell ⟨g, 2, none⟩ (.bool (!l.second))) K := by
  have hgl := h.lt g h.kg
  have hblkF := ((h.blk.set_ 1 cv).set_ 3 (.int .i64 ((areaS bs).length : Int))).set_ 2 (.bool (!l.second))
  have hsF : (((wq.setCell ⟨g, 1, none⟩ cv).setCell ⟨g, 3, none⟩ (.int .i64 ((areaS bs).length : Int))).setCell ⟨g, 2, none⟩ (.bool (!l.second))).heap.size = wq.heap.size := by simp [World.setCell]
  have hkeep : ∀ i, i ≠ g → (((wq.setCell ⟨g, 1, none⟩ cv).setCell ⟨g, 3, none⟩ (.int .i64 ((areaS bs).length : Int))).setCell ⟨g, 2, none⟩ (.bool (!l.second))).heap[i]? = wq.heap[i]? := fun i hne =>
    (Below.heap_setCell _ _ _ i (by show i ≠ g; exact hne)).trans ((Below.heap_setCell _ _ _ i (by show i ≠ g; exact hne)).trans (Below.heap_setCell _ _ _ i (by show i ≠ g; exact hne)))
  have hcvf := own_from hcop
  have hcvl := own_lt hcop
  refine ⟨⟨hblkF, ?_, hmap, fun x hx => ?_, .inl h.kg, fun x hx => .inr ⟨hcvf x hx, .inl hx⟩, fun x hx => ?_, h.half, by show (areaS bs).length ≤ l.half; omega, area_few bs, hby, fun y hy => ?_⟩, ?_⟩
  · exact (owns_up hcop (fun _ _ => Nat.zero_le _)).kept (only_setCell (only_setCell (only_setCell (World.grownBy.refl wq (some g)) (.inl rfl) cv) (.inl rfl) _) (.inl rfl) _) (.inr (fun e => by have := hcvf g e; omega))
  · obtain ⟨g1, g2⟩ := hgood x hx
    refine ⟨read_keep g1 (by rw [hsF]; exact Nat.le_refl _) (fun hn ad ha => hkeep _ (by have := (g2 hn ad ha).1; omega)), fun hn ad ha => ?_⟩
    obtain ⟨k1, k2⟩ := g2 hn ad ha
    exact ⟨.inr ⟨k1, .inr ⟨x, hx, hn, ad, ha, rfl⟩⟩, k2, by omega⟩
  · rw [hsF]
    rcases hx with hx | ⟨h1, hx | ⟨y, hy, hn, ad, ha, rfl⟩⟩
    · have := h.lt x hx; omega
    · exact hcvl x hx
    · exact (hgood y hy).1.at_block hn ad ha
  · have hy' : y ∈ bs := hy
    have := area_len_mem hy'
    have := h.half
    omega
  · exact (((Chg.refl wq K).setCell (p := ⟨g, 1, none⟩) (.inl h.kg) _).setCell (p := ⟨g, 3, none⟩) (.inl h.kg) _).setCell (p := ⟨g, 2, none⟩) (.inl h.kg) _
/-- the copies, beside the disk and the log, whose blocks are G -/
structure RD (w X : World) (G : Nat → Prop) (bs : List (List Nat)) (cv : Value) (rs' : List Rc) : Prop where
  cop : X.ownsRow w.heap.size 32 1 cv rs'.length (rs'.flatMap rcell)
  map : rs'.map (·.b) = bs
  good : ∀ x ∈ rs', Reads X X.heap.size 1 x.A x.b.length (x.b.map byt) ∧ (0 < x.b.length → ∀ ad, x.A = some ad → w.heap.size ≤ ad.block ∧ cv.ownBlock ≠ some ad.block ∧ ¬ G ad.block)
  free : ∀ b, cv.ownBlock = some b → ¬ G b
section
variable {w X X' : World} {G G' : Nat → Prop} {bs : List (List Nat)} {n : Nat} {av cv : Value} {rs' : List Rc}
theorem RD.of (h : RC w X bs n av cv rs') (hn : bs.take n = bs) (hG : ∀ b, G b → b < w.heap.size) : RD w X G bs cv rs' :=
  ⟨h.cop, by rw [h.map, hn], fun x hx => ⟨(h.good x hx).1, fun hl ad ha => by
    obtain ⟨k1, k2, k3⟩ := (h.good x hx).2 hl ad ha
    exact ⟨k1, k3, fun hg => by have := hG _ hg; omega⟩⟩, fun b hb hg => by have := own_from h.cop b hb; have := hG b hg; omega⟩
theorem RD.of_grow {v3 : Value} (h : RC w X bs n av cv rs') (hn : bs.take n = bs) (hG : ∀ b, G b → b < w.heap.size) (hg : Grows X X' av v3) : RD w X' G bs cv rs' := by
  have hc := hg.chg
  refine ⟨owns_grows h.cop hg ?_, by rw [h.map, hn], fun x hx => ?_, fun b hb hg => by have := own_from h.cop b hb; have := hG b hg; omega⟩
  · cases hvo : cv.ownBlock with
    | none => exact .inl rfl
    | some x => exact .inr (fun e => owns_ne h.cop h.all (by decide) hvo e.symm)
  · obtain ⟨g1, g2⟩ := h.good x hx
    refine ⟨(g1.chg0 hc (Nat.le_refl _) (fun hn ad ha => (g2 hn ad ha).2.1)).more hc.size, fun hn ad ha => ?_⟩
    obtain ⟨k1, k2, k3⟩ := g2 hn ad ha
    exact ⟨k1, k3, fun hg => by have := hG _ hg; omega⟩
theorem RD.chg (h : RD w X G bs cv rs') (hc : Chg X X' G) (hG : ∀ i, G' i → G i ∨ X.heap.size ≤ i) : RD w X' G' bs cv rs' := by
  refine ⟨owns_chg h.cop hc h.free, h.map, fun x hx => ?_, fun b hb hg => ?_⟩
  · obtain ⟨g1, g2⟩ := h.good x hx
    refine ⟨(g1.chg0 hc (Nat.le_refl _) (fun hn ad ha => (g2 hn ad ha).2.2)).more hc.size, fun hn ad ha => ?_⟩
    obtain ⟨k1, k2, k3⟩ := g2 hn ad ha
    refine ⟨k1, k2, fun hg => ?_⟩
    rcases hG _ hg with h1 | h1
    · exact k3 h1
    · have := g1.at_block hn ad ha; omega
  · rcases hG b hg with h1 | h1
    · exact h.free b hb h1
    · have := own_lt h.cop b hb; omega
theorem RD.below (h : RD w X G bs cv rs') (hb : Below X.heap.size X X') : RD w X' G bs cv rs' := h.chg (Chg.of_bel hb) (fun i hi => .inl hi)
end
theorem RA.opD {w0 wr w' : World} {g r : Nat} {s : DS} {l : LS} {F K F0 : Nat → Prop} {A : Option Addr} {b : List Nat} {x : Int × DS} {e : Ending} {bs : List (List Nat)} {cv : Value} {rs' : List Rc} (h : RA w0 wr g r s l F K F0 A b) (ho : RWPost wr g r l F K x e w') (hd : RD w0 wr (fun i => F i ∨ K i) bs cv rs') :
    e = .returned (.int .i64 x.1) ∧ ∃ F', RA w0 w' g r x.2 { l with dead := x.1 != 0 } F' K F0 A b ∧ RD w0 w' (fun i => F' i ∨ K i) bs cv rs' := by
  obtain ⟨he, F', h1, h2, h3⟩ := ho
  obtain ⟨-, F'', h4⟩ := h.op ⟨he, F', h1, h2, h3⟩
  refine ⟨he, F', ⟨h1, h4.chg, fun i hF => ?_, h4.klt, h4.rb, h4.ra⟩, hd.chg h2 (fun i hi => ?_)⟩
  · rcases h3 i hF with h5 | h5
    · exact h.sub i h5
    · have := h.chg.size; exact .inr (by omega)
  · rcases hi with hi | hi
    · rcases h3 i hi with h5 | h5
      · exact .inl (.inl h5)
      · exact .inr h5
    · exact .inl (.inr hi)
theorem RA.doneR {w0 wq : World} {g r : Nat} {s : DS} {l : LS} {F K F0 : Nat → Prop} {A : Option Addr} {b : List Nat} {v cv : Value} {rs rs' : List Rc} {bs : List (List Nat)} (h : RA w0 wq g r s l F K F0 A b) (hx : RLogX wq g r l v rs K) (hd : RD w0 wq (fun i => F i ∨ K i) bs cv rs') (hroom : (areaS bs).length + 1 ≤ l.half) (hby : ∀ b ∈ bs, ∀ x ∈ b, x < 256) :
    RAppPost w0 g r F0 K (0, s, { l with second := !l.second, recs := bs, fin := (areaS bs).length }) (.returned (.int .i64 0)) (((wq.setCell ⟨g, 1, none⟩ cv).setCell ⟨g, 3, none⟩ (.int .i64 ((areaS bs).length : Int))).setCell ⟨g, 2, none⟩ (.bool (!l.second))) := by
  have hs := h.chg.size
  obtain ⟨h1, h2⟩ := rlog_reset hx hd.cop hd.map (fun x hx => ⟨(hd.good x hx).1, fun hn ad ha => ⟨((hd.good x hx).2 hn ad ha).1, ((hd.good x hx).2 hn ad ha).2.1⟩⟩) (h.klt g hx.kg) hroom hby h.klt hs
  refine ⟨rfl, F, _, ⟨h.both.disk.chg h2 h.both.apart, ⟨_, _, h1⟩, fun i hF hK => ?_, h.both.hh⟩, ?_, fun i hi => ?_⟩
  · rcases hK with hK | ⟨hK, hK2 | ⟨y, hy, hn, ad, ha, rfl⟩⟩
    · exact h.both.apart i hF hK
    · exact hd.free i hK2 (.inl hF)
    · exact ((hd.good y hy).2 hn ad ha).2.2 (.inl hF)
  · exact Chg.union (S := fun i => F0 i ∨ K i) h.chg h2 (fun i hi => hi) (fun i _ hK => .inr hK)
  · rcases hi with hi | hi | hi
    · rcases h.sub i hi with h4 | h4
      · exact .inl (.inl h4)
      · exact .inr h4
    · exact .inl (.inr hi)
    · exact .inr hi.1
end Go.Proofs.Ytnjafhlpnoikcaa
