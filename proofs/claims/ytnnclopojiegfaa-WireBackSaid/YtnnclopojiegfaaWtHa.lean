/-
  What the parsers give fits; what a commit's reader knows between two calls. No condition.
-/
import Derived.Test.YtnnclopojiegfaaWtG
import Derived.Test.YtnnclopojiegfaaCmA
namespace Go.Proofs.Ytnnclopojiegfaa
open Go.RowKit
set_option linter.unusedVariables false

section
variable {bs : List Nat} {p q : Nat}
theorem numP_fit {x : Int} (h : numP bs p = some (x, q)) : inI64 x := (numP_bound bs p x q h).1
theorem str_size (l : List Nat) : (str l).size = l.length := by
  show (l.map UInt8.ofNat).toArray.size = l.length
  simp
theorem textP_fit {t : ByteArray} (h : textP bs p = some (t, q)) : t.size ≤ bs.length := by
  unfold textP at h
  split at h
  · cases h
  · split at h
    · cases h
    · injection h with h
      injection h with h1 h2
      rw [← h1, str_size, List.length_take, List.length_drop]
      omega
theorem cellP_fit {y : WCell} (h : cellP bs p = some (y, q)) : y.ok ∧ y.text.size ≤ bs.length := by
  unfold cellP at h
  obtain ⟨⟨x1, q1⟩, h1, h⟩ := Option.bind_eq_some_iff.1 h
  obtain ⟨⟨x2, q2⟩, h2, h⟩ := Option.bind_eq_some_iff.1 h
  obtain ⟨⟨x3, q3⟩, h3, h⟩ := Option.bind_eq_some_iff.1 h
  obtain ⟨⟨x4, q4⟩, h4, h⟩ := Option.bind_eq_some_iff.1 h
  obtain ⟨⟨x5, q5⟩, h5, h⟩ := Option.bind_eq_some_iff.1 h
  obtain ⟨⟨x6, q6⟩, h6, e⟩ := Option.map_eq_some_iff.1 h
  injection e with e1 e2
  subst e1
  exact ⟨⟨numP_fit h1, numP_fit h2, numP_fit h3, numP_fit h6⟩, textP_fit h5⟩
theorem manyP_all {α : Type} {f : Nat → Option (α × Nat)} : ∀ (k p : Nat) (l : List α) (q : Nat), manyP f k p = some (l, q) → ∀ x ∈ l, ∃ p q, f p = some (x, q)
  | 0, p, l, q, h => by
    injection h with h
    injection h with h
    subst h
    exact fun x hx => by cases hx
  | k + 1, p, l, q, h => by
    rw [manyP] at h
    obtain ⟨y, hy, h⟩ := Option.bind_eq_some_iff.1 h
    obtain ⟨z, hz, e⟩ := Option.map_eq_some_iff.1 h
    injection e with e1 e2
    subst e1
    intro x hx
    rcases List.mem_cons.1 hx with rfl | hx
    · exact ⟨p, y.2, hy⟩
    · exact manyP_all k y.2 z.1 z.2 hz x hx
theorem listP_fit {α : Type} {f : Nat → Option (α × Nat)} {l : List α} (h : listP f bs p = some (l, q)) : l.length ≤ bs.length ∧ ∀ x ∈ l, ∃ p q, f p = some (x, q) := by
  unfold listP at h
  obtain ⟨⟨m, q1⟩, hc, h⟩ := Option.bind_eq_some_iff.1 h
  refine ⟨?_, manyP_all m q1 l q h⟩
  rw [manyP_len m q1 l q h]
  unfold countP at hc
  obtain ⟨⟨z, q2⟩, hz, hc⟩ := Option.bind_eq_some_iff.1 hc
  split at hc
  · cases hc
  · injection hc with hc
    injection hc with c1 c2
    have c1' : z.toNat = m := c1
    omega
theorem commitP_fit {y : WCommit} (h : commitP bs p = some (y, q)) : y.ok ∧ y.parents.length ≤ bs.length ∧ y.picks.length ≤ bs.length ∧ y.writes.length ≤ bs.length ∧ y.note.size ≤ bs.length ∧ ∀ x ∈ y.writes, x.text.size ≤ bs.length := by
  unfold commitP at h
  obtain ⟨⟨x1, q1⟩, h1, h⟩ := Option.bind_eq_some_iff.1 h
  obtain ⟨⟨x2, q2⟩, h2, h⟩ := Option.bind_eq_some_iff.1 h
  obtain ⟨⟨x3, q3⟩, h3, h⟩ := Option.bind_eq_some_iff.1 h
  obtain ⟨⟨x4, q4⟩, h4, h⟩ := Option.bind_eq_some_iff.1 h
  obtain ⟨⟨x5, q5⟩, h5, e⟩ := Option.map_eq_some_iff.1 h
  injection e with e1 e2
  subst e1
  obtain ⟨a1, a2⟩ := listP_fit h2
  obtain ⟨b1, b2⟩ := listP_fit h3
  obtain ⟨c1, c2⟩ := listP_fit h5
  refine ⟨⟨numP_fit h1, fun x hx => ?_, fun x hx => ?_, fun x hx => ?_⟩, a1, b1, c1, textP_fit h4, fun x hx => ?_⟩
  · obtain ⟨p, q, h⟩ := a2 x hx; exact numP_fit h
  · obtain ⟨p, q, h⟩ := b2 x hx; exact numP_fit h
  · obtain ⟨p, q, h⟩ := c2 x hx; exact (cellP_fit h).1
  · obtain ⟨p, q, h⟩ := c2 x hx; exact (cellP_fit h).2
theorem commit_chain {s s1 s2 s3 s4 s5 : Option Nat} {a : Int} {b c : List Int} {d : ByteArray} {e : List WCell}
    (h1 : (s.bind (numP bs)).map (·.2) = s1) (k1 : ∀ y, s.bind (numP bs) = some y → y.1 = a)
    (h2 : (s1.bind (listP (numP bs) bs)).map (·.2) = s2) (k2 : ∀ y, s1.bind (listP (numP bs) bs) = some y → y.1 = b)
    (h3 : (s2.bind (listP (numP bs) bs)).map (·.2) = s3) (k3 : ∀ y, s2.bind (listP (numP bs) bs) = some y → y.1 = c)
    (h4 : (s3.bind (textP bs)).map (·.2) = s4) (k4 : ∀ y, s3.bind (textP bs) = some y → y.1 = d)
    (h5 : (s4.bind (listP (cellP bs) bs)).map (·.2) = s5) (k5 : ∀ y, s4.bind (listP (cellP bs) bs) = some y → y.1 = e) :
    (∀ z, s.bind (commitP bs) = some z → z.1 = ⟨a, b, c, d, e⟩) ∧ (s.bind (commitP bs)).map (·.2) = s5 := by
  subst h1 h2 h3 h4 h5
  rcases s with _ | p
  · exact ⟨(fun z hz => by cases hz), rfl⟩
  simp only [Option.bind_some] at *
  unfold commitP
  rcases e1 : numP bs p with _ | y1
  · exact ⟨(fun z hz => by cases hz), rfl⟩
  simp only [e1, Option.map_some, Option.bind_some] at *
  rcases e2 : listP (numP bs) bs y1.2 with _ | y2
  · exact ⟨(fun z hz => by cases hz), rfl⟩
  simp only [e2, Option.map_some, Option.bind_some] at *
  rcases e3 : listP (numP bs) bs y2.2 with _ | y3
  · exact ⟨(fun z hz => by cases hz), rfl⟩
  simp only [e3, Option.map_some, Option.bind_some] at *
  rcases e4 : textP bs y3.2 with _ | y4
  · exact ⟨(fun z hz => by cases hz), rfl⟩
  simp only [e4, Option.map_some, Option.bind_some] at *
  rcases e5 : listP (cellP bs) bs y4.2 with _ | y5
  · exact ⟨(fun z hz => by cases hz), rfl⟩
  simp only [e5, Option.map_some] at *
  refine ⟨fun z hz => ?_, trivial⟩
  injection hz with hz
  subst hz
  rw [k1 _ rfl, k2 _ rfl, k3 _ rfl, k4 _ rfl, k5 _ rfl]
end

/-- a list of one's own that is only read from now on -/
def Held (w : World) (lo k : Nat) (B : Option Addr) (m : Nat) (xs : List Value) : Prop := Reads w w.heap.size k B m xs ∧ ∀ ad, B = some ad → lo ≤ ad.block ∧ ad.block < w.heap.size
section
variable {w w' : World} {lo k m r g : Nat} {B : Option Addr} {xs : List Value}
theorem Held.keep (h : Held w lo k B m xs) (hs : w.heap.size ≤ w'.heap.size) (hk : ∀ i, lo ≤ i → i < w.heap.size → w'.heap[i]? = w.heap[i]?) : Held w' lo k B m xs := by
  refine ⟨⟨h.1.1, fun hn => ?_⟩, fun ad ha => ⟨(h.2 ad ha).1, by have := (h.2 ad ha).2; omega⟩⟩
  obtain ⟨ad, e, hb, hc⟩ := h.1.2 hn
  refine ⟨ad, e, by omega, fun j u hu => ?_⟩
  exact (World.cell?_of_block (by rw [block_of_add]; exact hk ad.block (h.2 ad e).1 hb)).trans (hc j u hu)
theorem Held.grown (h : Held w lo k B m xs) (hg : w.grownBy w' (some r)) (hr : r < lo) : Held w' lo k B m xs :=
  h.keep hg.size fun i h1 h2 => hg.block i h2 (fun e => by injection e; omega)
theorem Held.setCell (h : Held w lo k B m xs) {p : Addr} (hp : p.block < lo) (u : Value) : Held (w.setCell p u) lo k B m xs :=
  h.keep (by simp [World.setCell]) fun i h1 h2 => Below.heap_setCell w p u i (by omega)
theorem Held.low {lo' : Nat} (h : Held w lo k B m xs) (hl : lo' ≤ lo) : Held w lo' k B m xs := ⟨h.1, fun ad ha => ⟨by have := (h.2 ad ha).1; omega, (h.2 ad ha).2⟩⟩
theorem Held.alloc (h : Held w lo k B m xs) (o : Obj) : Held (w.alloc o) lo k B m xs := h.keep (by simp) fun i h1 h2 => Below.heap_alloc w o i h2
theorem Held.drewN (h : Held w lo k B m xs) (j : Nat) : Held (w.drewN j) lo k B m xs := h
theorem Held.below (h : Held w lo k B m xs) (hb : Below w.heap.size w w') : Held w' lo k B m xs := h.keep hb.size fun i h1 h2 => hb.block i h2
end

/-- a commit of one's own -/
structure GoodN (w : World) (lo : Nat) (x : CX) : Prop where
  good : GoodC w x
  b1 : ∀ ad, x.A1 = some ad → lo ≤ ad.block ∧ ad.block < w.heap.size
  b2 : ∀ ad, x.A2 = some ad → lo ≤ ad.block ∧ ad.block < w.heap.size
  b3 : ∀ ad, x.A3 = some ad → lo ≤ ad.block ∧ ad.block < w.heap.size

/-- what a method knows between two calls that fills a box of its own -/
structure Fill (w0 w : World) (r g : Nat) (A : Option Addr) (n c : Nat) (bs : List Nat) (s : Option Nat) (T : TypeId) (zs cs : Array Value) : Prop where
  rd : Rd w r A n c s
  inn : RdIn w r A n c bs
  box : Blk w (g + 1) T cs
  out : Blk w g T zs
  gr : w0.grownBy w (some r)
  new : w0.heap.size ≤ g
  old : r < w0.heap.size
section
variable {w0 w w' : World} {r g n c : Nat} {A : Option Addr} {bs : List Nat} {s s' : Option Nat} {T : TypeId} {zs cs : Array Value}
theorem Fill.next (h : Fill w0 w r g A n c bs s T zs cs) (hr : Rd w' r A n c s') (hg : w.grownBy w' (some r)) : Fill w0 w' r g A n c bs s' T zs cs :=
  ⟨hr, h.inn.grown hg (Nat.le_of_lt h.rd.lt), h.box.grown hg (by have := h.new; have := h.old; intro e; injection e; omega), h.out.grown hg (by have := h.new; have := h.old; intro e; injection e; omega), h.gr.trans hg, h.new, h.old⟩
theorem Fill.put (h : Fill w0 w r g A n c bs s T zs cs) (k : Nat) (u : Value) : Fill w0 (w.setCell ⟨g + 1, k, none⟩ u) r g A n c bs s T zs (cs.setIfInBounds k u) := by
  have h1 := h.new
  have h2 := h.old
  exact ⟨h.rd.far (by show r ≠ g + 1; omega) u, h.inn.setCell (by show r ≤ g + 1; omega) u, h.box.set_ k u, h.out.far (by show g ≠ g + 1; omega) u, only_setCell h.gr (.inr (by show w0.heap.size ≤ g + 1; omega)) u, h.new, h.old⟩
theorem Fill.give (h : Fill w0 w r g A n c bs s T zs cs) (k : Nat) (u : Value) : Fill w0 (w.setCell ⟨g, k, none⟩ u) r g A n c bs s T (zs.setIfInBounds k u) cs := by
  have h1 := h.new
  have h2 := h.old
  exact ⟨h.rd.far (by show r ≠ g; omega) u, h.inn.setCell (by show r ≤ g; omega) u, h.box.far (by show g + 1 ≠ g; omega) u, h.out.set_ k u, only_setCell h.gr (.inr h1) u, h.new, h.old⟩
theorem Fill.start (hr : Rd w r A n c s) (hi : RdIn w r A n c bs) (T : TypeId) (zs : Array Value) : Fill w ((w.alloc (.cells zs T)).alloc (.cells zs T)) r w.heap.size A n c bs s T zs zs := by
  have hlt := hr.lt
  refine ⟨(hr.alloc _).alloc _, (hi.alloc (by omega) _).alloc (by simp; omega) _, ?_, (Blk.new w T zs).alloc _, only_alloc (only_alloc (World.grownBy.refl w _) _) _, Nat.le_refl _, hlt⟩
  have := Blk.new (w.alloc (.cells zs T)) T zs
  have e : (w.alloc (.cells zs T)).heap.size = w.heap.size + 1 := by simp
  rwa [e] at this
theorem Fill.size (h : Fill w0 w r g A n c bs s T zs cs) : g + 2 ≤ w.heap.size := h.box.lt
end
def CommitPost (w : World) (r : Nat) (A : Option Addr) (n c : Nat) (o : Option (WCommit × Nat)) (e : Ending) (w' : World) : Prop :=
  ∃ x : CX, e = .returned (.agg #[.int .i64 x.c.stamp, .slice x.A1 x.c.parents.length x.c1, .slice x.A2 x.c.picks.length x.c2, .string x.c.note, .slice x.A3 x.c.writes.length x.c3]) ∧ (∀ z, o = some z → z.1 = x.c ∧ GoodN w' w.heap.size x) ∧ Rd w' r A n c (o.map (·.2)) ∧ w.grownBy w' (some r)
theorem ints_map_id {l : List Int} : l.map id = l := List.map_id l
theorem goodN_of {w : World} {lo : Nat} {x : CX} {bs : List Nat} {p q : Nat} (hp : commitP bs p = some (x.c, q)) (hn : bs.length ≤ 1000000000) (h1 : Held w lo 1 x.A1 x.c.parents.length (x.c.parents.map (Value.int .i64))) (h2 : Held w lo 1 x.A2 x.c.picks.length (x.c.picks.map (Value.int .i64)))
    (h3 : Held w lo 6 x.A3 x.c.writes.length (x.c.writes.flatMap WCell.vals)) : GoodN w lo x := by
  obtain ⟨f1, f2, f3, f4, f5, f6⟩ := commitP_fit hp
  exact ⟨⟨f1, h1.1, h2.1, h3.1, by omega, by omega, by omega, by omega, fun y hy => by have := f6 y hy; omega⟩, h1.2, h2.2, h3.2⟩
end Go.Proofs.Ytnnclopojiegfaa
