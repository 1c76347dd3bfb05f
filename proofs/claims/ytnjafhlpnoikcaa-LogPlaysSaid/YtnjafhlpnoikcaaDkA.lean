/-
  A disk in memory; its small functions. No condition.
-/
import Derived.Test.YtnjafhlpnoikcaaRows
import Derived.Test.YtnjafhlpnoikcaaDkM
namespace Go.Proofs.Ytnjafhlpnoikcaa
open Go.RowKit
set_option linter.unusedVariables false

/-- a pending write as it lies in memory: where, bytes, their address and capacity -/
abbrev Wr := Nat × List Nat × Option Addr × Nat
def wcell (x : Wr) : List Value := [.int .i64 (x.1 : Int), .slice x.2.2.1 x.2.1.length x.2.2.2]
def wof (x : Wr) : Nat × List Nat := (x.1, x.2.1)
theorem wcell_len (l : List Wr) : (l.flatMap wcell).length = l.length * 2 := by
  induction l with
  | nil => rfl
  | cons p l ih => simp [wcell] at ih ⊢; omega
theorem wcell_at (l : List Wr) : ∀ (k : Nat) (x : Wr), l[k]? = some x → (l.flatMap wcell)[k * 2]? = some (.int .i64 (x.1 : Int)) ∧ (l.flatMap wcell)[k * 2 + 1]? = some (.slice x.2.2.1 x.2.1.length x.2.2.2) := by
  induction l with
  | nil => intro k p h; simp at h
  | cons q l ih =>
    intro k p h
    cases k with
    | zero => simp at h; subst h; simp [wcell]
    | succ k =>
      have := ih k p (by simpa using h)
      rw [show (k + 1) * 2 = k * 2 + 1 + 1 from by omega]
      simpa [wcell] using this
/-- the pending writes: a row of one's own, in a block of M; the bytes in blocks of I -/
structure Waits (w : World) (e : TypeId) (M I : Nat → Prop) (v : Value) (ws : List Wr) : Prop where
  own : w.ownsRow 0 e 2 v ws.length (ws.flatMap wcell)
  mine : ∀ g, v.ownBlock = some g → M g
  byt : ∀ x ∈ ws, Reads w w.heap.size 1 x.2.2.1 x.2.1.length (x.2.1.map byt) ∧ (∀ ad, x.2.2.1 = some ad → I ad.block) ∧ x.2.1.length ≤ x.2.2.2

/-- the first bytes of a block of bytes -/
def RowB (w : World) (g c : Nat) (l : List Nat) : Prop := ∃ cs : Array Value, Blk w g 5 cs ∧ cs.size = c ∧ l.length ≤ c ∧ cs.toList.take l.length = l.map byt
section
variable {w w' : World} {g c : Nat} {l : List Nat} {M : Nat → Prop}
theorem RowB.of_blk (h : Blk w g 5 (l.map byt).toArray) : RowB w g l.length l := ⟨_, h, by simp, Nat.le_refl _, List.take_of_length_le (by simp)⟩
theorem RowB.lt (h : RowB w g c l) : g < w.heap.size := by obtain ⟨cs, h1, _⟩ := h; exact h1.lt
theorem RowB.len (h : RowB w g c l) : l.length ≤ c := by obtain ⟨cs, _, _, h1, _⟩ := h; exact h1
theorem RowB.chg (h : RowB w g c l) (hc : Chg w w' M) (hg : ¬ M g) : RowB w' g c l := by obtain ⟨cs, h1, h2⟩ := h; exact ⟨cs, h1.chg hc hg, h2⟩
theorem RowB.ne_ {g' : Nat} {t : TypeId} {cs' : Array Value} (h : RowB w g c l) (h' : Blk w g' t cs') (hne : 5 ≠ t) : g ≠ g' := by obtain ⟨cs, h1, h2⟩ := h; exact Blk.ne_ h1 h' hne
theorem RowB.own_ne {base : Nat} {e : TypeId} {size n : Nat} {v : Value} {xs : List Value} (h : RowB w g c l) (ho : w.ownsRow base e size v n xs) (hne : e ≠ 5) : v.ownBlock ≠ some g := by
  obtain ⟨cs, h1, h2⟩ := h
  exact own_blk_ne ho h1 hne
theorem RowB.reads (h : RowB w g c l) (a n : Nat) (hn : a + n ≤ l.length) : Reads w w.heap.size 1 (some ⟨g, a, none⟩) n (((l.drop a).take n).map byt) := by
  obtain ⟨cs, h1, h2, h3, h4⟩ := h
  refine ⟨by simp; omega, fun _ => ⟨_, rfl, h1.lt, fun j u hu => ?_⟩⟩
  rw [Addr.add_lit, h1.cell]
  rw [List.getElem?_map, List.getElem?_take] at hu
  split at hu
  · rw [List.getElem?_drop] at hu
    have : (l.map byt)[a + j]? = some u := by rw [List.getElem?_map]; exact hu
    rw [← h4, List.getElem?_take] at this
    split at this
    · simpa using this
    · cases this
  · cases hu
theorem RowB.of_own {base n : Nat} {A : Option Addr} (h : w.ownsRow base 5 1 (.slice A n c) n (l.map byt)) (hn : 0 < n) : ∃ g, A = some ⟨g, 0, none⟩ ∧ base ≤ g ∧ RowB w g c l ∧ l.length = n := by
  have hl : l.length = n := by have := h.1; simpa using this
  rcases h.2 with ⟨_, h0⟩ | ⟨g, cap, cur, hv, hb, hh, hnc, hcm, hcs, htake⟩
  · omega
  · injection hv with hA _ hc
    subst hA hc
    refine ⟨g, rfl, hb, ⟨cur, hh, by omega, by omega, ?_⟩, hl⟩
    rw [hl]
    simpa using htake
end

section
variable {w w' : World} {g c : Nat} {l : List Nat}
theorem RowB.alloc (h : RowB w g c l) (o : Obj) : RowB (w.alloc o) g c l := by obtain ⟨cs, h1, h2⟩ := h; exact ⟨cs, h1.alloc o, h2⟩
theorem RowB.drew (h : RowB w g c l) : RowB w.drew g c l := h
theorem RowB.drewN (h : RowB w g c l) (k : Nat) : RowB (w.drewN k) g c l := h
theorem RowB.below {B : Nat} (h : RowB w g c l) (hb : Below B w w') (hg : g < B) : RowB w' g c l := by obtain ⟨cs, h1, h2⟩ := h; exact ⟨cs, h1.below hb hg, h2⟩
theorem RowB.far (h : RowB w g c l) {p : Addr} (hp : g ≠ p.block) (u : Value) : RowB (w.setCell p u) g c l := by obtain ⟨cs, h1, h2⟩ := h; exact ⟨cs, h1.far hp u, h2⟩
theorem RowB.grown {row : Option Nat} (h : RowB w g c l) (hb : w.grownBy w' row) (hg : some g ≠ row) : RowB w' g c l := by obtain ⟨cs, h1, h2⟩ := h; exact ⟨cs, h1.grown hb hg, h2⟩
theorem RowB.grows {u v : Value} (h : RowB w g c l) (hb : Grows w w' u v) (hg : u.ownBlock ≠ some g) : RowB w' g c l := by obtain ⟨cs, h1, h2⟩ := h; exact ⟨cs, hb.blk h1 hg, h2⟩
end
/-- a disk at block d -/
structure DiskX (w : World) (d gd gs cd cs : Nat) (v : Value) (left : Int) (ws : List Wr) (s : DS) (M I : Nat → Prop) : Prop where
  blk : Blk w d 73 #[.slice (some ⟨gd, 0, none⟩) s.dur.length cd, .slice (some ⟨gs, 0, none⟩) s.dur.length cs, v, .bool s.off, .bool s.fuse.isSome, .int .i64 left]
  dur : RowB w gd cd s.dur
  seen : RowB w gs cs (seenL s.dur s.wait)
  ne : gd ≠ gs
  md : M d
  mgd : M gd
  mgs : M gs
  waits : Waits w 77 M I v ws
  wsv : ws.map wof = s.wait
  ok : s.ok
  fuse : ∀ k, s.fuse = some k → left = (k : Int)
  left : 0 ≤ left ∧ left ≤ 9223372036854775807
  apart : ∀ b, M b → ¬ I b
  lt : ∀ b, M b ∨ I b → b < w.heap.size
def DiskAt (w : World) (d : Nat) (s : DS) (M I : Nat → Prop) : Prop := ∃ gd gs cd cs v left ws, DiskX w d gd gs cd cs v left ws s M I

section
variable {w w' : World} {M I M' : Nat → Prop}
theorem owns_chg {e size n : Nat} {base : Nat} {v : Value} {xs : List Value} (h : w.ownsRow base e size v n xs) (hc : Chg w w' M') (hv : ∀ g, v.ownBlock = some g → ¬ M' g) : w'.ownsRow base e size v n xs := by
  refine ⟨h.1, ?_⟩
  have hlt := own_lt h
  rcases h.2 with h0 | ⟨g, cap, cur, rfl, hbase, hh, rest⟩
  · exact .inl h0
  · exact .inr ⟨g, cap, cur, rfl, hbase, (hc.block g (hlt g rfl) (hv g rfl)).trans hh, rest⟩
theorem Waits.chg {e : TypeId} {v : Value} {ws : List Wr} (h : Waits w e M I v ws) (hc : Chg w w' M') (h1 : ∀ b, M' b → ¬ M b) (h2 : ∀ b, M' b → ¬ I b) : Waits w' e M I v ws :=
  ⟨owns_chg h.own hc (fun g hg hm => h1 g hm (h.mine g hg)), h.mine, fun x hx => by
    obtain ⟨q1, q2, q3⟩ := h.byt x hx
    exact ⟨(q1.chg hc (Nat.le_refl _) (fun ad e hm => h2 _ hm (q2 ad e))).more hc.size, q2, q3⟩⟩
theorem DiskX.chg {d gd gs cd cs : Nat} {v : Value} {left : Int} {ws : List Wr} {s : DS} (h : DiskX w d gd gs cd cs v left ws s M I) (hc : Chg w w' M') (h1 : ∀ b, M' b → ¬ M b) (h2 : ∀ b, M' b → ¬ I b) : DiskX w' d gd gs cd cs v left ws s M I :=
  ⟨h.blk.chg hc (fun hm => h1 _ hm h.md), h.dur.chg hc (fun hm => h1 _ hm h.mgd), h.seen.chg hc (fun hm => h1 _ hm h.mgs), h.ne, h.md, h.mgd, h.mgs, h.waits.chg hc h1 h2, h.wsv, h.ok, h.fuse, h.left, h.apart, fun b hb => Nat.lt_of_lt_of_le (h.lt b hb) hc.size⟩
theorem DiskAt.chg {d : Nat} {s : DS} (h : DiskAt w d s M I) (hc : Chg w w' M') (h1 : ∀ b, M' b → ¬ M b) (h2 : ∀ b, M' b → ¬ I b) : DiskAt w' d s M I := by
  obtain ⟨gd, gs, cd, cs, v, left, ws, hx⟩ := h
  exact ⟨gd, gs, cd, cs, v, left, ws, hx.chg hc h1 h2⟩
theorem DiskX.drewN {d gd gs cd cs : Nat} {v : Value} {left : Int} {ws : List Wr} {s : DS} (h : DiskX w d gd gs cd cs v left ws s M I) (n : Nat) : DiskX (w.drewN n) d gd gs cd cs v left ws s M I :=
  h.chg (M' := fun _ => False) ((Chg.refl w _).drewN n) (fun _ h => h.elim) (fun _ h => h.elim)
theorem DiskX.cells {d gd gs cd cs : Nat} {v : Value} {left : Int} {ws : List Wr} {s : DS} (h : DiskX w d gd gs cd cs v left ws s M I) :
    w.cell? ⟨d, 0, none⟩ = some (.slice (some ⟨gd, 0, none⟩) s.dur.length cd) ∧ w.cell? ⟨d, 1, none⟩ = some (.slice (some ⟨gs, 0, none⟩) s.dur.length cs) ∧ w.cell? ⟨d, 2, none⟩ = some v ∧
    w.cell? ⟨d, 3, none⟩ = some (.bool s.off) ∧ w.cell? ⟨d, 4, none⟩ = some (.bool s.fuse.isSome) ∧ w.cell? ⟨d, 5, none⟩ = some (.int .i64 left) :=
  ⟨by rw [h.blk.cell]; rfl, by rw [h.blk.cell]; rfl, by rw [h.blk.cell]; rfl, by rw [h.blk.cell]; rfl, by rw [h.blk.cell]; rfl, by rw [h.blk.cell]; rfl⟩
theorem Waits.slice {e : TypeId} {v : Value} {ws : List Wr} (h : Waits w e M I v ws) : ∃ A c, v = .slice A ws.length c := by
  obtain ⟨A, c, hv, -, -⟩ := reads_of_owns h.own
  exact ⟨A, c, hv⟩
end


set_option maxRecDepth 100000 in
set_option maxHeartbeats 400000 in
theorem pending_any (d : Nat) (s : DS) (M I : Nat → Prop) (w : World) (h : DiskAt w d s M I) : Calls Try.prog 49 #[.pointer (some ⟨d, 0, none⟩)] w fun e w' => e = .returned (.int .i64 s.wait.length) ∧ w = w' := by
  obtain ⟨gd, gs, cd, cs, v, left, ws, hx⟩ := h
  obtain ⟨c0, c1, c2, c3, c4, c5⟩ := hx.cells
  obtain ⟨A, c, rfl⟩ := hx.waits.slice
  have hl : s.wait.length = ws.length := by rw [← hx.wsv]; simp
  rw [hl]
  clear hx hl
  go_enter Try.func49, Try.ntmps49
  go_wp2_with fail
  go_ret
  simp

set_option maxRecDepth 100000 in
set_option maxHeartbeats 400000 in
theorem size_any (d : Nat) (s : DS) (M I : Nat → Prop) (w : World) (h : DiskAt w d s M I) : Calls Try.prog 29 #[.pointer (some ⟨d, 0, none⟩)] w fun e w' => e = .returned (.int .i64 s.dur.length) ∧ w = w' := by
  obtain ⟨gd, gs, cd, cs, v, left, ws, hx⟩ := h
  obtain ⟨c0, c1, c2, c3, c4, c5⟩ := hx.cells
  clear hx
  go_enter Try.func29, Try.ntmps29
  go_wp2_with fail
  go_ret
  simp

set_option maxRecDepth 100000 in
set_option maxHeartbeats 800000 in
/-- inside: of the disk's own part -/
theorem inside_any (d g N c : Nat) (a n : Int) (w : World) (hN : N ≤ 131072) (hn : n ≤ 9223372036854775807) (hc : w.cell? ⟨d, 0, none⟩ = some (.slice (some ⟨g, 0, none⟩) N c)) :
    Calls Try.prog 32 #[.pointer (some ⟨d, 0, none⟩), .int .i64 a, .int .i64 n] w fun e w' => e = .returned (.bool (insideB N a n)) ∧ w = w' := by
  by_cases h1 : 0 ≤ a
  rotate_left
  · have e : insideB N a n = false := by simp [insideB]; omega
    have d1 : decide (0 ≤ a) = false := by simpa using h1
    rw [e]
    go_enter Try.func32, Try.ntmps32
    go_wp2_with fail
    go_ret
    exact ⟨rfl, rfl⟩
  have d1 : decide (0 ≤ a) = true := by simpa using h1
  by_cases h2 : 0 ≤ n
  rotate_left
  · have e : insideB N a n = false := by simp [insideB]; omega
    have d2 : decide (0 ≤ n) = false := by simpa using h2
    rw [e]
    go_enter Try.func32, Try.ntmps32
    go_wp2_with fail
    go_ret
    exact ⟨rfl, rfl⟩
  have d2 : decide (0 ≤ n) = true := by simpa using h2
  by_cases h3 : a ≤ N
  rotate_left
  · have e : insideB N a n = false := by simp [insideB]; omega
    have d3 : decide (a ≤ (N : Int)) = false := by simpa using h3
    rw [e]
    go_enter Try.func32, Try.ntmps32
    go_wp2_with fail
    go_ret
    exact ⟨rfl, rfl⟩
  have d3 : decide (a ≤ (N : Int)) = true := by simpa using h3
  have e : insideB N a n = decide (n ≤ (N : Int) - a) := by simp [insideB, h1, h2, h3]
  rw [e]
  go_enter Try.func32, Try.ntmps32
  go_wp2_with fail
  go_ret
  exact ⟨rfl, rfl⟩
end Go.Proofs.Ytnjafhlpnoikcaa
