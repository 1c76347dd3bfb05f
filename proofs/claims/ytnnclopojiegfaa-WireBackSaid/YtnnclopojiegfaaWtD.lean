/-
  The reader's methods from any state, good or bad; what write reads. No condition.
-/
import Derived.Test.YtnnclopojiegfaaWtC
namespace Go.Proofs.Ytnnclopojiegfaa
open Go.RowKit
set_option linter.unusedVariables false

/-- what a reader reads from -/
structure RdIn (w : World) (r : Nat) (A : Option Addr) (n c : Nat) (bs : List Nat) : Prop where
  hn : n ≤ 1000000000
  hnc : n ≤ c
  hr : Reads w r 1 A n (bs.map byt)
  hbs : ∀ x ∈ bs, x < 256
section
variable {w w' : World} {r n c : Nat} {A : Option Addr} {bs : List Nat} {s : Option Nat}
theorem RdIn.grown (h : RdIn w r A n c bs) (hg : w.grownBy w' (some r)) (hr : r ≤ w.heap.size) : RdIn w' r A n c bs :=
  ⟨h.hn, h.hnc, h.hr.grown hg hr (fun g hg => by injection hg; omega), h.hbs⟩
theorem RdIn.alloc (h : RdIn w r A n c bs) (hr : r ≤ w.heap.size) (o : Obj) : RdIn (w.alloc o) r A n c bs := ⟨h.hn, h.hnc, h.hr.alloc hr o, h.hbs⟩
theorem RdIn.setCell (h : RdIn w r A n c bs) {p : Addr} (hp : r ≤ p.block) (u : Value) : RdIn (w.setCell p u) r A n c bs := ⟨h.hn, h.hnc, h.hr.setCell hp u, h.hbs⟩
theorem RdIn.len (h : RdIn w r A n c bs) : bs.length = n := by have := h.hr.1; simpa using this
theorem Rd.lt (h : Rd w r A n c s) : r < w.heap.size := by
  cases s with
  | none => obtain ⟨z, hb⟩ := h; exact hb.lt
  | some p => exact h.1.lt
theorem Rd.alloc (h : Rd w r A n c s) (o : Obj) : Rd (w.alloc o) r A n c s := by
  cases s with
  | none => obtain ⟨z, hb⟩ := h; exact ⟨z, hb.alloc o⟩
  | some p => exact ⟨h.1.alloc o, h.2⟩
theorem Rd.far (h : Rd w r A n c s) {p : Addr} (hp : r ≠ p.block) (u : Value) : Rd (w.setCell p u) r A n c s := by
  cases s with
  | none => obtain ⟨z, hb⟩ := h; exact ⟨z, hb.far hp u⟩
  | some q => exact ⟨h.1.far hp u, h.2⟩
theorem Rd.drewN (h : Rd w r A n c s) (k : Nat) : Rd (w.drewN k) r A n c s := h
theorem Rd.grown {row : Option Nat} (h : Rd w r A n c s) (hg : w.grownBy w' row) (hr : some r ≠ row) : Rd w' r A n c s := by
  cases s with
  | none => obtain ⟨z, hb⟩ := h; exact ⟨z, hb.grown hg hr⟩
  | some p => exact ⟨h.1.grown hg hr, h.2⟩
def NumAny (w : World) (r : Nat) (A : Option Addr) (n c : Nat) (o : Option (Int × Nat)) (e : Ending) (w' : World) : Prop :=
  ∃ v, e = .returned (.int .i64 v) ∧ (∀ y, o = some y → y.1 = v) ∧ Rd w' r A n c (o.map (·.2)) ∧ w.grownBy w' (some r)
def TextAny (w : World) (r : Nat) (A : Option Addr) (n c : Nat) (o : Option (ByteArray × Nat)) (e : Ending) (w' : World) : Prop :=
  ∃ v, e = .returned (.string v) ∧ (∀ y, o = some y → y.1 = v) ∧ Rd w' r A n c (o.map (·.2)) ∧ w.grownBy w' (some r)
theorem number_any (h : Rd w r A n c s) (hi : RdIn w r A n c bs) : Calls Try.prog 30 #[.pointer (some ⟨r, 0, none⟩)] w (NumAny w r A n c (s.bind (numP bs))) := by
  have key : Calls Try.prog 30 #[.pointer (some ⟨r, 0, none⟩)] w (NumPost w r A n c (s.bind (numP bs))) := by
    cases s with
    | none => obtain ⟨z, hb⟩ := h; exact number_bad r A n c z w hb
    | some p => exact number_ok r A n c p bs w h.1 h.2 hi.hn hi.hr hi.hbs
  exact key.mono fun e w' ⟨h1, h2, h3⟩ => ⟨_, h1, fun y hy => by rw [hy]; rfl, h2, h3⟩
theorem text_any (h : Rd w r A n c s) (hi : RdIn w r A n c bs) : Calls Try.prog 35 #[.pointer (some ⟨r, 0, none⟩)] w (TextAny w r A n c (s.bind (textP bs))) := by
  have key : Calls Try.prog 35 #[.pointer (some ⟨r, 0, none⟩)] w (TextPost w r A n c (s.bind (textP bs))) := by
    cases s with
    | none => obtain ⟨z, hb⟩ := h; exact text_bad r A n c z w hb
    | some p => exact text_ok r A n c p bs w h.1 h.2 hi.hn hi.hnc hi.hr hi.hbs
  exact key.mono fun e w' ⟨h1, h2, h3⟩ => ⟨_, h1, fun y hy => by rw [hy]; rfl, h2, h3⟩
theorem flag_any (h : Rd w r A n c s) (hi : RdIn w r A n c bs) : Calls Try.prog 49 #[.pointer (some ⟨r, 0, none⟩)] w (FlagPost w r A n c (s.bind (flagP bs))) := by
  cases s with
  | none => obtain ⟨z, hb⟩ := h; exact flag_bad r A n c z w hb
  | some p => exact flag_ok r A n c p bs w h.1 h.2 hi.hn hi.hr
end

/-- a write of a commit as a value -/
def cellV (y : WCell) : Value := .agg #[.int .i64 y.id, .int .i64 y.field, .int .i64 y.n, .bool y.flag, .string y.text, .int .i64 y.ref]
def CellPost (w : World) (r : Nat) (A : Option Addr) (n c : Nat) (o : Option (WCell × Nat)) (e : Ending) (w' : World) : Prop :=
  ∃ y : WCell, e = .returned (.agg #[.int .i64 y.id, .int .i64 y.field, .int .i64 y.n, .bool y.flag, .string y.text, .int .i64 y.ref]) ∧ (∀ z, o = some z → z.1 = y) ∧ Rd w' r A n c (o.map (·.2)) ∧ w.grownBy w' (some r)

/-- the box of a write -/
def CBox (w : World) (g : Nat) (y : WCell) : Prop := Blk w g 61 #[.int .i64 y.id, .int .i64 y.field, .int .i64 y.n, .bool y.flag, .string y.text, .int .i64 y.ref]

/-- what write knows between two calls -/
structure Mid (w0 w : World) (r g : Nat) (A : Option Addr) (n c : Nat) (bs : List Nat) (s : Option Nat) (y : WCell) : Prop where
  rd : Rd w r A n c s
  inn : RdIn w r A n c bs
  box : CBox w (g + 1) y
  out : Blk w g 61 #[.int .i64 0, .int .i64 0, .int .i64 0, .bool false, .string ByteArray.empty, .int .i64 0]
  gr : w0.grownBy w (some r)
  new : w0.heap.size ≤ g
  old : r < w0.heap.size
section
variable {w0 w w' : World} {r g n c : Nat} {A : Option Addr} {bs : List Nat} {s s' : Option Nat} {y : WCell}
theorem Mid.next (h : Mid w0 w r g A n c bs s y) (hr : Rd w' r A n c s') (hg : w.grownBy w' (some r)) : Mid w0 w' r g A n c bs s' y :=
  ⟨hr, h.inn.grown hg (Nat.le_of_lt h.rd.lt), h.box.grown hg (by have := h.new; have := h.old; intro e; injection e; omega), h.out.grown hg (by have := h.new; have := h.old; intro e; injection e; omega), h.gr.trans hg, h.new, h.old⟩
theorem Mid.put (h : Mid w0 w r g A n c bs s y) (k : Nat) (u : Value) (y' : WCell) (hy : (#[.int .i64 y.id, .int .i64 y.field, .int .i64 y.n, .bool y.flag, .string y.text, .int .i64 y.ref] : Array Value).setIfInBounds k u = #[.int .i64 y'.id, .int .i64 y'.field, .int .i64 y'.n, .bool y'.flag, .string y'.text, .int .i64 y'.ref]) :
    Mid w0 (w.setCell ⟨g + 1, k, none⟩ u) r g A n c bs s y' := by
  have h1 := h.new
  have h2 := h.old
  refine ⟨h.rd.far (by show r ≠ g + 1; omega) u, h.inn.setCell (by show r ≤ g + 1; omega) u, ?_, h.out.far (by show g ≠ g + 1; omega) u, only_setCell h.gr (.inr (by show w0.heap.size ≤ g + 1; omega)) u, h.new, h.old⟩
  have := h.box.set_ k u
  unfold CBox
  rw [← hy]
  exact this
end
theorem cell_chain {bs : List Nat} {s s1 s2 s3 s4 s5 s6 : Option Nat} {a b c f : Int} {d : Bool} {e : ByteArray}
    (h1 : (s.bind (numP bs)).map (·.2) = s1) (k1 : ∀ y, s.bind (numP bs) = some y → y.1 = a)
    (h2 : (s1.bind (numP bs)).map (·.2) = s2) (k2 : ∀ y, s1.bind (numP bs) = some y → y.1 = b)
    (h3 : (s2.bind (numP bs)).map (·.2) = s3) (k3 : ∀ y, s2.bind (numP bs) = some y → y.1 = c)
    (h4 : (s3.bind (flagP bs)).map (·.2) = s4) (k4 : ∀ y, s3.bind (flagP bs) = some y → y.1 = d)
    (h5 : (s4.bind (textP bs)).map (·.2) = s5) (k5 : ∀ y, s4.bind (textP bs) = some y → y.1 = e)
    (h6 : (s5.bind (numP bs)).map (·.2) = s6) (k6 : ∀ y, s5.bind (numP bs) = some y → y.1 = f) :
    (∀ z, s.bind (cellP bs) = some z → z.1 = ⟨a, b, c, d, e, f⟩) ∧ (s.bind (cellP bs)).map (·.2) = s6 := by
  subst h1 h2 h3 h4 h5 h6
  rcases s with _ | p
  · exact ⟨(fun z hz => by cases hz), rfl⟩
  simp only [Option.bind_some] at *
  unfold cellP
  rcases e1 : numP bs p with _ | y1
  · exact ⟨(fun z hz => by cases hz), rfl⟩
  simp only [e1, Option.map_some, Option.bind_some] at *
  rcases e2 : numP bs y1.2 with _ | y2
  · exact ⟨(fun z hz => by cases hz), rfl⟩
  simp only [e2, Option.map_some, Option.bind_some] at *
  rcases e3 : numP bs y2.2 with _ | y3
  · exact ⟨(fun z hz => by cases hz), rfl⟩
  simp only [e3, Option.map_some, Option.bind_some] at *
  rcases e4 : flagP bs y3.2 with _ | y4
  · exact ⟨(fun z hz => by cases hz), rfl⟩
  simp only [e4, Option.map_some, Option.bind_some] at *
  rcases e5 : textP bs y4.2 with _ | y5
  · exact ⟨(fun z hz => by cases hz), rfl⟩
  simp only [e5, Option.map_some, Option.bind_some] at *
  rcases e6 : numP bs y5.2 with _ | y6
  · exact ⟨(fun z hz => by cases hz), rfl⟩
  simp only [e6, Option.map_some] at *
  refine ⟨fun z hz => ?_, trivial⟩
  injection hz with hz
  subst hz
  rw [k1 _ rfl, k2 _ rfl, k3 _ rfl, k4 _ rfl, k5 _ rfl, k6 _ rfl]
end Go.Proofs.Ytnnclopojiegfaa
