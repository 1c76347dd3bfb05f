/-
  Which keys can stay: words for both Keeps. No condition.
-/
import Derived.Test.YtikabbpipdekfaaPsN
import Derived.Laws.MakeOwn
namespace Go.Proofs.Ytikabbpipdekfaa
open Go.RowKit
set_option linter.unusedVariables false

/-- a text as a number: 0 if it is no key -/
def num (x : ByteArray) : Nat := if keyB x.data.toList = true then W x.data.toList else 0
theorem W_pos {l : List UInt8} (h : Key l) : 0 < W l := V_pos 60 l h.lets h.fin h.pos h.len
theorem num_key {x : ByteArray} (h : keyB x.data.toList = true) : num x = W x.data.toList ∧ 0 < num x := by
  have := W_pos (keyB_iff.1 h)
  unfold num
  rw [if_pos h]
  exact ⟨rfl, this⟩
theorem num_no {x : ByteArray} (h : keyB x.data.toList = false) : num x = 0 := by unfold num; rw [h]; rfl
theorem num_pos {x : ByteArray} : 0 < num x ↔ keyB x.data.toList = true := by
  constructor
  · intro h
    cases hk : keyB x.data.toList with
    | true => rfl
    | false => rw [num_no hk] at h; omega
  · exact fun h => (num_key h).2
theorem num_empty {x : ByteArray} (h : x.data.toList = []) : num x = 0 := num_no (by rw [h]; rfl)
/-- keys compare as their numbers -/
theorem num_lt {x y : ByteArray} (hx : x.data.toList = [] ∨ keyB x.data.toList = true) (hy : keyB y.data.toList = true) : x.data.toList < y.data.toList ↔ num x < num y := by
  have ky := keyB_iff.1 hy
  rcases hx with h | h
  · rw [num_empty h, h]
    have h0 := (num_key hy).2
    constructor
    · intro; exact h0
    · intro
      have := ky.pos
      cases hh : y.data.toList with
      | nil => exact absurd hh this
      | cons c r => exact List.nil_lt_cons c r
  · have kx := keyB_iff.1 h
    rw [(num_key h).1, (num_key hy).1, W_lt_iff kx.lets kx.len ky.lets ky.len ky.fin]
theorem less_num {x y : ByteArray} (hx : x.data.toList = [] ∨ keyB x.data.toList = true) (hy : keyB y.data.toList = true) : Op.bytesLess x.toList y.toList = decide (num x < num y) := by
  rw [less_iff, Bool.eq_iff_iff]
  simp only [decide_eq_true_eq]
  exact num_lt hx hy

/-- an array of numbers, of flags -/
def arrI (l : List Nat) : Array Value := (l.map fun b : Nat => Value.int .i64 (b : Int)).toArray
def arrB (l : List Bool) : Array Value := (l.map Value.bool).toArray
section
variable {w : World} {g : Nat}
theorem arrI_cell {l : List Nat} (h : Blk w g 3 (arrI l)) {i b : Nat} (hi : l[i]? = some b) : w.cell? ⟨g, i, none⟩ = some (.int .i64 (b : Int)) := by
  rw [h.cell]
  simp [arrI, hi]
theorem arrB_cell {l : List Bool} (h : Blk w g 4 (arrB l)) {i : Nat} {b : Bool} (hi : l[i]? = some b) : w.cell? ⟨g, i, none⟩ = some (.bool b) := by
  rw [h.cell]
  simp [arrB, hi]
theorem arrI_set {l : List Nat} (h : Blk w g 3 (arrI l)) (i b : Nat) : Blk (w.setCell ⟨g, i, none⟩ (.int .i64 (b : Int))) g 3 (arrI (l.set i b)) := by
  have := h.set_ i (.int .i64 (b : Int))
  have e : (arrI l).setIfInBounds i (.int .i64 (b : Int)) = arrI (l.set i b) := by unfold arrI; rw [List.map_set]; simp
  rwa [e] at this
theorem arrB_set {l : List Bool} (h : Blk w g 4 (arrB l)) (i : Nat) (b : Bool) : Blk (w.setCell ⟨g, i, none⟩ (.bool b)) g 4 (arrB (l.set i b)) := by
  have := h.set_ i (.bool b)
  have e : (arrB l).setIfInBounds i (.bool b) = arrB (l.set i b) := by unfold arrB; rw [List.map_set]; simp
  rwa [e] at this
end
theorem info_some {P : Program} {t : TypeId} {i : TypeInfo} {z : Value} {s b : Nat} (h : (P.info? t).map (fun i => (i.zero, i.size, i.bytes)) = some (some z, s, b)) : ∃ i, P.info? t = some i ∧ i.zero = some z ∧ i.size = s ∧ i.bytes = b := by
  obtain ⟨i, hi, hr⟩ := Option.map_eq_some_iff.1 h
  injection hr with h1 h2
  injection h2 with h2 h3
  exact ⟨i, hi, h1, h2, h3⟩
theorem madeCells_one (v : Value) (n : Nat) : madeCells #[v] n = (List.replicate n v).toArray := by
  unfold madeCells
  apply Array.ext
  · simp
  · intro i h1 h2
    simp [Nat.mod_one]
theorem make_ints (n : Nat) (hn : n ≤ 1000000) (w : World) : (Instr.makeSlice 43 (.int .i64 (n : Int)) (.int .i64 (n : Int))).run Try.prog w = .ok (.slice (some ⟨w.heap.size, 0, none⟩) n n) (w.alloc (.cells (Array.replicate n (Value.int .i64 0)) 3)) := by
  obtain ⟨i, hi, hz, hs, hb⟩ := info3 (t := 3) (z := .int .i64 0) (s := 1) (b := 8) (by kernel_rfl)
  have h := run_make (P := Try.prog) w 43 3 i (.int .i64 0) Try.underlying43 hi hz .i64 .i64 n n (by omega) (by omega) (by rw [hb]; omega) (by omega)
  rw [hs] at h
  simpa [madeCells_one, Value.cells] using h
theorem make_bools (n : Nat) (hn : n ≤ 1000000) (w : World) : (Instr.makeSlice 34 (.int .i64 (n : Int)) (.int .i64 (n : Int))).run Try.prog w = .ok (.slice (some ⟨w.heap.size, 0, none⟩) n n) (w.alloc (.cells (Array.replicate n (Value.bool false)) 4)) := by
  obtain ⟨i, hi, hz, hs, hb⟩ := info3 (t := 4) (z := .bool false) (s := 1) (b := 1) (by kernel_rfl)
  have h := run_make (P := Try.prog) w 34 4 i (.bool false) Try.underlying34 hi hz .i64 .i64 n n (by omega) (by omega) (by rw [hb]; omega) (by omega)
  rw [hs] at h
  simpa [madeCells_one, Value.cells] using h
theorem arrI_zero (n : Nat) : Array.replicate n (Value.int .i64 0) = arrI (List.replicate n 0) := by unfold arrI; simp
theorem arrB_zero (n : Nat) : Array.replicate n (Value.bool false) = arrB (List.replicate n false) := by unfold arrB; simp
/-- a row of texts that came in -/
structure Txt (w : World) (A : Option Addr) (xs : List ByteArray) : Prop where
  row : Reads w w.heap.size 1 A xs.length (xs.map Value.string)
  few : xs.length ≤ 1000
  short : ∀ x ∈ xs, x.size ≤ 140737488351232
theorem Txt.up {w w' : World} {A : Option Addr} {xs : List ByteArray} (h : Txt w A xs) (hb : Below w.heap.size w w') : Txt w' A xs := ⟨(h.row.below hb).more hb.size, h.few, h.short⟩
theorem Txt.cells {w : World} {A : Option Addr} {xs : List ByteArray} (h : Txt w A xs) : ∃ pb po, (0 < xs.length → A = some ⟨pb, po, none⟩) ∧ ∀ (w' : World), Below w.heap.size w w' → ∀ (i : Nat) x, xs[i]? = some x → w'.cell? ⟨pb, po + i, none⟩ = some (.string x) := by
  rcases Nat.eq_zero_or_pos xs.length with h0 | h0
  · refine ⟨0, 0, fun h => by omega, fun w' hb i x hx => ?_⟩
    rw [List.eq_nil_of_length_eq_zero h0] at hx
    simp at hx
  · obtain ⟨b, off, e, hb, hc⟩ := h.row.head h0 (by omega)
    exact ⟨b, off, fun _ => e, fun w' hw i x hx => (hw.cell (p := ⟨b, off + i, none⟩) hb).trans (hc i _ (by rw [List.getElem?_map, hx]; rfl))⟩
def nums (xs : List ByteArray) : List Nat := xs.map num
theorem nums_at {xs : List ByteArray} {i : Nat} {x : ByteArray} (h : xs[i]? = some x) : (nums xs)[i]? = some (num x) := by unfold nums; rw [List.getElem?_map, h]; rfl
theorem nums_len (xs : List ByteArray) : (nums xs).length = xs.length := by simp [nums]
theorem best_at {ns : List Nat} {i a : Nat} (h : ns[i]? = some a) : best (ns.drop i) = (if 0 < a then mx a (ns.drop (i + 1)) (best (ns.drop (i + 1))) + 1 else 0) :: best (ns.drop (i + 1)) := by
  obtain ⟨hi, e⟩ := List.getElem?_eq_some_iff.1 h
  rw [List.drop_eq_getElem_cons hi, best, e]
theorem best_get : ∀ (ns : List Nat) (i : Nat), (best ns)[i]? = (best (ns.drop i))[0]?
  | [], i => by simp [best]
  | a :: r, 0 => rfl
  | a :: r, i + 1 => by
    rw [List.drop_succ_cons, ← best_get r i, best]; simp
theorem best_drop : ∀ (ns : List Nat) (i : Nat), (best ns).drop i = best (ns.drop i)
  | [], i => by simp [best]
  | a :: r, 0 => rfl
  | a :: r, i + 1 => by rw [List.drop_succ_cons, ← best_drop r i, best, List.drop_succ_cons]
theorem mx_nil (a : Nat) : mx a [] [] = 0 := rfl
theorem mx_app (a : Nat) : ∀ (r bs : List Nat) (k b : Nat), r.length = bs.length → mx a (r ++ [k]) (bs ++ [b]) = max (mx a r bs) (if a < k then b else 0)
  | [], [], k, b, _ => by simp [mx]
  | k' :: r, b' :: bs, k, b, h => by
    rw [List.cons_append, List.cons_append, mx, mx, mx_app a r bs k b (by simpa using h), Nat.max_assoc]
theorem mx_take {a : Nat} {r bs : List Nat} {q k b : Nat} (hl : bs.length = r.length) (hk : r[q]? = some k) (hb : bs[q]? = some b) : mx a (r.take (q + 1)) (bs.take (q + 1)) = max (mx a (r.take q) (bs.take q)) (if a < k then b else 0) := by
  rw [List.take_add_one, List.take_add_one, hk, hb]
  exact mx_app a _ _ k b (by simp [hl])
theorem maxL_app : ∀ (bs : List Nat) (b : Nat), maxL (bs ++ [b]) = max (maxL bs) b
  | [], b => by simp [maxL]
  | x :: bs, b => by rw [List.cons_append, maxL, maxL, maxL_app bs b, Nat.max_assoc]
theorem maxL_take {bs : List Nat} {q b : Nat} (hb : bs[q]? = some b) : maxL (bs.take (q + 1)) = max (maxL (bs.take q)) b := by
  rw [List.take_add_one, hb]; exact maxL_app _ b
theorem gr_at {ns bs : List Nat} {i a b left last : Nat} (h : ns[i]? = some a) (hb : bs[i]? = some b) : gr (ns.drop i) (bs.drop i) left last = if 0 < left ∧ b = left ∧ last < a then true :: gr (ns.drop (i + 1)) (bs.drop (i + 1)) (left - 1) a else false :: gr (ns.drop (i + 1)) (bs.drop (i + 1)) left last := by
  obtain ⟨hi, e⟩ := List.getElem?_eq_some_iff.1 h
  obtain ⟨hj, e'⟩ := List.getElem?_eq_some_iff.1 hb
  rw [List.drop_eq_getElem_cons hi, List.drop_eq_getElem_cons hj, gr, e, e']
def KeepPost (w : World) (ns : List Nat) (e : Ending) (w' : World) : Prop :=
  Below w.heap.size w w' ∧ ∃ A c, e = .returned (.slice A ns.length c) ∧ Reads w' w'.heap.size 1 A ns.length ((keepN ns).map Value.bool)
theorem keep_len (ns : List Nat) : (keepN ns).length = ns.length := gr_len _ _ _ _ (best_len ns)
theorem KeepPost.mk {w w' : World} {ns : List Nat} {g c : Nat} {l : List Bool} (hb : Below w.heap.size w w') (h : Blk w' g 4 (arrB l)) (hl : l = keepN ns) : KeepPost w ns (.returned (.slice (some ⟨g, 0, none⟩) ns.length c)) w' := by
  subst hl
  refine ⟨hb, _, c, rfl, by rw [List.length_map, keep_len]; omega, fun hn => ⟨_, rfl, h.lt, fun j u hu => ?_⟩⟩
  rw [Addr.add_lit, Nat.zero_add, h.cell]
  unfold arrB
  rw [List.getElem?_toArray]
  exact hu
/-- the flags so far, and what is still to come -/
structure Gone (ns : List Nat) (i left : Nat) (last : ByteArray) (out : List Bool) : Prop where
  rest : ∃ done : List Bool, done.length = i ∧ out = done ++ List.replicate (ns.length - i) false ∧ done ++ gr (ns.drop i) ((best ns).drop i) left (num last) = keepN ns
  ok : last.data.toList = [] ∨ keyB last.data.toList = true
theorem Gone.start (ns : List Nat) : Gone ns 0 (maxL (best ns)) ⟨#[]⟩ (List.replicate ns.length false) :=
  ⟨⟨[], rfl, by simp, by rw [num_empty (x := ⟨#[]⟩) rfl]; rfl⟩, .inl rfl⟩
theorem Gone.step {ns : List Nat} {i left b : Nat} {last x : ByteArray} {out : List Bool} (h : Gone ns i left last out) (hx : ns[i]? = some (num x)) (hb : (best ns)[i]? = some b) :
    ((0 < left ∧ b = left ∧ num last < num x) → Gone ns (i + 1) (left - 1) x (out.set i true)) ∧ (¬ (0 < left ∧ b = left ∧ num last < num x) → Gone ns (i + 1) left last out) := by
  obtain ⟨⟨done, h1, h2, h3⟩, h4⟩ := h
  have hi := (List.getElem?_eq_some_iff.1 hx).1
  rw [gr_at hx hb] at h3
  have e : List.replicate (ns.length - i) false = false :: List.replicate (ns.length - (i + 1)) false := by rw [show ns.length - i = (ns.length - (i + 1)) + 1 by omega, List.replicate_succ]
  constructor
  · intro hc
    rw [if_pos hc] at h3
    refine ⟨⟨done ++ [true], by simp [h1], ?_, by rw [List.append_assoc]; exact h3⟩, .inr (num_pos.1 (by omega))⟩
    rw [h2, e, ← h1]
    simp
  · intro hc
    rw [if_neg hc] at h3
    refine ⟨⟨done ++ [false], by simp [h1], ?_, by rw [List.append_assoc]; exact h3⟩, h4⟩
    rw [h2, e]
    simp
theorem Gone.end_ {ns : List Nat} {left : Nat} {last : ByteArray} {out : List Bool} (h : Gone ns ns.length left last out) : out = keepN ns := by
  obtain ⟨⟨done, h1, h2, h3⟩, -⟩ := h
  rw [List.drop_eq_nil_of_le (Nat.le_refl _)] at h3
  rw [h2, ← h3]
  simp [gr]
theorem Gone.len {ns : List Nat} {i left : Nat} {last : ByteArray} {out : List Bool} (h : Gone ns i left last out) (hi : i ≤ ns.length) : out.length = ns.length := by
  obtain ⟨⟨done, h1, h2, h3⟩, -⟩ := h
  rw [h2]; simp; omega
end Go.Proofs.Ytikabbpipdekfaa
