/-
  The nodes that the paths of a tree denote are its subtrees. No condition.
-/
import Derived.Test.YtdabmjcpiblofaaDoorPkPa
import Derived.Test.YtdabmjcpiblofaaDoorPkAt
import Derived.Test.YtdabmjcpiblofaaDoorPkL
namespace Go.Proofs.YtdabmjcpiblofaaDoor
open Go.RowKit
set_option linter.unusedVariables false

mutual
theorem paths_pre : ∀ (t : T) (P Q : List Int), T.paths t (P ++ Q) = (T.paths t Q).map (P ++ ·)
  | .node k s l ks, P, Q => by
    rw [T.paths, T.paths, List.map_cons, pathss_pre ks P Q 0]
theorem pathss_pre : ∀ (ks : List T) (P Q : List Int) (i : Nat), T.pathss ks (P ++ Q) i = (T.pathss ks Q i).map (P ++ ·)
  | [], P, Q, i => by rw [T.pathss, T.pathss]; rfl
  | k :: ks, P, Q, i => by
    rw [T.pathss, T.pathss, List.map_append, List.append_assoc, paths_pre k P (Q ++ [(i : Int)]), pathss_pre ks P Q (i + 1)]
end
theorem find_kid {t k : TX} {i : Nat} (h : t.kids[i]? = some k) (p : List Int) : t.find ((i : Int) :: p) = k.find p := by
  have hlt := (List.getElem?_eq_some_iff.1 h).1
  rw [TX.find, if_neg (by omega)]
  simp [h]
theorem paths_subs (t : TX) : (t.plain.paths []).map (fun p => (t.find p).map TX.plain) = t.plain.subs.map some := by
  induction t using TX.ind with
  | h t ih =>
    have key : ∀ (l : List TX) (i : Nat), (∀ (j : Nat) (k : TX), l[j]? = some k → t.kids[i + j]? = some k) → (T.pathss (l.map TX.plain) [] i).map (fun p => (t.find p).map TX.plain) = (T.subsL (l.map TX.plain)).map some := by
      intro l
      induction l with
      | nil => intro i _; rw [List.map_nil, T.pathss, T.subsL]; rfl
      | cons k l ihl =>
        intro i h
        have hk : t.kids[i]? = some k := by have := h 0 k rfl; simpa using this
        rw [List.map_cons, T.pathss, T.subsL, List.map_append, List.map_append, ihl (i + 1) (fun j x hj => by have := h (j + 1) x (by simpa using hj); rw [show i + 1 + j = i + (j + 1) by omega]; exact this)]
        congr 1
        have e : ([] : List Int) ++ [(i : Int)] = [(i : Int)] ++ [] := rfl
        rw [e, paths_pre, List.map_map, ← ih k (List.mem_of_getElem? hk)]
        refine List.map_congr_left (fun p _ => ?_)
        show (t.find ((i : Int) :: p)).map TX.plain = _
        rw [find_kid hk]
    rw [paths_plain, subs_plain, List.map_cons, List.map_cons, key t.kids 0 (fun j k h => by simpa using h)]
    rfl
/-- the node at the k-th path -/
theorem found_at {t : TX} {k : Nat} {p : List Int} (h : (t.plain.paths [])[k]? = some p) : ∃ s, t.find p = some s ∧ t.plain.subs[k]? = some s.plain := by
  have e := congrArg (·[k]?) (paths_subs t)
  simp only [List.getElem?_map, h, Option.map_some] at e
  cases hs : t.plain.subs[k]? with
  | none => rw [hs] at e; cases e
  | some u =>
    rw [hs] at e
    injection e with e
    cases hf : t.find p with
    | none => rw [hf] at e; cases e
    | some s =>
      rw [hf] at e
      injection e with e
      exact ⟨s, rfl, by rw [← e]⟩
theorem find_tr' {w : World} {B : Nat} : ∀ (p : List Int) (t s : TX), Tr w B t → t.find p = some s → Tr w B s
  | [], t, s, h, hf => by rw [TX.find] at hf; injection hf with hf; subst hf; exact h
  | i :: p, t, s, h, hf => by
    rw [TX.find] at hf
    split at hf
    · cases hf
    · split at hf
      · cases hf
      · rename_i k hk
        exact find_tr' p k s (h.sub k (List.mem_of_getElem? hk)) hf
theorem subs_len (t : T) : t.subs.length = t.size := by
  refine T.rec (motive_1 := fun t => t.subs.length = t.size) (motive_2 := fun l => (T.subsL l).length = T.sizes l) ?_ ?_ ?_ t
  · intro k s l ks ih
    rw [T.subs, T.size, List.length_cons, ih]; omega
  · rw [T.subsL, T.sizes]; rfl
  · intro k ks h1 h2
    rw [T.subsL, T.sizes, List.length_append, h1, h2]
theorem subsL_snoc (l : List T) (t : T) : T.subsL (l ++ [t]) = T.subsL l ++ t.subs := by
  induction l with
  | nil => rw [List.nil_append, T.subsL, T.subsL, T.subsL]; simp
  | cons x l ih => rw [List.cons_append, T.subsL, T.subsL, ih, List.append_assoc]
theorem row_at {w : World} {B n : Nat} {A : Option Addr} {ts : List TX} {k : Nat} {t : TX} (h : Reads w B 4 A n (ts.flatMap TX.cells)) (hn : ts.length = n) (hk : ts[k]? = some t) : ∃ ab ao, A = some ⟨ab, ao, none⟩ ∧ ab < B ∧ w.cell? ⟨ab, ao + k * 4, none⟩ = some (.int .i64 t.kind) ∧ w.cell? ⟨ab, ao + k * 4 + 1, none⟩ = some (.string t.text) ∧ w.cell? ⟨ab, ao + k * 4 + 2, none⟩ = some (.slice t.lA t.leads.length t.lc) ∧ w.cell? ⟨ab, ao + k * 4 + 3, none⟩ = some (.slice t.kA t.kids.length t.kc) := by
  have hl := (List.getElem?_eq_some_iff.1 hk).1
  obtain ⟨ab, ao, rfl, hab, hca⟩ := h.head (by omega) (by omega)
  have p0 := hca (k * 4) _ (flat_at TX.cells_len ts k 0 t hk (by omega))
  have p1 := hca (k * 4 + 1) _ (flat_at TX.cells_len ts k 1 t hk (by omega))
  have p2 := hca (k * 4 + 2) _ (flat_at TX.cells_len ts k 2 t hk (by omega))
  have p3 := hca (k * 4 + 3) _ (flat_at TX.cells_len ts k 3 t hk (by omega))
  rw [← Nat.add_assoc] at p1 p2 p3
  exact ⟨ab, ao, rfl, hab, p0, p1, p2, p3⟩
/-- the different ones so far -/
structure LR (w1 wr : World) (L : List T) (acc : List TX) (n : Nat) (lv : Value) : Prop where
  bel : Below w1.heap.size w1 wr
  own : wr.ownsRow w1.heap.size 42 4 lv n (acc.flatMap TX.cells)
  len : acc.length = n
  pl : acc.map TX.plain = ded L
  each : ∀ x ∈ acc, Tr w1 w1.heap.size x
theorem LR.start (w : World) : LR w w [] [] 0 (.slice none 0 0) := ⟨Below.refl _ _, ⟨rfl, .inl ⟨rfl, rfl⟩⟩, rfl, by simp [ded], (fun x hx => by cases hx)⟩
theorem LR.below {w1 wr w' : World} {L : List T} {acc : List TX} {n : Nat} {lv : Value} (h : LR w1 wr L acc n lv) (hb : Below wr.heap.size wr w') : LR w1 w' L acc n lv :=
  ⟨h.bel.trans (hb.mono h.bel.size), owns_below h.own hb (own_lt h.own), h.len, h.pl, h.each⟩
theorem LR.same {w1 wr : World} {L : List T} {acc : List TX} {n : Nat} {lv : Value} {x : T} (h : LR w1 wr L acc n lv) (hx : x ∈ acc.map TX.plain) : LR w1 wr (L ++ [x]) acc n lv :=
  ⟨h.bel, h.own, h.len, by rw [ded_snoc, if_pos (by rw [← h.pl]; exact hx)]; exact h.pl, h.each⟩
theorem LR.push {w1 wr w3 : World} {L : List T} {acc : List TX} {n : Nat} {lv v3 : Value} {s : TX} {o : Obj} (h : LR w1 wr L acc n lv) (hx : s.plain ∉ acc.map TX.plain) (hs : Tr w1 w1.heap.size s) (ho : w3.ownsRow w1.heap.size 42 4 v3 (n + 1) (acc.flatMap TX.cells ++ s.cells)) (hg : Grows (wr.alloc o) w3 lv v3) : LR w1 w3 (L ++ [s.plain]) (acc ++ [s]) (n + 1) v3 := by
  have hbo : Below w1.heap.size w1 (wr.alloc o) := bal h.bel _
  refine ⟨hbo.grown hg.grown hbo.size (fun g hg' => own_from h.own g hg'), by rw [List.flatMap_append, List.flatMap_cons, List.flatMap_nil, List.append_nil]; exact ho, by simp [h.len], ?_, fun x hx' => ?_⟩
  · rw [ded_snoc, if_neg (by rw [← h.pl]; exact hx), List.map_append, h.pl]; rfl
  · rcases List.mem_append.1 hx' with h1 | h1
    · exact h.each x h1
    · simp at h1; subst h1; exact hs
end Go.Proofs.YtdabmjcpiblofaaDoor
