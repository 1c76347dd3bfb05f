/-
  Trees of one's own: the arrays of the kids lie whole in blocks apart. No condition.
-/
import Derived.Test.YthaepakpeamajaaTrA
import Derived.Laws.MakeOwn
namespace Go.Proofs.Ythaepakpeamajaa
open Go.RowKit
set_option linter.unusedVariables false

mutual
def T.bare : T → T
  | .node k s _ ks => .node k s [] (T.bares ks)
def T.bares : List T → List T
  | [] => []
  | k :: ks => T.bare k :: T.bares ks
end
theorem T.bares_map (l : List T) : T.bares l = l.map T.bare := by
  induction l with
  | nil => rw [T.bares]; rfl
  | cons k ks ih => rw [T.bares, ih]; rfl
theorem bare_plain (t : TX) : t.plain.bare = .node t.kind t.text [] (t.kids.map fun k => k.plain.bare) := by
  rw [TX.plain_eq, T.bare, T.bares_map, List.map_map]; rfl
def TX.zero : TX := .node 0 ByteArray.empty none [] 0 none [] 0

/-- only blocks of S, none of them of texts, and new blocks differ -/
structure TC (w w' : World) (S : Nat → Prop) : Prop where
  os : w'.os = w.os
  tape : w'.tape = w.tape
  output : w'.output = w.output
  size : w.heap.size ≤ w'.heap.size
  block : ∀ i : Nat, i < w.heap.size → ¬ S i → w'.heap[i]? = w.heap[i]?
  texts : ∀ (i : Nat) (cs : Array Value) (fl : Nat × Nat), w.heap[i]? = some (Obj.cells cs 9 fl) → w'.heap[i]? = w.heap[i]?
section
variable {w w' w'' : World} {S S' : Nat → Prop}
theorem TC.refl (w : World) (S : Nat → Prop) : TC w w S := ⟨rfl, rfl, rfl, Nat.le_refl _, fun _ _ _ => rfl, fun _ _ _ _ => rfl⟩
theorem TC.of_below (h : Below w.heap.size w w') (S : Nat → Prop) : TC w w' S :=
  ⟨h.os, h.tape, h.output, h.size, fun i hi _ => h.block i hi, fun i cs fl hi => h.block i (by
    rcases Nat.lt_or_ge i w.heap.size with h1 | h1
    · exact h1
    · rw [Array.getElem?_eq_none h1] at hi; cases hi)⟩
theorem TC.trans (h : TC w w' S) (h' : TC w' w'' S) : TC w w'' S :=
  ⟨h'.os.trans h.os, h'.tape.trans h.tape, h'.output.trans h.output, Nat.le_trans h.size h'.size, fun i hi hn => (h'.block i (Nat.lt_of_lt_of_le hi h.size) hn).trans (h.block i hi hn),
    fun i cs fl hi => (h'.texts i cs fl ((h.texts i cs fl hi).trans hi)).trans (h.texts i cs fl hi)⟩
theorem TC.mono (h : TC w w' S) (hs : ∀ i, i < w.heap.size → S i → S' i) : TC w w' S' := ⟨h.os, h.tape, h.output, h.size, fun i hi hn => h.block i hi (fun e => hn (hs i hi e)), h.texts⟩
theorem TC.drewN (h : TC w w' S) (n : Nat) : TC w (w'.drewN n) S := ⟨h.os, h.tape, h.output, h.size, h.block, h.texts⟩
theorem TC.below (h : TC w w' S) {L : Nat} (hL : L ≤ w.heap.size) (hs : ∀ i, S i → L ≤ i) : Below L w w' :=
  ⟨h.os, h.tape, h.output, h.size, fun i hi => h.block i (by omega) (fun e => by have := hs i e; omega)⟩
theorem TC.blk (h : TC w w' S) {g : Nat} {t : TypeId} {cs : Array Value} (hb : Blk w g t cs) (hg : ¬ S g) : Blk w' g t cs := (h.block g hb.lt hg).trans hb
theorem TC.set_ {g t : Nat} {cs : Array Value} (hb : Blk w g t cs) (ht : t ≠ 9) (hg : S g) (i : Nat) (u : Value) : TC w (w.setCell ⟨g, i, none⟩ u) S :=
  ⟨rfl, rfl, rfl, by simp [World.setCell], fun k hk hn => Below.heap_setCell w _ u k (fun e => hn (by rw [e]; exact hg)), fun k cs' fl hk => Below.heap_setCell w _ u k (fun e => by
    have e' : k = g := e
    subst e'
    unfold Blk at hb
    rw [hb] at hk
    injection hk with hk
    injection hk with _ h2
    exact ht h2)⟩
theorem TC.owns (h : TC w w' S) {base n : Nat} {v : Value} {xs : List Value} (ho : w.ownsRow base 9 1 v n xs) : w'.ownsRow base 9 1 v n xs := by
  refine ⟨ho.1, ?_⟩
  rcases ho.2 with h0 | ⟨g, cap, cur, rfl, hb, hh, rest⟩
  · exact .inl h0
  · exact .inr ⟨g, cap, cur, rfl, hb, (h.texts g cur _ hh).trans hh, rest⟩
end

/-- a tree of one's own, its kids' arrays in [lo, hi) -/
inductive Fr (w : World) : Nat → Nat → TX → Prop where
  | leaf (t : TX) (lo hi : Nat) (hk : t.kids = []) (hl : w.ownsRow 0 9 1 (.slice t.lA t.leads.length t.lc) t.leads.length (t.leads.map Value.string)) (lb : t.leads.length * 16 ≤ 140737488351232) (kr : -9223372036854775808 ≤ t.kind ∧ t.kind ≤ 9223372036854775807) : Fr w lo hi t
  | node (t : TX) (lo hi kb : Nat) (f : Nat → Nat) (hA : t.kA = some ⟨kb, 0, none⟩) (hB : Blk w kb 25 (t.kids.flatMap TX.cells).toArray) (hl : w.ownsRow 0 9 1 (.slice t.lA t.leads.length t.lc) t.leads.length (t.leads.map Value.string))
      (kbd : t.kids.length * 72 ≤ 140737488351232) (kc : t.kids.length ≤ t.kc) (lb : t.leads.length * 16 ≤ 140737488351232) (kr : -9223372036854775808 ≤ t.kind ∧ t.kind ≤ 9223372036854775807)
      (f0 : lo ≤ kb) (f1 : kb < f 0) (f2 : ∀ i, f i ≤ f (i + 1)) (f3 : f t.kids.length ≤ hi) (sub : ∀ i k, t.kids[i]? = some k → Fr w (f i) (f (i + 1)) k) : Fr w lo hi t
theorem mono_le {f : Nat → Nat} (h : ∀ i, f i ≤ f (i + 1)) : ∀ {i j : Nat}, i ≤ j → f i ≤ f j := by
  intro i j hij
  induction j with
  | zero => have : i = 0 := by omega
            subst this; exact Nat.le_refl _
  | succ j ih =>
    rcases Nat.lt_or_ge i (j + 1) with h1 | h1
    · exact Nat.le_trans (ih (by omega)) (h j)
    · have : i = j + 1 := by omega
      subst this; exact Nat.le_refl _
section
variable {w w' : World} {lo hi : Nat} {t : TX}
theorem Fr.tc {S : Nat → Prop} (h : Fr w lo hi t) (hc : TC w w' S) (hs : ∀ i, lo ≤ i → i < hi → ¬ S i) : Fr w' lo hi t := by
  induction h with
  | leaf t lo hi hk hl lb kr => exact .leaf t lo hi hk (hc.owns hl) lb kr
  | node t lo hi kb f hA hB hl kbd kc lb kr f0 f1 f2 f3 sub ih =>
    have m0 := fun {i j : Nat} (h : i ≤ j) => mono_le f2 h
    have m1 := m0 (Nat.zero_le t.kids.length)
    refine .node t lo hi kb f hA (hc.blk hB (hs kb f0 (by omega))) (hc.owns hl) kbd kc lb kr f0 f1 f2 f3 (fun i k hi' => ih i k hi' (fun x h1 h2 => hs x ?_ ?_))
    · have := m0 (Nat.zero_le i); omega
    · have hl := (List.getElem?_eq_some_iff.1 hi').1
      have := m0 (show i + 1 ≤ t.kids.length by omega); omega
theorem Fr.wide (h : Fr w lo hi t) {lo' hi' : Nat} (h1 : lo' ≤ lo) (h2 : hi ≤ hi') : Fr w lo' hi' t := by
  cases h with
  | leaf _ _ _ hk hl lb kr => exact .leaf t _ _ hk hl lb kr
  | node _ _ _ kb f hA hB hl kbd kc lb kr f0 f1 f2 f3 sub => exact .node t _ _ kb f hA hB hl kbd kc lb kr (by omega) f1 f2 (by omega) sub
theorem blk_reads {w : World} {g n size : Nat} {t : TypeId} {xs : List Value} (h : Blk w g t xs.toArray) (hl : xs.length = n * size) : Reads w w.heap.size size (some ⟨g, 0, none⟩) n xs :=
  ⟨hl, fun _ => ⟨_, rfl, h.lt, fun j u hu => by rw [Addr.add_lit, Nat.zero_add, h.cell]; simpa using hu⟩⟩
theorem Fr.tr (h : Fr w lo hi t) : Tr w w.heap.size t := by
  induction h with
  | leaf t lo hi hk hl lb kr => exact .mk t (by rw [hk]; exact Reads.none_) (Reads.of_own hl) (by rw [hk]; simp) (by rw [hk]; simp) lb kr (fun k hk' => by rw [hk] at hk'; cases hk')
  | node t lo hi kb f hA hB hl kbd kc lb kr f0 f1 f2 f3 sub ih =>
    refine .mk t ?_ (Reads.of_own hl) kbd kc lb kr (fun k hk => ?_)
    · rw [hA]; exact blk_reads hB (flat_len TX.cells_len t.kids)
    · obtain ⟨i, hi⟩ := List.mem_iff_getElem?.1 hk
      exact ih i k hi
end

/-- one kid's cells in the array of all -/
theorem flat_set {xs : List TX} {j : Nat} {x : TX} (h : xs[j]? = some x) (y : TX) : (((((xs.flatMap TX.cells).set (j * 4) (.int .i64 y.kind)).set (j * 4 + 1) (.string y.text)).set (j * 4 + 2) (.slice y.lA y.leads.length y.lc)).set (j * 4 + 3) (.slice y.kA y.kids.length y.kc)) = (xs.set j y).flatMap TX.cells := by
  induction xs generalizing j with
  | nil => simp at h
  | cons z zs ih =>
    cases j with
    | zero => simp [TX.cells, List.set]
    | succ j =>
      have h' : zs[j]? = some x := by simpa using h
      have := ih h'
      simp only [List.flatMap_cons, List.set_cons_succ]
      rw [← this]
      have e : ∀ (l : List Value) (i : Nat) (v : Value), (z.cells ++ l).set ((j + 1) * 4 + i) v = z.cells ++ l.set (j * 4 + i) v := fun l i v => by
        rw [List.set_append_right _ _ (by rw [TX.cells_len]; omega), TX.cells_len]
        congr 2; omega
      have e0 := e (zs.flatMap TX.cells) 0 (.int .i64 y.kind)
      simp only [Nat.add_zero] at e0
      rw [e0, e, e, e]
theorem flat_lead {xs : List TX} {j : Nat} {x y : TX} (h : xs[j]? = some x) (h0 : y.kind = x.kind) (h1 : y.text = x.text) (h3 : y.kA = x.kA) (h4 : y.kids.length = x.kids.length) (h5 : y.kc = x.kc) : (xs.flatMap TX.cells).set (j * 4 + 2) (.slice y.lA y.leads.length y.lc) = (xs.set j y).flatMap TX.cells := by
  induction xs generalizing j with
  | nil => simp at h
  | cons z zs ih =>
    cases j with
    | zero =>
      simp at h; subst h
      simp [TX.cells, List.set, h0, h1, h3, h4, h5]
    | succ j =>
      have h' : zs[j]? = some x := by simpa using h
      have := ih h'
      simp only [List.flatMap_cons, List.set_cons_succ]
      rw [← this, List.set_append_right _ _ (by rw [TX.cells_len]; omega), TX.cells_len]
      congr 2; omega
theorem made_trees (n : Nat) : madeCells #[.int .i64 0, .string ByteArray.empty, .slice none 0 0, .slice none 0 0] (n * 4) = ((List.replicate n TX.zero).flatMap TX.cells).toArray := by
  unfold madeCells
  apply Array.ext
  · simp [flat_len TX.cells_len]
  · intro i h1 h2
    have hi : i < n * 4 := by simpa using h1
    have hd : i / 4 < n := by omega
    have hf := flat_at TX.cells_len (List.replicate n TX.zero) (i / 4) (i % 4) TX.zero (by simp [hd]) (by omega)
    rw [show i / 4 * 4 + i % 4 = i by omega] at hf
    have h3 : ((List.replicate n TX.zero).flatMap TX.cells).toArray[i] = (TX.cells TX.zero)[i % 4]'(by rw [TX.cells_len]; omega) := by
      have := List.getElem?_eq_getElem (l := (List.replicate n TX.zero).flatMap TX.cells) (i := i) (by simpa using h2)
      rw [this] at hf
      rw [List.getElem?_eq_getElem (by rw [TX.cells_len]; omega)] at hf
      simpa using hf
    rw [h3]
    have h4 : i % 4 = 0 ∨ i % 4 = 1 ∨ i % 4 = 2 ∨ i % 4 = 3 := by omega
    simp only [Array.getElem_map, Array.getElem_range]
    rcases h4 with h | h | h | h <;> simp [h, TX.cells, TX.zero, TX.kind, TX.text, TX.lA, TX.leads, TX.lc, TX.kA, TX.kids, TX.kc]
end Go.Proofs.Ythaepakpeamajaa
