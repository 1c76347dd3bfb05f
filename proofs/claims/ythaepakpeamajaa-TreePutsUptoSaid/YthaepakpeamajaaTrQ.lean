/-
  A node put into a tree of one's own. No condition.
-/
import Derived.Test.YthaepakpeamajaaTrP
namespace Go.Proofs.Ythaepakpeamajaa
open Go.RowKit
set_option linter.unusedVariables false

/-- the node at a path of a plain tree; the tree with another node there -/
def T.find : T → List Int → Option T
  | t, [] => some t
  | t, i :: p => if i < 0 ∨ (t.kids.length : Int) ≤ i then none else match t.kids[i.toNat]? with
    | none => none
    | some k => T.find k p
def T.repl : T → List Int → T → Option T
  | _, [], u => some u
  | t, i :: p, u => if i < 0 ∨ (t.kids.length : Int) ≤ i then none else match t.kids[i.toNat]? with
    | none => none
    | some k => match T.repl k p u with
      | none => none
      | some k' => some (.node t.kind t.text t.leads (t.kids.set i.toNat k'))
theorem plain_kids (t : TX) : t.plain.kids = t.kids.map TX.plain := by rw [TX.plain_eq]; rfl
theorem plain_kind (t : TX) : t.plain.kind = t.kind := by rw [TX.plain_eq]; rfl
theorem plain_text' (t : TX) : t.plain.text = t.text := by rw [TX.plain_eq]; rfl
theorem plain_leads (t : TX) : t.plain.leads = t.leads := by rw [TX.plain_eq]; rfl
theorem find_plain : ∀ (p : List Int) (t : TX), (t.find p).map TX.plain = t.plain.find p
  | [], t => by rw [TX.find, T.find]; rfl
  | i :: p, t => by
    rw [TX.find, T.find, plain_kids, List.length_map]
    split
    · rfl
    · rw [List.getElem?_map]
      cases h : t.kids[i.toNat]? with
      | none => rfl
      | some k => exact find_plain p k
theorem repl_none : ∀ (p : List Int) (t u : T), t.find p = none → t.repl p u = none
  | [], t, u, h => by rw [T.find] at h; cases h
  | i :: p, t, u, h => by
    rw [T.find] at h
    rw [T.repl]
    split at h
    · rename_i h1; rw [if_pos h1]
    · rename_i h1
      rw [if_neg h1]
      cases hk : t.kids[i.toNat]? with
      | none => rfl
      | some k =>
        rw [hk] at h
        have := repl_none p k u h
        simp only [this]
/-- where the node at a path lies -/
def TX.addr : TX → Nat × Nat → List Int → Nat × Nat
  | _, a, [] => a
  | t, a, i :: p => match t.kids[i.toNat]?, t.kA with
    | some k, some ad => TX.addr k (ad.block, ad.off + i.toNat * 4) p
    | _, _ => a
theorem addr_step {s k : TX} {p : List Int} {j m kb : Nat} {a : Nat × Nat} (hx : p[j]? = some (m : Int)) (hk : s.kids[m]? = some k) (hA : s.kA = some ⟨kb, 0, none⟩) : s.addr a (p.drop j) = k.addr (kb, m * 4) (p.drop (j + 1)) := by
  obtain ⟨hj, he⟩ := List.getElem?_eq_some_iff.1 hx
  rw [List.drop_eq_getElem_cons hj, he, TX.addr]
  simp [hk, hA]
theorem set_cells {w : World} {ab ao : Nat} {cs : Array Value} (h : Blk w ab 25 cs) (y : TX) : Blk ((((w.setCell ⟨ab, ao, none⟩ (.int .i64 y.kind)).setCell ⟨ab, ao + 1, none⟩ (.string y.text)).setCell ⟨ab, ao + 2, none⟩ (.slice y.lA y.leads.length y.lc)).setCell ⟨ab, ao + 3, none⟩ (.slice y.kA y.kids.length y.kc)) ab 25
    ((((cs.setIfInBounds ao (.int .i64 y.kind)).setIfInBounds (ao + 1) (.string y.text)).setIfInBounds (ao + 2) (.slice y.lA y.leads.length y.lc)).setIfInBounds (ao + 3) (.slice y.kA y.kids.length y.kc)) :=
  (((h.set_ ao _).set_ (ao + 1) _).set_ (ao + 2) _).set_ (ao + 3) _
theorem tc_cells {w : World} {ab ao : Nat} {cs : Array Value} {S : Nat → Prop} (h : Blk w ab 25 cs) (hb : S ab) (y : TX) : TC w ((((w.setCell ⟨ab, ao, none⟩ (.int .i64 y.kind)).setCell ⟨ab, ao + 1, none⟩ (.string y.text)).setCell ⟨ab, ao + 2, none⟩ (.slice y.lA y.leads.length y.lc)).setCell ⟨ab, ao + 3, none⟩ (.slice y.kA y.kids.length y.kc)) S :=
  (((TC.set_ h (by decide) hb _ _).trans (TC.set_ (h.set_ _ _) (by decide) hb _ _)).trans (TC.set_ ((h.set_ _ _).set_ _ _) (by decide) hb _ _)).trans (TC.set_ (((h.set_ _ _).set_ _ _).set_ _ _) (by decide) hb _ _)
/-- a tree with the kid m changed -/
def TX.setKid (t : TX) (m : Nat) (y : TX) : TX := .node t.kind t.text t.lA t.leads t.lc t.kA (t.kids.set m y) t.kc
theorem setKid_cells (t : TX) (m : Nat) (y : TX) : (t.setKid m y).cells = t.cells := by
  unfold TX.setKid TX.cells TX.kind TX.text TX.lA TX.leads TX.lc TX.kA TX.kc TX.kids
  simp
theorem setKid_kids (t : TX) (m : Nat) (y : TX) : (t.setKid m y).kids = t.kids.set m y := rfl
theorem setKid_plain {t y : TX} {T' : T} {m : Nat} (h : y.plain = T') : (t.setKid m y).plain = .node t.plain.kind t.plain.text t.plain.leads (t.plain.kids.set m T') := by
  rw [TX.plain_eq, setKid_kids, plain_kind, plain_text', plain_leads, plain_kids, List.map_set, h]
  rfl
theorem flat_same {xs : List TX} {m : Nat} {x y : TX} (hx : xs[m]? = some x) (h : y.cells = x.cells) : (xs.set m y).flatMap TX.cells = xs.flatMap TX.cells := by
  have h1 : (xs.set m y).map TX.cells = xs.map TX.cells := by
    rw [List.map_set, h]
    apply List.ext_getElem?
    intro i
    rw [List.getElem?_set]
    split
    · rename_i e
      subst e
      rw [List.getElem?_map, hx]
      have := (List.getElem?_eq_some_iff.1 hx).1
      simp [this]
    · rfl
  rw [List.flatMap_def, List.flatMap_def, h1]
/-- the tree of one's own with another kid, in a world in which only the blocks of S have changed -/
theorem setKid_tr {w w' : World} {t y k : TX} {kb m : Nat} {f : Nat → Nat} {S : Nat → Prop} (hk : t.kids[m]? = some k) (hA : t.kA = some ⟨kb, 0, none⟩) (hl : w.ownsRow 0 9 1 (.slice t.lA t.leads.length t.lc) t.leads.length (t.leads.map Value.string))
    (kbd : t.kids.length * 72 ≤ 140737488351232) (kc : t.kids.length ≤ t.kc) (lb : t.leads.length * 16 ≤ 140737488351232) (kr : -9223372036854775808 ≤ t.kind ∧ t.kind ≤ 9223372036854775807)
    (sub : ∀ i k, t.kids[i]? = some k → Fr w (f i) (f (i + 1)) k) (htc : TC w w' S) (hs : ∀ i, i < t.kids.length → i ≠ m → ∀ b, f i ≤ b → b < f (i + 1) → ¬ S b)
    (hB : Blk w' kb 25 ((t.kids.set m y).flatMap TX.cells).toArray) (hy : Tr w' w'.heap.size y) : Tr w' w'.heap.size (t.setKid m y) := by
  refine .mk _ ?_ (Reads.of_own (htc.owns hl)) (by rw [setKid_kids, List.length_set]; exact kbd) (by rw [setKid_kids, List.length_set]; exact kc) lb kr (fun x hx => ?_)
  · rw [setKid_kids]
    show Reads w' _ 4 t.kA _ _
    rw [hA]
    exact blk_reads hB (flat_len TX.cells_len _)
  · rw [setKid_kids] at hx
    obtain ⟨i, hi⟩ := List.mem_iff_getElem?.1 hx
    rw [List.getElem?_set] at hi
    by_cases e : m = i
    · rw [if_pos e] at hi
      split at hi
      · injection hi with hi
        subst hi
        exact hy
      · cases hi
    · rw [if_neg e] at hi
      have hil := (List.getElem?_eq_some_iff.1 hi).1
      exact ((sub i x hi).tc htc (fun b h1 h2 => hs i hil (fun e' => e e'.symm) b h1 h2)).tr
theorem find_cons {t s : TX} {i : Int} {p : List Int} (h : t.find (i :: p) = some s) : 0 ≤ i ∧ i < t.kids.length ∧ ∃ k, t.kids[i.toNat]? = some k ∧ k.find p = some s := by
  rw [TX.find] at h
  split at h
  · cases h
  · rename_i hc
    split at h
    · cases h
    · rename_i k hk
      exact ⟨by omega, by omega, k, hk, h⟩
theorem repl_cons {t k : TX} {i : Int} {p : List Int} {u T' : T} (h0 : 0 ≤ i) (h1 : i < t.kids.length) (hk : t.kids[i.toNat]? = some k) (hr : k.plain.repl p u = some T') : t.plain.repl (i :: p) u = some (.node t.plain.kind t.plain.text t.plain.leads (t.plain.kids.set i.toNat T')) := by
  rw [T.repl, plain_kids, List.length_map, if_neg (by omega), List.getElem?_map, hk]
  simp [hr]
theorem Fr.put {w : World} : ∀ (p : List Int) (lo hi : Nat) (t s : TX) (a : Nat × Nat), Fr w lo hi t → p ≠ [] → t.find p = some s →
    ∃ ab ao cs, t.addr a p = (ab, ao) ∧ lo ≤ ab ∧ ab < hi ∧ Blk w ab 25 cs ∧ (∀ r, r < 4 → (cs[ao + r]?).isSome = true) ∧
      ∀ (y : TX), ∃ t' : TX, t'.cells = t.cells ∧ t.plain.repl p y.plain = some t'.plain ∧ ∀ (w' : World) (S : Nat → Prop), TC w w' S → (∀ b, lo ≤ b → b < hi → S b → b = ab) →
        Blk w' ab 25 ((((cs.setIfInBounds ao (.int .i64 y.kind)).setIfInBounds (ao + 1) (.string y.text)).setIfInBounds (ao + 2) (.slice y.lA y.leads.length y.lc)).setIfInBounds (ao + 3) (.slice y.kA y.kids.length y.kc)) → Tr w' w'.heap.size y → Tr w' w'.heap.size t'
  | [], lo, hi, t, s, a, h, hp, hf => absurd rfl hp
  | i :: p, lo, hi, t, s, a, h, hp, hf => by
    obtain ⟨h0, h1, k, hk, hf'⟩ := find_cons hf
    obtain ⟨m, rfl⟩ : ∃ m : Nat, i = m := ⟨i.toNat, by omega⟩
    simp only [Int.toNat_natCast] at hk
    have hml := (List.getElem?_eq_some_iff.1 hk).1
    cases h with
    | leaf _ _ _ hk0 hl lb kr => rw [hk0] at hml; simp at hml
    | node _ _ _ kb f hA hB hl kbd kc lb kr f0 f1 f2 f3 sub =>
      have m0 := fun {i j : Nat} (h : i ≤ j) => mono_le f2 h
      have r0 := m0 (Nat.zero_le m)
      have r1 := m0 (show m + 1 ≤ t.kids.length by omega)
      have r2 := m0 (Nat.zero_le t.kids.length)
      have hadr : t.addr a ((m : Int) :: p) = k.addr (kb, m * 4) p := by rw [TX.addr]; simp [hk, hA]
      cases hpp : p with
      | nil =>
        subst hpp
        rw [hadr, TX.addr]
        refine ⟨kb, m * 4, _, rfl, f0, by omega, hB, fun r hr => ?_, fun y => ⟨t.setKid m y, setKid_cells t m y, ?_, fun w' S htc hS hb' hy => ?_⟩⟩
        · rw [List.getElem?_toArray, flat_at TX.cells_len t.kids m r k hk hr]
          rw [List.getElem?_eq_getElem (by rw [TX.cells_len]; exact hr)]; rfl
        · have := repl_cons (u := y.plain) (T' := y.plain) h0 h1 (by simpa using hk) (by rw [T.repl])
          rw [this, setKid_plain rfl]; simp
        · refine setKid_tr hk hA hl kbd kc lb kr sub htc (fun i hi hne b h2 h3 h4 => ?_) ?_ hy
          · have q1 := m0 (Nat.zero_le i)
            have q2 := m0 (show i + 1 ≤ t.kids.length by omega)
            have := hS b (by omega) (by omega) h4
            omega
          · simpa [flat_set hk y] using hb'
      | cons i' p' =>
        have hne : p ≠ [] := by rw [hpp]; simp
        obtain ⟨ab, ao, cs, e1, e2, e3, e4, e5, e6⟩ := Fr.put p (f m) (f (m + 1)) k s (kb, m * 4) (sub m k hk) hne hf'
        rw [← hpp, hadr]
        refine ⟨ab, ao, cs, e1, by omega, by omega, e4, e5, fun y => ?_⟩
        obtain ⟨k', g1, g2, g3⟩ := e6 y
        refine ⟨t.setKid m k', setKid_cells t m k', ?_, fun w' S htc hS hb' hy => ?_⟩
        · have := repl_cons (u := y.plain) h0 h1 (by simpa using hk) g2
          rw [this, setKid_plain rfl]; simp
        · refine setKid_tr hk hA hl kbd kc lb kr sub htc (fun i hi hne b h2 h3 h4 => ?_) ?_ (g3 w' S htc (fun b h2 h3 h4 => hS b (by omega) (by omega) h4) hb' hy)
          · have q1 := m0 (Nat.zero_le i)
            have q2 := m0 (show i + 1 ≤ t.kids.length by omega)
            have := hS b (by omega) (by omega) h4
            rcases Nat.lt_or_ge i m with h5 | h5
            · have := m0 (show i + 1 ≤ m by omega); omega
            · have := m0 (show m + 1 ≤ i by omega); omega
          · rw [flat_same hk g1]
            exact htc.blk hB (fun h4 => by have := hS kb (by omega) (by omega) h4; omega)
theorem arr_of_cells {t r : TX} (h : t.cells = r.cells) : t.arr = r.arr := by
  have e : ∀ x : TX, x.arr = x.cells.toArray := fun _ => rfl
  rw [e, e, h]
/-- a node put over the node at a path: the tree, and the box in which it lies -/
theorem put_ok {w4 : World} {lo hi g : Nat} {r s : TX} {p : List Int} {ab ao : Nat} (hf : Fr w4 lo hi r) (hg : Blk w4 g 25 r.arr) (hgh : ¬ (lo ≤ g ∧ g < hi)) (hhi : hi ≤ w4.heap.size) (hs : r.find p = some s) (ha : r.addr (g, 0) p = (ab, ao)) :
    ab < w4.heap.size ∧ (ab = g ∨ (lo ≤ ab ∧ ab < hi)) ∧ ∃ cs, Blk w4 ab 25 cs ∧ (∀ i, i < 4 → (cs[ao + i]?).isSome = true) ∧ ∀ (w5 w6 : World) (y : TX) (S2 : Nat → Prop), Below w4.heap.size w4 w5 → Fr w5 w4.heap.size w5.heap.size y → (∀ b, S2 b → ¬ (lo ≤ b ∧ b < hi) ∧ b < w4.heap.size ∧ b ≠ g) →
      w6 = ((((w5.setCell ⟨ab, ao, none⟩ (.int .i64 y.kind)).setCell ⟨ab, ao + 1, none⟩ (.string y.text)).setCell ⟨ab, ao + 2, none⟩ (.slice y.lA y.leads.length y.lc)).setCell ⟨ab, ao + 3, none⟩ (.slice y.kA y.kids.length y.kc)) →
      TC w5 w6 (fun b => b = ab) ∧ ∃ t' : TX, Blk w6 g 25 t'.arr ∧ r.plain.repl p y.plain = some t'.plain ∧ ∀ w7, TC w6 w7 S2 → Tr w7 w7.heap.size t' := by
  by_cases hp : p = []
  · subst hp
    rw [TX.addr] at ha
    injection ha with e1 e2
    subst e1 e2
    refine ⟨hg.lt, .inl rfl, r.arr, hg, fun i hi => ?_, fun w5 w6 y S2 h5 hy hS hw6 => ?_⟩
    · have : i = 0 ∨ i = 1 ∨ i = 2 ∨ i = 3 := by omega
      rcases this with rfl | rfl | rfl | rfl <;> rfl
    · have hg5 := hg.below h5 hg.lt
      have htc := tc_cells (ao := 0) (S := fun b => b = g) hg5 rfl y
      rw [hw6]
      have hgl := hg.lt
      refine ⟨htc, y, set_cells hg5 y, by rw [T.repl], fun w7 h7 => ((hy.tc htc (fun b h1 h2 h3 => by omega)).tc h7 (fun b h1 h2 h3 => by have := hS b h3; omega)).tr⟩
  · obtain ⟨ab', ao', cs, e1, e2, e3, e4, e5, e6⟩ := hf.put p lo hi r s (g, 0) hp hs
    rw [ha] at e1
    injection e1 with e1 e1'
    subst e1 e1'
    refine ⟨e4.lt, .inr ⟨e2, e3⟩, cs, e4, e5, fun w5 w6 y S2 h5 hy hS hw6 => ?_⟩
    have h45 := e4.below h5 e4.lt
    have htc := tc_cells (ao := ao) (S := fun b => b = ab) h45 rfl y
    obtain ⟨t', g1, g2, g3⟩ := e6 y
    rw [hw6]
    refine ⟨htc, t', ?_, g2, fun w7 h7 => ?_⟩
    · rw [arr_of_cells g1]
      exact htc.blk (hg.below h5 hg.lt) (fun e => hgh (by omega))
    · have h47 : TC w4 w7 (fun b => b = ab ∨ S2 b) := ((TC.of_below h5 _).trans (htc.mono (fun b _ h => .inl h))).trans (h7.mono (fun b _ h => .inr h))
      exact g3 w7 _ h47 (fun b h1 h2 h3 => by rcases h3 with h3 | h3; exact h3; have := hS b h3; omega) (h7.blk (set_cells h45 y) (fun h => by have := hS ab h; omega)) ((hy.tc htc (fun b h1 h2 h3 => by omega)).tc h7 (fun b h1 h2 h3 => by have := hS b h3; omega)).tr
end Go.Proofs.Ythaepakpeamajaa
