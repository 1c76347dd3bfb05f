/-
  Packs, plain: a pack has as many nodes as there are different subtrees. No condition.
-/
import Derived.Test.YtdabmjcpiblofaaDoorPkP
namespace Go.Proofs.YtdabmjcpiblofaaDoor
open Go.RowKit Go.Maps
set_option linter.unusedVariables false

mutual
def T.subs : T → List T
  | .node k s ld ks => .node k s ld ks :: T.subsL ks
def T.subsL : List T → List T
  | [] => []
  | t :: ts => T.subs t ++ T.subsL ts
end
theorem subs_eq (t : T) : t.subs = t :: T.subsL t.kids := by
  cases t with
  | node k s ld ks => rw [T.subs]; rfl
theorem mem_subsL {x : T} : ∀ {ts : List T}, x ∈ T.subsL ts ↔ ∃ t ∈ ts, x ∈ t.subs
  | [] => by rw [T.subsL]; simp
  | t :: ts => by
    rw [T.subsL, List.mem_append, mem_subsL (ts := ts)]
    constructor
    · rintro (h | ⟨u, hu, h⟩)
      · exact ⟨t, List.mem_cons_self, h⟩
      · exact ⟨u, List.mem_cons_of_mem _ hu, h⟩
    · rintro ⟨u, hu, h⟩
      rcases List.mem_cons.1 hu with rfl | hu
      · exact .inl h
      · exact .inr ⟨u, hu, h⟩
theorem subsL_append (a b : List T) : T.subsL (a ++ b) = T.subsL a ++ T.subsL b := by
  induction a with
  | nil => rw [List.nil_append, T.subsL, List.nil_append]
  | cons x xs ih => rw [List.cons_append, T.subsL, T.subsL, ih, List.append_assoc]
theorem self_subs (t : T) : t ∈ t.subs := by rw [subs_eq]; exact List.mem_cons_self
mutual
theorem T.put_mem : ∀ (t : T) (l : List PN), formN l → l.Nodup → ∀ i, l.length ≤ i → i < (T.put t l).1.length → trA (T.put t l).1 i ∈ t.subs
  | .node k s ld ks, l, hf, hn, i, h0, h1 => by
    obtain ⟨p1, p2, p3, p4, p5⟩ := T.puts_spec ks l hf hn
    obtain ⟨g1, g2, g3, g4⟩ := put_inv_new (x := (k, s, ld, (T.puts ks l).2)) p2 p4 p3
    obtain ⟨-, -, -, -, hself⟩ := T.put_spec (.node k s ld ks) l hf hn
    rw [T.put] at h1 hself ⊢
    have h1' : i < (putN (T.puts ks l).1 (k, s, ld, (T.puts ks l).2)).1.length := h1
    show trA (putN (T.puts ks l).1 (k, s, ld, (T.puts ks l).2)).1 i ∈ _
    rcases Nat.lt_or_ge i (T.puts ks l).1.length with hi | hi
    · rw [trA_pre g1 hi, T.subs]
      exact List.mem_cons_of_mem _ (T.puts_mem ks l hf hn i h0 hi)
    · have he : i = (putN (T.puts ks l).1 (k, s, ld, (T.puts ks l).2)).2 := by
        revert h1'
        unfold putN
        split
        · intro h
          have h' : i < (T.puts ks l).1.length := h
          omega
        · intro h; simp at h; show i = (T.puts ks l).1.length; omega
      have h2 : trA (putN (T.puts ks l).1 (k, s, ld, (T.puts ks l).2)).1 (putN (T.puts ks l).1 (k, s, ld, (T.puts ks l).2)).2 = .node k s ld ks := hself
      rw [he, h2]
      exact self_subs _
theorem T.puts_mem : ∀ (ts : List T) (l : List PN), formN l → l.Nodup → ∀ i, l.length ≤ i → i < (T.puts ts l).1.length → trA (T.puts ts l).1 i ∈ T.subsL ts
  | [], l, hf, hn, i, h0, h1 => by
    rw [T.puts] at h1
    have : i < l.length := h1
    omega
  | t :: ts, l, hf, hn, i, h0, h1 => by
    obtain ⟨p1, p2, p3, p4, p5⟩ := T.put_spec t l hf hn
    obtain ⟨g1, -⟩ := T.puts_spec ts (T.put t l).1 p2 p3
    rw [T.puts] at h1 ⊢
    have h1' : i < (T.puts ts (T.put t l).1).1.length := h1
    show trA (T.puts ts (T.put t l).1).1 i ∈ _
    rw [T.subsL, List.mem_append]
    rcases Nat.lt_or_ge i (T.put t l).1.length with hi | hi
    · rw [trA_pre g1 hi]
      exact .inl (T.put_mem t l hf hn i h0 hi)
    · exact .inr (T.puts_mem ts (T.put t l).1 p2 p3 i hi h1')
end
/-- subtrees of nodes' trees are nodes' trees -/
theorem trA_closed {ns : List PN} (hf : formN ns) : ∀ (i : Nat), i < ns.length → ∀ s ∈ (trA ns i).subs, ∃ j, j < ns.length ∧ trA ns j = s := by
  intro i
  induction i using Nat.strongRecOn with
  | _ i ih =>
    intro hi s hs
    have hx := List.getElem?_eq_getElem hi
    have he := trA_at hf hx
    rw [subs_eq] at hs
    rcases List.mem_cons.1 hs with rfl | hs
    · exact ⟨i, hi, rfl⟩
    · rw [he] at hs
      obtain ⟨t, ht, hs⟩ := mem_subsL.1 hs
      obtain ⟨k, hk, rfl⟩ := List.mem_map.1 ht
      have hk' := hf i _ hx k hk
      exact ih k.toNat (by omega) (by omega) s hs
/-- no two nodes have the same tree -/
theorem trA_inj {ns : List PN} (hf : formN ns) (hn : ns.Nodup) : ∀ (i j : Nat), i < ns.length → j < ns.length → trA ns i = trA ns j → i = j := by
  intro i
  induction i using Nat.strongRecOn with
  | _ i ih =>
    intro j hi hj h
    have hx := List.getElem?_eq_getElem hi
    have hy := List.getElem?_eq_getElem hj
    rw [trA_at hf hx, trA_at hf hy] at h
    injection h with h1 h2 h3 h4
    have hlen := congrArg List.length h4
    simp only [List.length_map] at hlen
    have hk : ns[i].2.2.2 = ns[j].2.2.2 := by
      apply List.ext_getElem hlen
      intro n q1 q2
      have e : ((ns[i].2.2.2).map fun k => trA ns k.toNat)[n]? = ((ns[j].2.2.2).map fun k => trA ns k.toNat)[n]? := by rw [h4]
      rw [List.getElem?_map, List.getElem?_map, List.getElem?_eq_getElem q1, List.getElem?_eq_getElem q2] at e
      simp only [Option.map_some, Option.some.injEq] at e
      have b1 := hf i _ hx _ (List.getElem_mem q1)
      have b2 := hf j _ hy _ (List.getElem_mem q2)
      have := ih _ (by omega) _ (by omega) (by omega) e
      omega
    have : ns[i] = ns[j] := by
      apply Prod.ext h1
      apply Prod.ext h2
      exact Prod.ext h3 hk
    rcases Nat.lt_trichotomy i j with hlt | rfl | hlt
    · rw [List.nodup_iff_pairwise_ne, List.pairwise_iff_getElem] at hn
      exact absurd this (hn i j hi hj hlt)
    · rfl
    · rw [List.nodup_iff_pairwise_ne, List.pairwise_iff_getElem] at hn
      exact absurd this.symm (hn j i hj hi hlt)

open Classical in
/-- each once, in the order in which they come -/
noncomputable def ded (l : List T) : List T := l.foldl (fun acc x => if x ∈ acc then acc else acc ++ [x]) []
open Classical in
theorem ded_snoc (l : List T) (x : T) : ded (l ++ [x]) = if x ∈ ded l then ded l else ded l ++ [x] := by unfold ded; rw [List.foldl_append]; rfl
theorem ded_mem (l : List T) : ∀ x, x ∈ ded l ↔ x ∈ l := by
  refine snoc_ind (P := fun l => ∀ x, x ∈ ded l ↔ x ∈ l) (fun x => by simp [ded]) (fun l y h x => ?_) l
  rw [ded_snoc]
  split
  · rename_i hy
    rw [h x, List.mem_append, List.mem_singleton]
    exact ⟨fun h' => .inl h', fun h' => h'.elim id (fun e => by subst e; exact (h _).1 hy)⟩
  · rw [List.mem_append, List.mem_append, h x]
theorem ded_nodup (l : List T) : (ded l).Nodup := by
  refine snoc_ind (P := fun l => (ded l).Nodup) (by simp [ded]) (fun l y h => ?_) l
  rw [ded_snoc]
  split
  · exact h
  · rename_i hy
    rw [List.nodup_append]
    refine ⟨h, by simp, fun a ha b hb => ?_⟩
    simp at hb
    subst hb
    exact fun e => hy (e ▸ ha)
theorem ded_le (l : List T) : (ded l).length ≤ l.length := by
  refine snoc_ind (P := fun l => (ded l).length ≤ l.length) (by simp [ded]) (fun l y h => ?_) l
  rw [ded_snoc]
  split
  · simp; omega
  · simp; omega
open Classical in
theorem nodup_le {α : Type} : ∀ {a b : List α}, a.Nodup → (∀ x ∈ a, x ∈ b) → a.length ≤ b.length
  | [], b, _, _ => Nat.zero_le _
  | x :: xs, b, hn, h => by
    have hx := h x List.mem_cons_self
    rw [List.nodup_cons] at hn
    have h1 := nodup_le (b := b.erase x) hn.2 (fun y hy => by
      have hne : y ≠ x := fun e => hn.1 (by rw [← e]; exact hy)
      rw [List.mem_erase_of_ne hne]
      exact h y (List.mem_cons_of_mem _ hy))
    have h2 := List.length_erase_of_mem hx
    have h3 := List.length_pos_of_mem hx
    simp only [List.length_cons]
    omega
/-- as many nodes as different subtrees -/
theorem puts_least (ts : List T) : (T.puts ts []).1.length = (ded (T.subsL ts)).length := by
  obtain ⟨-, h1, h2, h3, h4⟩ := T.puts_spec ts [] formN_nil List.nodup_nil
  obtain ⟨ns, hns⟩ : ∃ ns, (T.puts ts []).1 = ns := ⟨_, rfl⟩
  have hm := T.puts_mem ts [] formN_nil List.nodup_nil
  rw [hns] at h1 h2 h3 h4 hm ⊢
  have hnd : (trsA ns).Nodup := by
    rw [List.nodup_iff_pairwise_ne, List.pairwise_iff_getElem]
    intro i j hi hj hlt e
    rw [trsA_len] at hi hj
    have e' : trA ns i = trA ns j := by
      unfold trA
      have hi' : i < (trsA ns).length := by rw [trsA_len]; exact hi
      have hj' : j < (trsA ns).length := by rw [trsA_len]; exact hj
      simp [List.getD, List.getElem?_eq_getElem hi', List.getElem?_eq_getElem hj', e]
    have := trA_inj h1 h2 i j hi hj e'
    omega
  have memA : ∀ x, x ∈ trsA ns ↔ ∃ i, i < ns.length ∧ trA ns i = x := fun x => by
    constructor
    · intro hx
      obtain ⟨i, hi, e⟩ := List.getElem_of_mem hx
      refine ⟨i, by rw [← trsA_len]; exact hi, ?_⟩
      unfold trA
      simp [List.getD, List.getElem?_eq_getElem hi, e]
    · rintro ⟨i, hi, rfl⟩
      have hi' : i < (trsA ns).length := by rw [trsA_len]; exact hi
      unfold trA
      simp [List.getD, List.getElem?_eq_getElem hi']
  have iff1 : ∀ x, x ∈ trsA ns ↔ x ∈ T.subsL ts := fun x => by
    rw [memA]
    constructor
    · rintro ⟨i, hi, rfl⟩
      exact hm i (by simp) hi
    · intro hx
      obtain ⟨t, ht, hx⟩ := mem_subsL.1 hx
      rw [← h4] at ht
      obtain ⟨k, hk, rfl⟩ := List.mem_map.1 ht
      have := h3 k hk
      exact trA_closed h1 _ (by omega) x hx
  rw [← trsA_len]
  apply Nat.le_antisymm
  · exact nodup_le hnd (fun x hx => (ded_mem _ x).2 ((iff1 x).1 hx))
  · exact nodup_le (ded_nodup _) (fun x hx => (iff1 x).2 ((ded_mem _ x).1 hx))
end Go.Proofs.YtdabmjcpiblofaaDoor
