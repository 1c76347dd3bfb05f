/-
  Longest ascending choices: plain, over numbers (0: no key). No condition.
-/
import Derived.Test.YtikabbpipdekfaaPsS
namespace Go.Proofs.Ytikabbpipdekfaa
set_option linter.unusedVariables false

/-- the greatest of the numbers b that belong to elements above a -/
def mx (a : Nat) : List Nat → List Nat → Nat
  | k :: r, b :: bs => max (if a < k then b else 0) (mx a r bs)
  | _, _ => 0
def best : List Nat → List Nat
  | [] => []
  | a :: r => (if 0 < a then mx a r (best r) + 1 else 0) :: best r
def maxL : List Nat → Nat
  | [] => 0
  | b :: bs => max b (maxL bs)
def gr : List Nat → List Nat → Nat → Nat → List Bool
  | a :: r, b :: bs, left, last => if 0 < left ∧ b = left ∧ last < a then true :: gr r bs (left - 1) a else false :: gr r bs left last
  | _, _, _, _ => []
def keepN (ns : List Nat) : List Bool := gr ns (best ns) (maxL (best ns)) 0
theorem best_len (ns : List Nat) : (best ns).length = ns.length := by
  induction ns with
  | nil => rfl
  | cons a r ih => simp [best, ih]
theorem gr_len : ∀ (ns bs : List Nat) (l la : Nat), bs.length = ns.length → (gr ns bs l la).length = ns.length
  | [], [], _, _, _ => rfl
  | a :: r, b :: bs, l, la, h => by
    rw [gr]
    have hl : bs.length = r.length := by simpa using h
    split <;> simp [gr_len r bs _ _ hl]
theorem mx_ge {a : Nat} : ∀ {r bs : List Nat} {i k b : Nat}, r[i]? = some k → bs[i]? = some b → a < k → b ≤ mx a r bs
  | k' :: r, b' :: bs, 0, k, b, h1, h2, h3 => by
    simp at h1 h2; subst h1 h2
    rw [mx, if_pos h3]; omega
  | k' :: r, b' :: bs, i + 1, k, b, h1, h2, h3 => by
    have := mx_ge (i := i) (by simpa using h1) (by simpa using h2) h3
    rw [mx]; omega
  | [], _, i, k, b, h1, _, _ => by simp at h1
  | _ :: _, [], i, k, b, _, h2, _ => by simp at h2
theorem mx_att {a : Nat} : ∀ {r bs : List Nat}, mx a r bs = 0 ∨ ∃ i k : Nat, r[i]? = some k ∧ bs[i]? = some (mx a r bs) ∧ a < k
  | k :: r, b :: bs => by
    rcases mx_att (a := a) (r := r) (bs := bs) with h | ⟨i, k', h1, h2, h3⟩
    · by_cases hk : a < k
      · rw [mx, if_pos hk, h, Nat.max_zero]
        exact .inr ⟨0, k, rfl, rfl, hk⟩
      · rw [mx, if_neg hk, h]; exact .inl rfl
    · rw [mx]
      by_cases hk : a < k ∧ mx a r bs ≤ b
      · rw [if_pos hk.1, Nat.max_eq_left hk.2]
        exact .inr ⟨0, k, rfl, rfl, hk.1⟩
      · have : max (if a < k then b else 0) (mx a r bs) = mx a r bs := by split <;> omega
        rw [this]
        exact .inr ⟨i + 1, k', by simpa using h1, by simpa using h2, h3⟩
  | [], _ => .inl (by simp [mx])
  | _ :: _, [] => .inl (by simp [mx])
theorem best_pos : ∀ {ns : List Nat} {i k b : Nat}, ns[i]? = some k → (best ns)[i]? = some b → (0 < b ↔ 0 < k)
  | a :: r, 0, k, b, h1, h2 => by
    simp [best] at h1 h2; subst h1
    by_cases h : 0 < a
    · rw [if_pos h] at h2; omega
    · rw [if_neg h] at h2; omega
  | a :: r, i + 1, k, b, h1, h2 => best_pos (ns := r) (by simpa using h1) (by simpa [best] using h2)
  | [], i, k, b, h1, _ => by simp at h1
theorem maxL_ge : ∀ {bs : List Nat} {i b : Nat}, bs[i]? = some b → b ≤ maxL bs
  | x :: bs, 0, b, h => by simp at h; subst h; rw [maxL]; omega
  | x :: bs, i + 1, b, h => by have := maxL_ge (bs := bs) (i := i) (by simpa using h); rw [maxL]; omega
  | [], i, b, h => by simp at h
theorem maxL_mx : ∀ ns : List Nat, maxL (best ns) = mx 0 ns (best ns)
  | [] => rfl
  | a :: r => by
    rw [best, maxL, mx, maxL_mx r]
    by_cases h : 0 < a
    · rw [if_pos h, if_pos h]
    · rw [if_neg h, if_neg h]
/-- the greatest heads of ascending lists of 1, 2, .. elements -/
structure Heads (r hs : List Nat) : Prop where
  len : hs.length = maxL (best r)
  desc : ∀ i j x y : Nat, i < j → hs[i]? = some x → hs[j]? = some y → y < x
  mem : ∀ j x : Nat, hs[j]? = some x → 0 < x ∧ ∃ i : Nat, r[i]? = some x ∧ (best r)[i]? = some (j + 1)
  ub : ∀ i x b : Nat, r[i]? = some x → (best r)[i]? = some (b + 1) → ∃ y : Nat, hs[b]? = some y ∧ x ≤ y
theorem Heads.nil : Heads [] [] := ⟨rfl, (fun i j x y _ h => by simp at h), (fun j x h => by simp at h), (fun i x b h => by simp at h)⟩
theorem Heads.skip {r hs : List Nat} (h : Heads r hs) : Heads (0 :: r) hs := by
  have e : best (0 :: r) = 0 :: best r := by rw [best, if_neg (by omega)]
  refine ⟨by rw [e, maxL, h.len]; omega, h.desc, fun j x hx => ?_, fun i x b hi hb => ?_⟩
  · obtain ⟨h0, i, h1, h2⟩ := h.mem j x hx
    exact ⟨h0, i + 1, by simpa using h1, by rw [e]; simpa using h2⟩
  · rw [e] at hb
    cases i with
    | zero => simp at hb
    | succ i => exact h.ub i x b (by simpa using hi) (by simpa using hb)
/-- how long a list can be that begins with a -/
theorem Heads.at_ {r hs : List Nat} {a p : Nat} (h : Heads r hs) (hp : p ≤ hs.length) (hlo : ∀ j x : Nat, j < p → hs[j]? = some x → a < x) (hhi : ∀ x : Nat, hs[p]? = some x → x ≤ a) : mx a r (best r) = p := by
  have g1 : p ≤ mx a r (best r) := by
    rcases Nat.eq_zero_or_pos p with h0 | h0
    · omega
    · obtain ⟨x, hx⟩ : ∃ x, hs[p - 1]? = some x := ⟨_, List.getElem?_eq_getElem (by omega)⟩
      obtain ⟨-, i, h1, h2⟩ := h.mem _ x hx
      have := mx_ge (a := a) h1 h2 (hlo _ x (by omega) hx)
      omega
  rcases mx_att (a := a) (r := r) (bs := best r) with h0 | ⟨i, k, h1, h2, h3⟩
  · omega
  · rcases Nat.lt_or_ge p (mx a r (best r)) with hlt | hge
    · exfalso
      obtain ⟨b, hb⟩ : ∃ b, mx a r (best r) = b + 1 := ⟨mx a r (best r) - 1, by omega⟩
      rw [hb] at h2 hlt
      obtain ⟨y, hy, hky⟩ := h.ub i k b h1 h2
      have hbl := (List.getElem?_eq_some_iff.1 hy).1
      obtain ⟨z, hz⟩ : ∃ z, hs[p]? = some z := ⟨_, List.getElem?_eq_getElem (by omega)⟩
      have hza := hhi z hz
      rcases Nat.lt_or_ge p b with h4 | h4
      · have := h.desc p b z y h4 hz hy; omega
      · obtain rfl : p = b := by omega
        rw [hz] at hy; injection hy with hy; omega
    · omega
theorem Heads.put {r hs : List Nat} {a p : Nat} (h : Heads r hs) (ha : 0 < a) (hp : p ≤ hs.length) (hlo : ∀ j x : Nat, j < p → hs[j]? = some x → a < x) (hhi : ∀ x : Nat, hs[p]? = some x → x ≤ a) (hs' : List Nat) (hh : hs' = if p = hs.length then hs ++ [a] else hs.set p a) : Heads (a :: r) hs' := by
  have hm := h.at_ hp hlo hhi
  have e : best (a :: r) = (p + 1) :: best r := by rw [best, if_pos ha, hm]
  have hlen : hs'.length = max (p + 1) hs.length := by
    rw [hh]; split
    · rename_i he; simp; omega
    · rw [List.length_set]; omega
  have hget : ∀ j, hs'[j]? = if j = p then some a else hs[j]? := fun j => by
    rw [hh]
    split
    · rename_i he
      split
      · rename_i hj; rw [List.getElem?_append_right (by omega)]; simp [hj, he]
      · rename_i hj
        rcases Nat.lt_or_ge j hs.length with h1 | h1
        · rw [List.getElem?_append_left h1]
        · rw [List.getElem?_eq_none (by simp; omega), List.getElem?_eq_none (by omega)]
    · rename_i he
      rw [List.getElem?_set]
      by_cases hj : p = j
      · rw [if_pos hj, if_pos (by omega), if_pos hj.symm]
      · rw [if_neg hj, if_neg (fun e => hj e.symm)]
  refine ⟨by rw [hlen, e, maxL, h.len], fun i j x y hij hx hy => ?_, fun j x hx => ?_, fun i x b hi hb => ?_⟩
  · rw [hget] at hx hy
    by_cases e1 : i = p
    · rw [if_pos e1] at hx
      injection hx with hx
      subst hx
      rw [if_neg (by omega)] at hy
      have hjl := (List.getElem?_eq_some_iff.1 hy).1
      obtain ⟨z, hz⟩ : ∃ z, hs[p]? = some z := ⟨_, List.getElem?_eq_getElem (by omega)⟩
      have := h.desc p j z y (by omega) hz hy
      have := hhi z hz
      omega
    · rw [if_neg e1] at hx
      by_cases e2 : j = p
      · rw [if_pos e2] at hy
        injection hy with hy
        subst hy
        exact hlo i x (by omega) hx
      · rw [if_neg e2] at hy
        exact h.desc i j x y hij hx hy
  · rw [hget] at hx
    by_cases e1 : j = p
    · rw [if_pos e1] at hx
      injection hx with hx
      subst hx
      exact ⟨ha, 0, rfl, by rw [e, e1]; rfl⟩
    · rw [if_neg e1] at hx
      obtain ⟨h0, i, h1, h2⟩ := h.mem j x hx
      exact ⟨h0, i + 1, by simpa using h1, by rw [e]; simpa using h2⟩
  · rw [e] at hb
    rw [hget]
    cases i with
    | zero =>
      simp at hi hb
      subst hi
      rw [if_pos (by omega)]
      exact ⟨a, rfl, Nat.le_refl _⟩
    | succ i =>
      obtain ⟨y, hy, hxy⟩ := h.ub i x b (by simpa using hi) (by simpa using hb)
      by_cases e1 : b = p
      · rw [if_pos e1]
        rw [e1] at hy
        have := hhi y hy
        exact ⟨a, rfl, by omega⟩
      · rw [if_neg e1]
        exact ⟨y, hy, hxy⟩
/-- of any ascending choice none has more elements -/
def pick : List Nat → List Bool → Nat → Nat
  | a :: r, c, last => if c.head? = some true ∧ 0 < a ∧ last < a then pick r c.tail a + 1 else pick r c.tail last
  | [], _, _ => 0
theorem pick_le : ∀ (ns : List Nat) (c : List Bool) (last : Nat), pick ns c last ≤ mx last ns (best ns)
  | [], c, last => by simp [pick]
  | a :: r, c, last => by
    rw [pick, best, mx]
    split
    · rename_i h
      have := pick_le r c.tail a
      rw [if_pos h.2.2, if_pos h.2.1]
      omega
    · have := pick_le r c.tail last
      omega
def trues : List Bool → Nat
  | [] => 0
  | b :: bs => (if b then 1 else 0) + trues bs
/-- as many stay as there can be -/
theorem gr_trues : ∀ (ns : List Nat) (left last : Nat), (left = 0 ∨ ∃ i k : Nat, ns[i]? = some k ∧ (best ns)[i]? = some left ∧ last < k) → trues (gr ns (best ns) left last) = left
  | [], left, last, h => by
    rcases h with h | ⟨i, k, h, -⟩
    · subst h; rfl
    · simp at h
  | a :: r, left, last, h => by
    have e : best (a :: r) = (if 0 < a then mx a r (best r) + 1 else 0) :: best r := by rw [best]
    obtain ⟨b0, hb0⟩ : ∃ b0, (if 0 < a then mx a r (best r) + 1 else 0) = b0 := ⟨_, rfl⟩
    rw [hb0] at e
    rw [e] at h
    rw [e, gr]
    split
    · rename_i hc
      have ha : 0 < a := by omega
      rw [if_pos ha] at hb0
      rw [trues, gr_trues r (left - 1) a, if_pos rfl]
      · omega
      · rcases mx_att (a := a) (r := r) (bs := best r) with h0 | ⟨i, k, h1, h2, h3⟩
        · exact .inl (by omega)
        · exact .inr ⟨i, k, h1, by rw [h2]; congr 1; omega, h3⟩
    · rename_i hc
      rw [trues, gr_trues r left last, if_neg (by simp)]
      · omega
      · rcases h with h | ⟨i, k, h1, h2, h3⟩
        · exact .inl h
        · cases i with
          | zero =>
            simp at h1 h2
            subst h1 h2
            refine .inl ?_
            rcases Nat.eq_zero_or_pos b0 with h0 | h0
            · exact h0
            · exact absurd ⟨h0, rfl, h3⟩ hc
          | succ i => exact .inr ⟨i, k, by simpa using h1, by simpa using h2, h3⟩
theorem keep_trues (ns : List Nat) : trues (keepN ns) = mx 0 ns (best ns) := by
  unfold keepN
  rw [gr_trues ns _ 0, maxL_mx]
  rw [maxL_mx]
  rcases mx_att (a := 0) (r := ns) (bs := best ns) with h | ⟨i, k, h1, h2, h3⟩
  · exact .inl h
  · exact .inr ⟨i, k, h1, h2, h3⟩
/-- what stays is ascending -/
def asc : List Nat → List Bool → Nat → Prop
  | a :: r, b :: bs, last => if b = true then last < a ∧ asc r bs a else asc r bs last
  | _, _, _ => True
theorem gr_asc : ∀ (ns bs : List Nat) (left last : Nat), asc ns (gr ns bs left last) last
  | [], _, _, _ => by simp [asc]
  | _ :: _, [], _, _ => by simp [gr, asc]
  | a :: r, b :: bs, left, last => by
    rw [gr]
    split
    · rename_i h
      rw [asc, if_pos rfl]
      exact ⟨h.2.2, gr_asc r bs (left - 1) a⟩
    · rw [asc, if_neg (by simp)]
      exact gr_asc r bs left last
/-- of ascending keys all stay -/
theorem keep_all : ∀ (ns : List Nat) (last : Nat), (∀ i k : Nat, ns[i]? = some k → 0 < k) → (∀ i x y : Nat, ns[i]? = some x → ns[i + 1]? = some y → x < y) → (∀ x : Nat, ns[0]? = some x → last < x) → best ns = (List.range ns.length).map (fun i => ns.length - i) ∧ gr ns (best ns) ns.length last = List.replicate ns.length true
  | [], last, _, _, _ => ⟨rfl, rfl⟩
  | a :: r, last, h0, h1, h2 => by
    have ha : 0 < a := h0 0 a rfl
    have hr1 : ∀ x : Nat, r[0]? = some x → a < x := fun x hx => h1 0 a x rfl (by simpa using hx)
    obtain ⟨e1, e2⟩ := keep_all r a (fun i k hk => h0 (i + 1) k (by simpa using hk)) (fun i x y hx hy => h1 (i + 1) x y (by simpa using hx) (by simpa using hy)) hr1
    have hm : mx a r (best r) = r.length := by
      have hle : ∀ (q bs : List Nat) (n : Nat), (∀ b ∈ bs, b ≤ n) → mx a q bs ≤ n := fun q => by
        induction q with
        | nil => intro bs n h; simp [mx]
        | cons k q ih =>
          intro bs n h
          cases bs with
          | nil => simp [mx]
          | cons b bs =>
            rw [mx]
            have := ih bs n (fun x hx => h x (by simp [hx]))
            have := h b (by simp)
            split <;> omega
      have g1 := hle r (best r) r.length (fun b hb => by
        rw [e1] at hb
        obtain ⟨i, _, rfl⟩ := List.mem_map.1 hb
        omega)
      cases hr : r with
      | nil => simp [mx]
      | cons x q =>
        rw [← hr]
        have : r.length ≤ mx a r (best r) := mx_ge (i := 0) (k := x) (by rw [hr]; rfl) (by rw [e1, hr]; simp) (hr1 x (by rw [hr]; rfl))
        omega
    have eb : best (a :: r) = (r.length + 1) :: best r := by rw [best, if_pos ha, hm]
    refine ⟨?_, ?_⟩
    · rw [eb, e1, List.length_cons, List.range_succ_eq_map]
      simp [Function.comp_def]
    · rw [eb, gr, if_pos ⟨by simp, by simp, h2 a rfl⟩, List.length_cons, Nat.add_sub_cancel, e2, List.replicate_succ]
end Go.Proofs.Ytikabbpipdekfaa
