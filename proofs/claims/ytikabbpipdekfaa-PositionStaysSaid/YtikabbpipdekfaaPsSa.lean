/-
  New keys are keys in ascending order: plain. No condition.
-/
import Derived.Test.YtikabbpipdekfaaPsX
import Derived.Test.YtikabbpipdekfaaPsY
namespace Go.Proofs.Ytikabbpipdekfaa
open Go.RowKit
set_option linter.unusedVariables false

/-- what is found is a key, and lies between -/
theorem found {lo hi a : List UInt8} (h : BIs lo hi a 0) : Key a ∧ (lo = [] ∨ (Key lo ∧ lo < a)) ∧ (hi = [] ∨ (Key hi ∧ a < hi)) ∧ BRes (W lo) (top hi) a 0 ∧ W lo < W a ∧ W a < top hi ∧ (lo = [] ∨ keyB lo = true) ∧ (hi = [] ∨ keyB hi = true) ∧ (lo = [] ∨ hi = [] ∨ lo < hi) := by
  unfold BIs at h
  split at h
  · cases h.2
  · rename_i hc
    have hlo : lo = [] ∨ keyB lo = true := by
      cases hb : keyB lo with
      | true => exact .inr rfl
      | false =>
        by_cases e : lo = []
        · exact .inl e
        · exact absurd (.inl ⟨e, hb⟩) hc
    have hhi : hi = [] ∨ keyB hi = true := by
      cases hb : keyB hi with
      | true => exact .inr rfl
      | false =>
        by_cases e : hi = []
        · exact .inl e
        · exact absurd (.inr ⟨e, hb⟩) hc
    split at h
    · cases h.2
    · rename_i hd
      have hord : lo = [] ∨ hi = [] ∨ lo < hi := by
        by_cases e1 : lo = []
        · exact .inl e1
        · by_cases e2 : hi = []
          · exact .inr (.inl e2)
          · by_cases l : lo < hi
            · exact .inr (.inr l)
            · exact absurd ⟨e1, e2, l⟩ hd
      have htop : top hi ≤ Bn 0 := by
        unfold top
        split
        · exact Nat.le_refl _
        · rename_i hn
          exact Nat.le_of_lt (W_lt (keyB_iff.1 (hhi.resolve_left hn)).lets)
      obtain ⟨k, w1, w2⟩ := BRes.key (H := top hi) h htop
      refine ⟨k, ?_, ?_, h, w1, w2, hlo, hhi, hord⟩
      · rcases hlo with e | e
        · exact .inl e
        · have kl := keyB_iff.1 e
          exact .inr ⟨kl, (W_lt_iff kl.lets kl.len k.lets k.len k.fin).2 w1⟩
      · rcases hhi with e | e
        · exact .inl e
        · have kh := keyB_iff.1 e
          refine .inr ⟨kh, (W_lt_iff k.lets k.len kh.lets kh.len kh.fin).2 ?_⟩
          unfold top at w2
          rw [if_neg kh.pos] at w2
          exact w2
theorem two_list (x : Nat) : (two x).data.toList = [UInt8.ofNat (97 + x / 25), UInt8.ofNat (98 + x % 25)] := rfl
theorem two_key {x : Nat} (h : x ≤ 649) : keyB (two x).data.toList = true ∧ num (two x) = (x / 25 * 26 + 1 + x % 25) * 26 ^ 58 := by
  have e1 : (UInt8.ofNat (97 + x / 25)).toNat = 97 + x / 25 := UInt8.toNat_ofNat_of_lt' (by show _ < 256; omega)
  have e2 : (UInt8.ofNat (98 + x % 25)).toNat = 98 + x % 25 := UInt8.toNat_ofNat_of_lt' (by show _ < 256; omega)
  have hl : Lets (two x).data.toList := fun c hc => by
    rw [two_list] at hc
    simp only [List.mem_cons, List.not_mem_nil, or_false] at hc
    rcases hc with rfl | rfl
    · exact ⟨by rw [e1]; omega, by rw [e1]; omega⟩
    · exact ⟨by rw [e2]; omega, by rw [e2]; omega⟩
  have hk : Key (two x).data.toList := by
    refine ⟨by rw [two_list]; simp, by rw [two_list]; simp, hl, ?_⟩
    unfold Fin
    rw [two_list]
    intro e
    simp only [List.getLast?_cons_cons, List.getLast?_singleton, Option.some.injEq] at e
    have := congrArg UInt8.toNat e
    rw [e2] at this
    have : 98 + x % 25 = 97 := this
    omega
  refine ⟨keyB_iff.2 hk, ?_⟩
  rw [(num_key (keyB_iff.2 hk)).1, W_eq (by rw [two_list]; simp), two_list]
  show V 2 _ * Bn 2 = _
  rw [V_cons, V_cons]
  unfold dg
  rw [e1, e2]
  show ((97 + x / 25 - 97) * 26 ^ 1 + ((98 + x % 25 - 97) * 26 ^ 0 + 0)) * 26 ^ 58 = _
  congr 1
  omega
theorem two_lt {x y : Nat} (h : x < y) (hy : y ≤ 649) : num (two x) < num (two y) := by
  rw [(two_key (by omega)).2, (two_key hy).2]
  exact Nat.mul_lt_mul_of_pos_right (by omega) (Nat.pow_pos (by omega))
theorem spread_at {m i : Nat} {x : ByteArray} (h : (spread m)[i]? = some x) : i < m ∧ x = two ((i + 1) * (650 / (m + 1))) := by
  unfold spread at h
  rw [List.getElem?_map] at h
  obtain ⟨j, hj, rfl⟩ := Option.map_eq_some_iff.1 h
  have := (List.getElem?_eq_some_iff.1 hj).1
  simp at this
  rw [List.getElem?_range this] at hj
  injection hj with hj
  subst hj
  exact ⟨this, rfl⟩
theorem spread_key {m i : Nat} {x : ByteArray} (h : (spread m)[i]? = some x) : keyB x.data.toList = true := by
  obtain ⟨hi, rfl⟩ := spread_at h
  exact (two_key (spread_bd hi rfl)).1
theorem spread_lt {m i : Nat} {x y : ByteArray} (hm : m ≤ 400) (h : (spread m)[i]? = some x) (h' : (spread m)[i + 1]? = some y) : num x < num y := by
  obtain ⟨hi, rfl⟩ := spread_at h
  obtain ⟨hi', rfl⟩ := spread_at h'
  refine two_lt ?_ (spread_bd hi' rfl)
  have : 1 ≤ 650 / (m + 1) := (Nat.le_div_iff_mul_le (by omega)).2 (by omega)
  rw [Nat.add_mul (i + 1)]
  omega
theorem spread_len (m : Nat) : (spread m).length = m := by simp [spread]
theorem spread_size {m i : Nat} {x : ByteArray} (h : (spread m)[i]? = some x) : x.size = 2 := by
  obtain ⟨hi, rfl⟩ := spread_at h
  rfl

theorem asc_next : ∀ (xs : List ByteArray) (bs : List Bool) (m : Nat), asc (nums xs) bs m → (nextL xs bs).data.toList = [] ∨ (keyB (nextL xs bs).data.toList = true ∧ m < num (nextL xs bs))
  | x :: xs, true :: bs, m, h => by
    have h : m < num x ∧ asc (nums xs) bs (num x) := h
    have e : nextL (x :: xs) (true :: bs) = x := rfl
    rw [e]
    exact .inr ⟨num_pos.1 (by omega), h.1⟩
  | x :: xs, false :: bs, m, h => by
    have h : asc (nums xs) bs m := by
      have h' : if false = true then m < num x ∧ asc (nums xs) bs (num x) else asc (nums xs) bs m := h
      simpa using h'
    exact asc_next xs bs m h
  | [], [], _, _ => .inl rfl
  | [], _ :: _, _, _ => .inl rfl
  | _ :: _, [], _, _ => .inl rfl
theorem RCh.good : ∀ {xs : List ByteArray} {bs : List Bool} {last : ByteArray} {os : List ByteArray} (m : Nat), RCh xs bs last os → asc (nums xs) bs m → (last.data.toList = [] ∨ keyB last.data.toList = true) → ((nextL xs bs).data.toList = [] ∨ num last < num (nextL xs bs)) → (∀ (i : Nat) x, os[i]? = some x → keyB x.data.toList = true) ∧ (∀ x, os[0]? = some x → num last < num x) ∧ (∀ (i : Nat) x y, os[i]? = some x → os[i + 1]? = some y → num x < num y)
  | x :: xs, b :: bs, last, o :: os, m, h, ha, hl, hn => by
    rw [RCh] at h
    have step : keyB o.data.toList = true ∧ num last < num o ∧ ((nextL xs bs).data.toList = [] ∨ num o < num (nextL xs bs)) ∧ ∃ m', asc (nums xs) bs m' := by
      cases b with
      | false =>
        have h1 : BIs last.data.toList (nextL xs bs).data.toList o.data.toList 0 := by simpa using h.1
        obtain ⟨ko, dl, dh, -⟩ := found h1
        have kb := keyB_iff.2 ko
        refine ⟨kb, ?_, ?_, m, ?_⟩
        · rcases hl with hl | hl
          · rw [num_empty hl]; exact (num_key kb).2
          · rcases dl with dl | dl
            · rw [num_empty dl]; exact (num_key kb).2
            · exact (num_lt (.inr hl) kb).1 dl.2
        · rcases dh with dh | dh
          · exact .inl dh
          · exact .inr ((num_lt (.inr kb) (keyB_iff.2 dh.1)).1 dh.2)
        · have h' : if false = true then m < num x ∧ asc (nums xs) bs (num x) else asc (nums xs) bs m := ha
          simpa using h'
      | true =>
        have h1 : o = x := by simpa using h.1
        subst h1
        have ha : m < num o ∧ asc (nums xs) bs (num o) := ha
        have kb : keyB o.data.toList = true := num_pos.1 (by omega)
        refine ⟨kb, ?_, ?_, _, ha.2⟩
        · have e : nextL (o :: xs) (true :: bs) = o := rfl
          rw [e] at hn
          rcases hn with hn | hn
          · rw [num_empty hn] at ha; omega
          · exact hn
        · rcases asc_next xs bs _ ha.2 with g | g
          · exact .inl g
          · exact .inr g.2
    obtain ⟨k, lt, nx, m', ha'⟩ := step
    obtain ⟨g1, g2, g3⟩ := RCh.good m' h.2 ha' (.inr k) nx
    refine ⟨fun i y hy => ?_, fun y hy => ?_, fun i y z hy hz => ?_⟩
    · cases i with
      | zero => simp at hy; subst hy; exact k
      | succ i => exact g1 i y (by simpa using hy)
    · simp at hy; subst hy; exact lt
    · cases i with
      | zero => simp at hy; subst hy; exact g2 z (by simpa using hz)
      | succ i => exact g3 i y z (by simpa using hy) (by simpa using hz)
  | [], [], last, [], m, h, ha, hl, hn => ⟨by simp, by simp, by simp⟩
  | [], [], _, _ :: _, _, h, _, _, _ => h.elim
  | [], _ :: _, _, _, _, h, _, _, _ => h.elim
  | _ :: _, [], _, _, _, h, _, _, _ => h.elim
  | _ :: _, _ :: _, _, [], _, h, _, _, _ => h.elim
theorem RCh.kept : ∀ {xs : List ByteArray} {bs : List Bool} {last : ByteArray} {os : List ByteArray} {i : Nat} {x : ByteArray}, RCh xs bs last os → xs[i]? = some x → bs[i]? = some true → os[i]? = some x
  | x' :: xs, b :: bs, last, o :: os, 0, x, h, hx, hb => by
    rw [RCh] at h
    simp at hx hb ⊢
    subst hx hb
    simpa using h.1
  | x' :: xs, b :: bs, last, o :: os, i + 1, x, h, hx, hb => by
    rw [RCh] at h
    simpa using RCh.kept h.2 (by simpa using hx) (by simpa using hb)
  | [], [], last, [], _, _, h, hx, hb => by simp at hx
  | [], [], _, _ :: _, _, _, h, _, _ => h.elim
  | [], _ :: _, _, _, _, _, h, _, _ => h.elim
  | _ :: _, [], _, _, _, _, h, _, _ => h.elim
  | _ :: _, _ :: _, _, [], _, _, h, _, _ => h.elim
theorem RRes.keys {xs outs : List ByteArray} (h : RRes xs outs) (h400 : xs.length ≤ 400) : (∀ (i : Nat) x, outs[i]? = some x → keyB x.data.toList = true) ∧ (∀ (i : Nat) x y, outs[i]? = some x → outs[i + 1]? = some y → num x < num y) := by
  rcases h with h | ⟨-, rfl⟩
  · have ha : asc (nums xs) (keepN (nums xs)) 0 := gr_asc _ _ _ _
    have hn : (nextL xs (keepN (nums xs))).data.toList = [] ∨ num ⟨#[]⟩ < num (nextL xs (keepN (nums xs))) := by
      rcases asc_next _ _ _ ha with g | g
      · exact .inl g
      · exact .inr (by rw [num_empty rfl]; exact g.2)
    obtain ⟨g1, -, g3⟩ := RCh.good 0 h ha (.inl rfl) hn
    exact ⟨g1, g3⟩
  · exact ⟨fun i x hx => spread_key hx, fun i x y hx hy => spread_lt h400 hx hy⟩
theorem RRes.kept {xs outs : List ByteArray} (h : RRes xs outs) {i : Nat} {x : ByteArray} (hx : xs[i]? = some x) (hb : (keepN (nums xs))[i]? = some true) : outs[i]? = some x ∨ outs = spread xs.length := by
  rcases h with h | ⟨-, h⟩
  · exact .inl (h.kept hx hb)
  · exact .inr h
theorem RCh_all : ∀ (xs : List ByteArray) (last : ByteArray), RCh xs (List.replicate xs.length true) last xs
  | [], _ => trivial
  | x :: xs, last => by
    rw [List.length_cons, List.replicate_succ, RCh]
    exact ⟨by simp, RCh_all xs x⟩
theorem rekey_same {xs o : List ByteArray} (hk : ∀ (i : Nat) x, xs[i]? = some x → keyB x.data.toList = true) (hl : ∀ (i : Nat) x y, xs[i]? = some x → xs[i + 1]? = some y → num x < num y) (h : RRes xs o) : o = xs := by
  have hat : ∀ (i k : Nat), (nums xs)[i]? = some k → ∃ x, xs[i]? = some x ∧ num x = k := fun i k hik => by
    unfold nums at hik
    rw [List.getElem?_map] at hik
    obtain ⟨x, hx, e⟩ := Option.map_eq_some_iff.1 hik
    exact ⟨x, hx, e⟩
  have hpos : ∀ i k : Nat, (nums xs)[i]? = some k → 0 < k := fun i k hik => by
    obtain ⟨x, hx, rfl⟩ := hat i k hik
    exact num_pos.2 (hk i x hx)
  obtain ⟨e1, e2⟩ := keep_all (nums xs) 0 hpos (fun i a b ha hb => by
    obtain ⟨x, hx, rfl⟩ := hat i a ha
    obtain ⟨y, hy, rfl⟩ := hat (i + 1) b hb
    exact hl i x y hx hy) (fun a ha => hpos 0 a ha)
  have hm : maxL (best (nums xs)) = (nums xs).length := by
    refine Nat.le_antisymm (maxL_bd _ (best_bd _)) ?_
    rcases Nat.eq_zero_or_pos (nums xs).length with h0 | h0
    · omega
    · refine maxL_ge (i := 0) ?_
      rw [e1, List.getElem?_map, List.getElem?_range h0]
      simp
  have hk2 : keepN (nums xs) = List.replicate xs.length true := by
    unfold keepN
    rw [hm, e2, nums_len]
  have hr : RRes xs xs := .inl (by rw [hk2]; exact RCh_all xs _)
  exact h.unique hr
end Go.Proofs.Ytikabbpipdekfaa
