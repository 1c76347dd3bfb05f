/-
  The least key of some letters above a text. No condition.
-/
import Derived.Test.YtikabbpipdekfaaPsV
import Derived.Test.YtikabbpipdekfaaPsShelf
import Derived.Lib.Repeat
namespace Go.Proofs.Ytikabbpipdekfaa
open Go.RowKit
set_option linter.unusedVariables false

theorem V_as : ∀ (k j : Nat), V k (List.replicate j 97) = 0
  | 0, j => rfl
  | k + 1, 0 => rfl
  | k + 1, j + 1 => by rw [List.replicate_succ, V_cons, V_as k j]; simp [dg]
theorem V_zs : ∀ (j : Nat), V j (List.replicate j 122) + 1 = 26 ^ j
  | 0 => rfl
  | j + 1 => by
    have := V_zs j
    rw [List.replicate_succ, V_cons, Nat.pow_succ]
    have e : dg 122 = 25 := rfl
    rw [e]
    omega
theorem lets_rep {c : UInt8} (h : Let c) (j : Nat) : Lets (List.replicate j c) := fun x hx => by rw [(List.mem_replicate.1 hx).2]; exact h
/-- a text that is shorter: filled with 'a', and a 'b' -/
theorem least_long {l : List UInt8} {n : Nat} (h : Lets l) (hn : n ≤ 60) (hl : l.length < n) :
    (l ++ List.replicate (n - l.length - 1) 97 ++ [98]).length = n ∧ Lets (l ++ List.replicate (n - l.length - 1) 97 ++ [98]) ∧ V n (l ++ List.replicate (n - l.length - 1) 97 ++ [98]) = up (W l) n ∧ W l / Bn n + 1 < 26 ^ n := by
  obtain ⟨k, hk⟩ : ∃ k, n - l.length - 1 = k := ⟨_, rfl⟩
  rw [hk]
  have hL : Lets (l ++ List.replicate k 97 ++ [98]) := (h.app (lets_rep ⟨by decide, by decide⟩ k)).app (fun c hc => by simp at hc; subst hc; exact ⟨by decide, by decide⟩)
  have hlen : (l ++ List.replicate k 97).length = l.length + k := by simp
  have e1 : V n (l ++ List.replicate k 97 ++ [98]) = V l.length l * 26 ^ k * 26 + 1 := by
    have := V_last (l ++ List.replicate k 97) 98
    rw [hlen] at this
    rw [show n = l.length + k + 1 by omega, this, V_app, V_as]
    rfl
  have e2 : W l / Bn n = V l.length l * 26 ^ k * 26 := by
    rw [← V_of_W h hn, show n = l.length + (k + 1) by omega, V_more, Nat.pow_succ, Nat.mul_assoc]
  have e3 : (W l / Bn n + 1) % 26 = 1 := by rw [e2]; omega
  have hV := V_lt n _ hL
  refine ⟨by simp; omega, hL, ?_, ?_⟩
  · unfold up
    rw [if_neg (by omega), e1, e2]
  · rw [e2]; omega
/-- a text of at least n letters, of which the last but j are no 'z' -/
theorem least_short {l p : List UInt8} {n j : Nat} {c : UInt8} (h : Lets l) (hn : n ≤ 60) (hp : l.take n = p ++ [c] ++ List.replicate j 122) (hpn : p.length + 1 + j = n) (hc : c ≠ 122) (x : List UInt8) (hx : x = if j = 0 then [] else List.replicate (j - 1) 97 ++ [98]) :
    (p ++ [c + 1] ++ x).length = n ∧ Lets (p ++ [c + 1] ++ x) ∧ V n (p ++ [c + 1] ++ x) = up (W l) n ∧ W l / Bn n + 1 < 26 ^ n := by
  have hT := h.take n
  rw [hp] at hT
  have hcl : Let c := hT c (by simp)
  have hpl : Lets p := fun y hy => hT y (by simp [hy])
  have hc1 : (c + 1).toNat = c.toNat + 1 := by
    rw [UInt8.toNat_add]
    have := hcl.2
    show (c.toNat + 1) % 256 = _
    omega
  have hcn : c.toNat ≠ 122 := fun e => hc (UInt8.toNat_inj.1 e)
  have hcl' : Let (c + 1) := ⟨by rw [hc1]; have := hcl.1; omega, by rw [hc1]; have := hcl.2; omega⟩
  have hd : dg (c + 1) = dg c + 1 := by unfold dg; rw [hc1]; have := hcl.1; omega
  have hd25 := dg_le hcl'
  have hxl : x.length = j := by rw [hx]; split <;> simp <;> omega
  have hxL : Lets x := by
    rw [hx]
    split
    · intro y hy; simp at hy
    · exact (lets_rep ⟨by decide, by decide⟩ _).app (fun c hc => by simp at hc; subst hc; exact ⟨by decide, by decide⟩)
  have hL : Lets (p ++ [c + 1] ++ x) := (hpl.app (fun y hy => by simp at hy; subst hy; exact hcl')).app hxL
  have hxV : V j x = if j = 0 then 0 else 1 := by
    rw [hx]
    by_cases hj : j = 0
    · subst hj; rfl
    · rw [if_neg hj, if_neg hj]
      have := V_last (List.replicate (j - 1) 97) 98
      rw [List.length_replicate, V_as] at this
      rw [show j = j - 1 + 1 by omega]
      simpa [dg] using this
  have e1 : V n (p ++ [c + 1] ++ x) = (V p.length p * 26 + (dg c + 1)) * 26 ^ j + V j x := by
    have := V_app (p ++ [c + 1]) x j
    rw [List.length_append, List.length_cons, List.length_nil, hpn, V_last, hd] at this
    exact this
  have e2 : W l / Bn n = (V p.length p * 26 + dg c) * 26 ^ j + V j (List.replicate j 122) := by
    rw [← V_of_W h hn, ← V_of_take, hp]
    have := V_app (p ++ [c]) (List.replicate j 122) j
    rw [List.length_append, List.length_cons, List.length_nil, hpn, V_last] at this
    exact this
  have e3 : W l / Bn n + 1 = (V p.length p * 26 + (dg c + 1)) * 26 ^ j := by
    have := V_zs j
    rw [e2, ← Nat.add_assoc, Nat.add_mul _ 1, Nat.one_mul]
    omega
  have hV := V_lt n _ hL
  refine ⟨by simp; omega, hL, ?_, by omega⟩
  unfold up
  rw [e1, hxV]
  by_cases hj : j = 0
  · subst hj
    rw [Nat.pow_zero, Nat.mul_one] at e3 ⊢
    have hm : ¬ (W l / Bn n + 1) % 26 = 0 := by rw [e3]; omega
    rw [if_neg hm, e3, if_pos rfl]
    rfl
  · have : (W l / Bn n + 1) % 26 = 0 := by
      rw [e3, show j = (j - 1) + 1 by omega, Nat.pow_succ, ← Nat.mul_assoc]
      exact Nat.mul_mod_left _ _
    rw [if_pos this, if_neg hj, ← e3]
/-- all letters are 'z' -/
theorem least_none {l : List UInt8} {n : Nat} (h : Lets l) (hn : n ≤ 60) (hp : l.take n = List.replicate n 122) : W l / Bn n + 1 = 26 ^ n := by
  rw [← V_of_W h hn, ← V_of_take, hp, V_zs]

theorem enc_small (r : Nat) (c1 : r < 128) : (Utf8.encode (r : Int)).data.toList = [UInt8.ofNat r] := by
  have v : Utf8.valid (r : Int) = true := by simp [Utf8.valid]; omega
  simp [Utf8.encode, v, c1]
theorem extract_data (s : ByteArray) (m : Nat) : (s.extract 0 m).data.toList = s.data.toList.take m := by simp [ByteArray.data_extract]
/-- the text, taken apart at the last letter that is no 'z' -/
theorem short_parts {s : ByteArray} {n m : Nat} (hm : m < s.size) (hmn : m < n) (hn : n ≤ s.size) (hz : ∀ k (hk : k < s.size), k < n → (m : Int) < (k : Int) → s[k] = 122) : s.data.toList.take n = s.data.toList.take m ++ [s[m]] ++ List.replicate (n - 1 - m) 122 := by
  apply List.ext_getElem?
  intro k
  have hl : (s.data.toList.take m).length = m := by rw [List.length_take, size_data]; omega
  rw [List.getElem?_take]
  rcases Nat.lt_trichotomy k m with h | h | h
  · rw [if_pos (by omega), List.append_assoc, List.getElem?_append_left (by omega), List.getElem?_take, if_pos h]
  · subst h
    rw [if_pos (by omega), get_data s k hm, List.append_assoc, List.getElem?_append_right (by omega), hl]
    simp
  · rw [List.getElem?_append_right (by simp [hl]; omega)]
    rw [List.length_append, hl, List.length_cons, List.length_nil, List.getElem?_replicate]
    by_cases hk : k < n
    · rw [if_pos hk, if_pos (by omega), get_data s k (by omega), hz k (by omega) hk (by omega)]
    · rw [if_neg hk, if_neg (by omega)]
theorem enc_next {c : UInt8} (h : c.toNat ≤ 122) : Utf8.encode ((c.toNat : Int) + 1) = ⟨#[c + 1]⟩ := by
  have e : ((c.toNat : Int) + 1) = ((c.toNat + 1 : Nat) : Int) := by omega
  rw [e]
  have h1 := enc_small (c.toNat + 1) (by omega)
  have h2 : UInt8.ofNat (c.toNat + 1) = c + 1 := by
    apply UInt8.toNat_inj.1
    rw [UInt8.toNat_add]
    simp
  rw [h2] at h1
  apply ByteArray.ext
  apply Array.toList_inj.1
  rw [h1]
def LeastPost (w : World) (l : List UInt8) (n : Nat) (e : Ending) (w' : World) : Prop :=
  Below w.heap.size w w' ∧ ((W l / Bn n + 1 < 26 ^ n ∧ ∃ t : ByteArray, e = .returned (.tuple #[.string t, .bool true]) ∧ t.size = n ∧ Lets t.data.toList ∧ V n t.data.toList = up (W l) n) ∨
    (W l / Bn n + 1 = 26 ^ n ∧ e = .returned (.tuple #[.string ⟨#[]⟩, .bool false])))
theorem cat_data (a b : ByteArray) : (a ++ b).data.toList = a.data.toList ++ b.data.toList := by simp

set_option maxRecDepth 100000 in
set_option maxHeartbeats 800000 in
theorem least_any (s : ByteArray) (n : Nat) (w : World) (hs : s.size ≤ 60) (hl : Lets s.data.toList) (h1 : 1 ≤ n) (hn : n ≤ 60) : Calls Try.prog 25 #[.string s, .int .i64 (n : Int)] w (LeastPost w s.data.toList n) := by
  by_cases hc : s.size < n
  · have d1 : decide ((s.size : Int) < (n : Int)) = true := decide_eq_true (by omega)
    have d1' : decide (s.size < n) = true := decide_eq_true (by omega)
    have HC := Lib.hid (Try.strings_Repeat ⟨#[97]⟩ (n - s.size - 1) w (by omega) (by show 1 * _ ≤ _; omega))
    rw [show ((n - s.size - 1 : Nat) : Int) = (n : Int) - (s.size : Int) - 1 by omega] at HC
    have HR : Hid (Lib.repeatL (⟨#[97]⟩ : ByteArray).data.toList (n - s.size - 1) = List.replicate (n - s.size - 1) 97) := by
      have := Lib.repeatL_replicate 97 1 (n - s.size - 1)
      rw [Nat.mul_one] at this
      exact this
    have hsz : ((Lib.repeatL (⟨#[97]⟩ : ByteArray).data.toList (n - s.size - 1)).length) = n - s.size - 1 := by rw [HR.out]; simp
    obtain ⟨rl, hrl⟩ : ∃ rl, Lib.repeatL (⟨#[97]⟩ : ByteArray).data.toList (n - s.size - 1) = rl := ⟨_, rfl⟩
    rw [hrl] at HC HR hsz
    have hsz3 : rl.length ≤ 60 := by omega
    have HL := Lib.hid hl
    clear hrl hsz hl
    go_enter Try.func25, Try.ntmps25
    go_wp2_with fail
    refine (HC.out).mono ?_
    rintro e w1 ⟨rfl, hb1⟩
    have HB := Lib.hid hb1
    clear hb1
    go_wp2_with fail
    go_ret2
    have hk := least_long (l := s.data.toList) (n := n) HL.out hn (by rw [size_data]; exact hc)
    rw [size_data] at hk
    have e5 : (s ++ ⟨rl.toArray⟩ ++ ⟨#[98]⟩ : ByteArray).data.toList = s.data.toList ++ List.replicate (n - s.size - 1) 97 ++ [98] := by rw [cat_data, cat_data, HR.out]
    refine ⟨HB.out, .inl ⟨hk.2.2.2, _, rfl, ?_, ?_, ?_⟩⟩
    · rw [← size_data, e5]; exact hk.1
    · rw [e5]; exact hk.2.1
    · rw [e5]; exact hk.2.2.1
  · have d1 : decide ((s.size : Int) < (n : Int)) = false := decide_eq_false (by omega)
    have d1' : decide (s.size < n) = false := decide_eq_false (by omega)
    have HL := Lib.hid hl
    clear hl
    go_enter Try.func25, Try.ntmps25
    go_wp2_with fail
    go_loop [6] (fun i => ∃ z : Int, i = .int .i64 z ∧ -1 ≤ z ∧ z < (n : Int) ∧ Hid (∀ m (hm : m < s.size), m < n → z < (m : Int) → s[m] = 122)) (fun i => (intOf i + 1).toNat)
    case atStart => exact ⟨_, rfl, by omega, by omega, fun m hm h2 h3 => absurd h3 (by omega)⟩
    case round =>
      obtain ⟨z, rfl, hz1, hz2, HZ⟩ := hrel
      by_cases hneg : z < 0
      · obtain rfl : z = -1 := by omega
        have HE : Hid (W s.data.toList / Bn n + 1 = 26 ^ n) := least_none HL.out hn (by
          apply List.ext_getElem?
          intro k
          rw [List.getElem?_take, List.getElem?_replicate]
          split
          · rename_i hk
            rw [get_data s k (by omega), HZ.out k (by omega) hk (by omega)]
          · rfl)
        go_wp2_with fail
        go_ret2
        exact ⟨Below.refl _ _, .inr ⟨HE.out, rfl⟩⟩
      · obtain ⟨m, rfl⟩ : ∃ m : Nat, z = m := ⟨z.toNat, by omega⟩
        have hms : m < s.size := by omega
        by_cases hz : s[m] = 122
        · have hz' : s[m].toNat = 122 := by rw [hz]; rfl
          have e1 : ((s[m].toNat : Int) == 122) = true := by rw [hz']; rfl
          have HN : Hid (∀ k (hm : k < s.size), k < n → (m : Int) - 1 < (k : Int) → s[k] = 122) := fun k hk h2 h3 => by
            rcases Nat.lt_or_ge m k with h' | h'
            · exact HZ.out k hk h2 (by omega)
            · obtain rfl : k = m := by omega
              exact hz
          clear hz hz'
          go_wp2_with fail
          go_round
          case rel => exact ⟨_, rfl, by omega, by omega, HN⟩
          case measure => simp [intOf]
        · have hz' : s[m].toNat ≠ 122 := fun e => hz (UInt8.toNat_inj.1 e)
          have e1 : ((s[m].toNat : Int) == 122) = false := by rw [beq_eq_false_iff_ne]; omega
          have HZZ := Lib.hid hz
          have hlet : Let s[m] := HL.out _ (List.mem_of_getElem? (get_data s m hms))
          have hb1 : (s[m].toNat : Int) ≤ 122 := by have := hlet.2; omega
          have hb0 : 97 ≤ (s[m].toNat : Int) := by have := hlet.1; omega
          have b0 : (0 : Int) ≤ (m : Int) := by omega
          have b1 : (m : Int) ≤ (s.size : Int) := by omega
          have b2 : (m : Int) < (s.size : Int) := by omega
          have f1 : IntKind.u8.wrap ((s[m].toNat : Int) + 1) = (s[m].toNat : Int) + 1 := IntWalk.u8_in _ (by omega)
          have f2 : 0 ≤ (s[m].toNat : Int) + 1 := by omega
          have f3 := enc_next (c := s[m]) (by omega)
          have f4 : (9223372036854775807 < min m s.size + 1) = False := by simp; omega
          clear hz hz' hlet
          go_wp2_with fail
          go_quiet (fail)
          have hp := short_parts hms (by omega) (by omega) HZ.out
          have hlen : (s.data.toList.take m).length = m := by rw [List.length_take, size_data]; omega
          by_cases hlast : m = n - 1
          · have d2 : decide ((m : Int) < (n : Int) - 1) = false := decide_eq_false (by omega)
            have HK := Lib.hid (least_short (x := []) HL.out hn hp (by rw [hlen]; omega) HZZ.out (by rw [if_pos (by omega)]))
            clear hp hlen f1 f3 f4
            go_wp2_with fail
            go_ret2
            have e5 : (s.extract 0 m ++ ⟨#[s[m] + 1]⟩ : ByteArray).data.toList = s.data.toList.take m ++ [s[m] + 1] ++ [] := by rw [cat_data, extract_data]; simp
            refine ⟨below_drewN (Below.refl _ _) _, .inl ⟨HK.out.2.2.2, _, rfl, ?_, ?_, ?_⟩⟩
            · rw [← size_data, e5]; exact HK.out.1
            · rw [e5]; exact HK.out.2.1
            · rw [e5]; exact HK.out.2.2.1
          · have d2 : decide ((m : Int) < (n : Int) - 1) = true := decide_eq_true (by omega)
            obtain ⟨j, hj⟩ : ∃ j, n - 1 - m = j := ⟨_, rfl⟩
            have hrep := Lib.repeatL_replicate 97 1 (j - 1)
            obtain ⟨rl, hrl⟩ : ∃ rl, Lib.repeatL (⟨#[97]⟩ : ByteArray).data.toList (j - 1) = rl := ⟨_, rfl⟩
            have hr1 : rl = List.replicate (j - 1) 97 := by rw [← hrl]; rw [Nat.mul_one] at hrep; exact hrep
            rw [hj] at hp
            have HK := Lib.hid (least_short (x := rl ++ [98]) HL.out hn hp (by rw [hlen]; omega) HZZ.out (by rw [if_neg (by omega), hr1]))
            have HC := Lib.hid (fun w' : World => Try.strings_Repeat ⟨#[97]⟩ (j - 1) w' (by omega) (by show 1 * _ ≤ _; omega))
            rw [hrl, show ((j - 1 : Nat) : Int) = (n : Int) - (m : Int) - 2 by omega] at HC
            have hsz3 : rl.length ≤ 60 := by rw [hr1]; simp; omega
            have f5 : min m s.size ≤ 60 := by omega
            clear hp hlen f1 f3 f4 hj hrep hrl hr1
            go_wp2_with fail
            refine (HC.out _).mono ?_
            rintro e w1 ⟨rfl, hb1⟩
            have HB := Lib.hid ((below_drewN (Below.refl _ _) _).trans hb1)
            clear hb1
            go_wp2_with fail
            go_ret2
            have e5 : (s.extract 0 m ++ ⟨#[s[m] + 1]⟩ ++ (⟨rl.toArray⟩ ++ ⟨#[98]⟩) : ByteArray).data.toList = s.data.toList.take m ++ [s[m] + 1] ++ (rl ++ [98]) := by rw [cat_data, cat_data, cat_data, extract_data]
            refine ⟨HB.out, .inl ⟨HK.out.2.2.2, _, rfl, ?_, ?_, ?_⟩⟩
            · rw [← size_data, e5]; exact HK.out.1
            · rw [e5]; exact HK.out.2.1
            · rw [e5]; exact HK.out.2.2.1
end Go.Proofs.Ytikabbpipdekfaa
