/-
  The key between two texts: the program's Between. No condition.
-/
import Derived.Test.YtikabbpipdekfaaPsL
namespace Go.Proofs.Ytikabbpipdekfaa
open Go.RowKit
set_option linter.unusedVariables false

/-- bytes of one's own, in a block of their own -/
def Byts (w : World) (g : Nat) (l : List UInt8) : Prop := ∃ cs m, w.heap[g]? = some (.cells cs 5 (m, m + 1)) ∧ l.length ≤ cs.size ∧ l.length ≤ m ∧ ∀ j (hj : j < l.length), cs[j]? = some (.int .u8 (l[j].toNat : Int))
section
variable {w w' : World} {g : Nat} {l : List UInt8}
theorem Byts.lt (h : Byts w g l) : g < w.heap.size := by
  obtain ⟨cs, m, hb, -⟩ := h
  rcases Nat.lt_or_ge g w.heap.size with h1 | h1
  · exact h1
  · rw [Array.getElem?_eq_none h1] at hb; cases hb
theorem Byts.cell (h : Byts w g l) {j : Nat} (hj : j < l.length) : w.cell? ⟨g, j, none⟩ = some (.int .u8 (l[j].toNat : Int)) := by
  obtain ⟨cs, m, hb, _, _, hc⟩ := h
  rw [cell_of_row w g j cs 5 (m, m + 1) hb]
  exact hc j hj
theorem Byts.froz (h : Byts w g l) {j : Nat} (hj : j < l.length) : w.frozen? ⟨g, j, none⟩ = false := by
  obtain ⟨cs, m, hb, _, hm, hc⟩ := h
  simp [World.frozen?, hb]
  omega
theorem Byts.below (h : Byts w g l) (hb : Below w.heap.size w w') : Byts w' g l := by
  have hl := h.lt
  obtain ⟨cs, m, h1, h2⟩ := h
  exact ⟨cs, m, (hb.block g hl).trans h1, h2⟩
theorem Byts.set_ (h : Byts w g l) {k : Nat} (hk : k < l.length) (c : UInt8) : Byts (w.setCell ⟨g, k, none⟩ (.int .u8 (c.toNat : Int))) g (l.set k c) := by
  obtain ⟨cs, m, h1, h2, h3, h4⟩ := h
  refine ⟨cs.setIfInBounds k (.int .u8 (c.toNat : Int)), m, by simp [World.setCell, Array.getElem?_modify, h1], by simpa using h2, by simpa using h3, fun j hj => ?_⟩
  rw [List.length_set] at hj
  rw [Array.getElem?_setIfInBounds]
  by_cases e : k = j
  · subst e
    rw [if_pos rfl, if_pos (by omega)]
    simp
  · rw [if_neg e, h4 j hj, List.getElem_set_ne e]
theorem Byts.str (h : Byts w g l) (cap : Nat) : (convert 41 9 (.slice (some ⟨g, 0, none⟩) l.length cap)).run Try.prog w = .ok (.string ⟨l.toArray⟩) w :=
  run_convert_bytes_back w 41 9 5 ⟨g, 0, none⟩ cap l Try.underlying41 Try.underlying5 Try.underlying9 (fun j hj => by
    have := h.cell hj
    rwa [Addr.add_lit, Nat.zero_add])
end
/-- bytes made of a text -/
theorem byts_new (w : World) (s : ByteArray) : ∃ cap w2, (convert 9 41 (.string s)).run Try.prog w = .ok (.slice (some ⟨w.heap.size, 0, none⟩) s.size cap) w2 ∧ Byts w2 w.heap.size s.data.toList ∧ Below w.heap.size w w2 := by
  refine ⟨_, _, run_bytes_of_string w 9 41 5 s Try.underlying9 Try.underlying41 Try.underlying5, ?_, ?_⟩
  · obtain ⟨cap, hcap⟩ : ∃ c, grownCap w s.size 0 5 = c := ⟨_, rfl⟩
    rw [hcap]
    have hsz : (bytesRow s cap).size = s.size + (cap - s.size) := by simp [bytesRow]
    refine ⟨bytesRow s cap, (bytesRow s cap).size, heap_alloc_new w.drew _, by rw [hsz, size_data]; omega, by rw [hsz, size_data]; omega, fun k hk => ?_⟩
    rw [size_data] at hk
    unfold bytesRow
    rw [Array.getElem?_append_left (by simpa using hk), Array.getElem?_map]
    have h1 : s.data[k]? = some s[k] := by
      rw [Array.getElem?_eq_getElem (by simpa using hk)]; rfl
    rw [h1]
    simp
    rfl
  · have h1 : Below w.heap.size w w.drew := below_drewN (Below.refl _ _) 1
    exact h1.alloc h1.size _
def BIs (lo hi s : List UInt8) (e : Int) : Prop :=
  if (lo ≠ [] ∧ keyB lo = false) ∨ (hi ≠ [] ∧ keyB hi = false) then s = [] ∧ e = 5 else
  if lo ≠ [] ∧ hi ≠ [] ∧ ¬ lo < hi then s = [] ∧ e = 12 else BRes (W lo) (if hi = [] then Bn 0 else W hi) s e
def BetwPost (w : World) (lo hi : List UInt8) (e : Ending) (w' : World) : Prop :=
  Below w.heap.size w w' ∧ ∃ (t : ByteArray) (x : Int), e = .returned (.tuple #[.string t, .int .i64 x]) ∧ BIs lo hi t.data.toList x
theorem empty_of {s : ByteArray} (h : s.size = 0) : s = ⟨#[]⟩ := by
  apply ByteArray.ext
  exact Array.eq_empty_of_size_eq_zero h
/-- what is known when a key is found -/
structure Found (L H : Nat) (k : Nat) (p : List UInt8) (c : UInt8) : Prop where
  lev : lev L H (k + 1) ≠ none
  least : ∀ n', 1 ≤ n' → n' < k + 1 → Go.Proofs.Ytikabbpipdekfaa.lev L H n' = none
  plen : p.length = k
  lets : Lets (p ++ [c])
  val : V (k + 1) (p ++ [c]) = up L (k + 1)
/-- the same letters but the last one -/
theorem Found.other {L H k : Nat} {p : List UInt8} {c x : UInt8} (h : Found L H k p c) (hx : x.toNat ≤ 122) {j : Nat} (hj : x.toNat = c.toNat + j) : Lets (p ++ [x]) ∧ V (k + 1) (p ++ [x]) = up L (k + 1) + j := by
  have hc : Let c := h.lets c (by simp)
  have hl : Lets (p ++ [x]) := (show Lets p from fun y hy => h.lets y (by simp [hy])).app (fun y hy => by simp at hy; subst hy; exact ⟨by have := hc.1; omega, hx⟩)
  refine ⟨hl, ?_⟩
  have e1 := V_last p x
  have e2 := V_last p c
  rw [h.plen] at e1 e2
  rw [e1, ← h.val, e2]
  have : dg x = dg c + j := by unfold dg; have := hc.1; omega
  omega
theorem Found.mod {L H k : Nat} {p : List UInt8} {c : UInt8} (h : Found L H k p c) : up L (k + 1) % 26 = c.toNat - 97 := by
  have e2 := V_last p c
  rw [h.plen, h.val] at e2
  have hc : Let c := h.lets c (by simp)
  have := dg_le hc
  rw [e2, Nat.mul_comm, Nat.mul_add_mod, Nat.mod_eq_of_lt (by omega)]
  rfl
/-- a text that differs in the last letter is below the second one if its number is -/
theorem Found.lt_iff {L H k : Nat} {p hi : List UInt8} {c x : UInt8} (h : Found L H k p c) (hk : k < 60) (hx : x.toNat ≤ 122) {j : Nat} (hj : x.toNat = c.toNat + j) (hhi : Key hi) : p ++ [x] < hi ↔ (up L (k + 1) + j) * Bn (k + 1) < W hi := by
  obtain ⟨hl, hv⟩ := h.other hx hj
  have hlen : (p ++ [x]).length = k + 1 := by simp [h.plen]
  rw [W_lt_iff hl (by omega) hhi.lets hhi.len hhi.fin, W_eq (by omega), hlen, hv]
theorem Found.res {L H k : Nat} {p : List UInt8} {c x : UInt8} (h : Found L H k p c) (hk : k < 60) {j n : Nat} (hc : IsCnt H (k + 1) (up L (k + 1)) n) (hn : j = (n - 1) / 2) (hx : x.toNat ≤ 122) (hj : x.toNat = c.toNat + j) : BRes L H (p ++ [x]) 0 := by
  obtain ⟨hl, hv⟩ := h.other hx hj
  exact .inl ⟨rfl, k + 1, n, by omega, by omega, h.least, h.lev, hc, by simp [h.plen], hl, by rw [hv, hn]⟩
end Go.Proofs.Ytikabbpipdekfaa
