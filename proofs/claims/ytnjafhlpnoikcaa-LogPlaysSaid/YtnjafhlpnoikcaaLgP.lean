/-
  What scan finds in bytes that records were written to: plain. No condition.
-/
import Derived.Test.YtnjafhlpnoikcaaLgK
namespace Go.Proofs.Ytnjafhlpnoikcaa
open Go.RowKit
set_option linter.unusedVariables false

theorem getD_drop (l : List Nat) (e i : Nat) : l.getD (e + i) 0 = (l.drop e).getD i 0 := by
  rw [List.getD_eq_getElem?_getD, List.getD_eq_getElem?_getD, List.getElem?_drop]
theorem len4_drop (l : List Nat) (e : Nat) : len4 l e = len4 (l.drop e) 0 := by
  unfold len4
  have h0 := getD_drop l e 0
  rw [Nat.add_zero] at h0
  rw [h0, getD_drop l e 1, getD_drop l e 2, getD_drop l e 3]
theorem len4_be4 {n : Nat} (hn : n < 4294967296) (r : List Nat) : len4 (be4 n ++ r) 0 = n := by
  unfold len4 be4
  simp
  omega
/-- one record -/
def recB (b : List Nat) : List Nat := [1] ++ be4 b.length ++ b
theorem areaS_cons (b : List Nat) (rs : List (List Nat)) : areaS (b :: rs) = recB b ++ areaS rs := rfl
theorem areaS_snoc (b : List Nat) (rs : List (List Nat)) : areaS (rs ++ [b]) = areaS rs ++ recB b := by unfold areaS recB; simp
theorem recB_len (b : List Nat) : (recB b).length = 5 + b.length := by unfold recB; simp [be4]; omega
/-- records that stand there are found, and the end behind them -/
theorem scan_recs (l : List Nat) : ∀ (rs : List (List Nat)) (k e : Nat) (rest : List Nat), (∀ b ∈ rs, b.length < 4294967296) → l.length < k + e → e ≤ l.length → l.drop e = areaS rs ++ rest →
    ¬ (5 ≤ rest.length ∧ rest.getD 0 0 = 1) → scanS l k e = (rs, e + (areaS rs).length)
  | [], k, e, rest, _, _, hle, hd, hs => by
    have hd' : l.drop e = rest := hd
    rw [scan_stop]
    · rfl
    · intro h
      have h0 := getD_drop l e 0
      rw [Nat.add_zero, hd'] at h0
      refine hs ⟨?_, by rw [← h0]; exact h.2⟩
      rw [← hd', List.length_drop]
      omega
  | b :: rs, k, e, rest, hb, hk, hle, hd, hs => by
    rw [areaS_cons, List.append_assoc] at hd
    have hlen := congrArg List.length hd
    rw [List.length_drop, List.length_append, recB_len] at hlen
    obtain ⟨j, rfl⟩ : ∃ j, k = j + 1 := ⟨k - 1, by omega⟩
    have hd1 : l.drop e = 1 :: (be4 b.length ++ (b ++ (areaS rs ++ rest))) := by rw [hd]; unfold recB; simp
    have h0 : l.getD e 0 = 1 := by
      have := getD_drop l e 0
      rw [Nat.add_zero, hd1] at this
      exact this
    have hd2 : l.drop (e + 1) = be4 b.length ++ (b ++ (areaS rs ++ rest)) := by rw [← List.drop_drop, hd1]; rfl
    have h4 : len4 l (e + 1) = b.length := by rw [len4_drop, hd2]; exact len4_be4 (hb b (by simp)) _
    have hd5 : l.drop (e + 5) = b ++ (areaS rs ++ rest) := by
      have : l.drop (e + 1 + 4) = (l.drop (e + 1)).drop 4 := by rw [List.drop_drop]
      rw [show e + 5 = e + 1 + 4 from rfl, this, hd2]
      rfl
    have hd6 : l.drop (e + 5 + b.length) = areaS rs ++ rest := by rw [← List.drop_drop, hd5, List.drop_left]
    rw [scan_next ⟨by omega, h0⟩ (by rw [h4]; omega), h4, hd5, List.take_left]
    rw [scan_recs l rs j (e + 5 + b.length) rest (fun x hx => hb x (by simp [hx])) (by omega) (by omega) hd6 hs]
    rw [areaS_cons, List.length_append, recB_len]
    simp only [Prod.mk.injEq, true_and]
    omega
/-- a spliced list, cut -/
theorem spl_drop_le {d : List Nat} {a : Nat} {b : List Nat} {e : Nat} (h : a + b.length ≤ e) (ha : a + b.length ≤ d.length) : (spl d a b).drop e = d.drop e := by
  unfold spl
  have h1 : (d.take a).length = a := by rw [List.length_take]; omega
  rw [List.drop_append, h1, List.drop_eq_nil_of_le (by rw [h1]; omega), List.nil_append, List.drop_append, List.drop_eq_nil_of_le (by omega), List.nil_append, List.drop_drop]
  congr 1
  omega
theorem spl_take_le {d : List Nat} {a : Nat} {b : List Nat} {e : Nat} (h : e ≤ a) (ha : a ≤ d.length) : (spl d a b).take e = d.take e := by
  unfold spl
  rw [List.take_append_of_le_length (by rw [List.length_take]; omega), List.take_take]
  congr 1
  omega
theorem spl_at {d : List Nat} {a : Nat} {b : List Nat} (ha : a ≤ d.length) : (spl d a b).drop a = b ++ d.drop (a + b.length) := by
  unfold spl
  have h1 : (d.take a).length = a := by rw [List.length_take]; omega
  rw [List.drop_append, h1, List.drop_eq_nil_of_le (by omega), List.nil_append, Nat.sub_self, List.drop_zero]
end Go.Proofs.Ytnjafhlpnoikcaa
