/-
  What an append leaves, where the power holds and where it fails: plain. No condition.
-/
import Derived.Test.YtnjafhlpnoikcaaLgQ
namespace Go.Proofs.Ytnjafhlpnoikcaa
open Go.RowKit
set_option linter.unusedVariables false

theorem write_on {s : DS} {a : Nat} {b : List Nat} (ho : s.off = false) (hw : s.wait = []) (hin : a + b.length ≤ s.dur.length) : writeS s (a : Int) b = if (spendS s).1 then (0, { (spendS s).2 with wait := [(a, b)] }) else (15, (spendS s).2) := by
  have hi : insideB s.dur.length (a : Int) (b.length : Int) = true := by unfold insideB; simp; omega
  unfold writeS
  rw [if_neg (by rw [ho]; decide), hi, if_neg (by decide), hw, if_neg (by simp), List.nil_append, Int.toNat_natCast]
theorem store_two {s : DS} {a : Nat} {b : List Nat} {f : Option Nat} (ho : s.off = false) (hw : s.wait = []) (hin : a + b.length ≤ s.dur.length) (hf : (s.fuse = none ∧ f = none) ∨ ∃ k, s.fuse = some (k + 2) ∧ f = some k) :
    storeS s (a : Int) b = (0, { dur := spl s.dur a b, wait := [], off := false, fuse := f }) := by
  obtain ⟨dur, wait, off, fuse⟩ := s
  simp only at ho hw hin hf
  subst ho hw
  unfold storeS
  rw [write_on rfl rfl hin]
  rcases hf with ⟨rfl, rfl⟩ | ⟨k, rfl, rfl⟩
  · rfl
  · rfl
theorem store_none {s : DS} {a : Nat} {b : List Nat} (ho : s.off = false) (hw : s.wait = []) (hin : a + b.length ≤ s.dur.length) (hf : s.fuse = some 0) :
    storeS s (a : Int) b = (15, { dur := s.dur, wait := [], off := true, fuse := some 0 }) := by
  obtain ⟨dur, wait, off, fuse⟩ := s
  simp only at ho hw hin hf
  subst ho hw hf
  unfold storeS
  rw [write_on rfl rfl hin]
  rfl
theorem store_one {s : DS} {a : Nat} {b : List Nat} (ho : s.off = false) (hw : s.wait = []) (hin : a + b.length ≤ s.dur.length) (hf : s.fuse = some 1) :
    storeS s (a : Int) b = (15, { dur := s.dur, wait := [(a, b)], off := true, fuse := some 0 }) := by
  obtain ⟨dur, wait, off, fuse⟩ := s
  simp only at ho hw hin hf
  subst ho hw hf
  unfold storeS
  rw [write_on rfl rfl hin]
  rfl
section
variable {s : DS} {l : LS} {b : List Nat}
theorem clean_zero (h : Clean s l) : s.dur.getD l.at_ 0 = 0 := by
  obtain ⟨rest, hd, hr, hf⟩ := h.bits
  show s.dur.getD (startS l.half l.second + l.fin) 0 = 0
  rw [getD_drop, hd, List.getD_eq_getElem?_getD, List.getElem?_append_right (by rw [h.fin]; exact Nat.le_refl _), h.fin, Nat.sub_self, ← List.getD_eq_getElem?_getD]
  exact hr
theorem add_clean (h : Clean s l) (hroom : l.fin + 6 + b.length ≤ l.half) : addS s l b = if (storeS s (l.at_ + 1 : Nat) (be4 b.length ++ b ++ [0])).1 = 0 then storeS (storeS s (l.at_ + 1 : Nat) (be4 b.length ++ b ++ [0])).2 l.at_ [1] else storeS s (l.at_ + 1 : Nat) (be4 b.length ++ b ++ [0]) := by
  have hst := start_le h
  have hat : l.at_ = startS l.half l.second + l.fin := rfl
  have hrd : (readS s l.at_ 1).2 = 0 ∧ (readS s l.at_ 1).1.getD 0 0 = 0 := by
    have hi : insideB s.dur.length (l.at_ : Int) 1 = true := by unfold insideB; simp; omega
    unfold readS
    rw [if_neg (by rw [h.on]; decide), hi, if_neg (by decide), h.wait]
    refine ⟨rfl, ?_⟩
    show ((s.dur.drop (l.at_ : Int).toNat).take (1 : Int).toNat).getD 0 0 = 0
    rw [Int.toNat_natCast, List.getD_eq_getElem?_getD, List.getElem?_take, if_pos (by decide), List.getElem?_drop, Nat.add_zero, ← List.getD_eq_getElem?_getD]
    exact clean_zero h
  unfold addS
  rw [if_pos hrd.1]
  simp only [hrd.2, if_true]
theorem body_len : (be4 b.length ++ b ++ [0]).length = 5 + b.length := by simp [be4]; omega
theorem clean_fits (h : Clean s l) (hroom : l.fin + 6 + b.length ≤ l.half) : l.at_ + 1 + (be4 b.length ++ b ++ [0]).length ≤ s.dur.length ∧ l.at_ + 1 ≤ s.dur.length := by
  have hst := start_le h
  have hat : l.at_ = startS l.half l.second + l.fin := rfl
  rw [body_len]
  omega
/-- the record is written, its mark is not -/
theorem clean_body (h : Clean s l) (hroom : l.fin + 6 + b.length ≤ l.half) {s' : DS} {c : List Nat} (on : s'.off = false) (wait : s'.wait = []) (hc : c.length ≤ 5 + b.length) (hd : s'.dur = spl s.dur (l.at_ + 1) c) : Clean s' l := by
  obtain ⟨f1, f2⟩ := clean_fits h hroom
  rw [body_len] at f1
  have hle : l.at_ + 1 + c.length ≤ s.dur.length := by omega
  refine clean_after h on wait (by rw [hd, spl_len hle]) ?_ ?_
  · show s'.dur.take l.at_ = s.dur.take l.at_
    rw [hd, spl_take_le (by omega) (by omega)]
  · show s'.dur.getD l.at_ 0 = 0
    have h1 := clean_zero h
    have h2 : (s'.dur.take (l.at_ + 1)) = s.dur.take (l.at_ + 1) := by rw [hd, spl_take_le (Nat.le_refl _) (by omega)]
    have h3 := congrArg (fun l' => l'[l.at_]?) h2
    simp only [List.getElem?_take, if_pos (Nat.lt_succ_self _)] at h3
    rw [List.getD_eq_getElem?_getD, h3, ← List.getD_eq_getElem?_getD]
    exact h1
/-- the record and its mark are written -/
theorem clean_full (h : Clean s l) (hroom : l.fin + 6 + b.length ≤ l.half) {s' : DS} (on : s'.off = false) (wait : s'.wait = []) (hd : s'.dur = spl (spl s.dur (l.at_ + 1) (be4 b.length ++ b ++ [0])) l.at_ [1]) (hbl : b.length < 4294967296) : Clean s' { l with recs := l.recs ++ [b], fin := l.fin + 5 + b.length } := by
  obtain ⟨f1, f2⟩ := clean_fits h hroom
  have hl1 : (spl s.dur (l.at_ + 1) (be4 b.length ++ b ++ [0])).length = s.dur.length := spl_len f1
  have hle : l.at_ + ([1] : List Nat).length ≤ (spl s.dur (l.at_ + 1) (be4 b.length ++ b ++ [0])).length := by rw [hl1]; simp; omega
  refine clean_more h on wait (by rw [hd, spl_len hle, hl1]) ?_ ⟨[0] ++ s.dur.drop (l.at_ + 1 + (be4 b.length ++ b ++ [0]).length), ?_, rfl⟩ hbl hroom
  · show s'.dur.take l.at_ = s.dur.take l.at_
    rw [hd, spl_take_le (Nat.le_refl _) (by rw [hl1]; omega), spl_take_le (by omega) (by omega)]
  · show s'.dur.drop l.at_ = _
    rw [hd, spl_at (by rw [hl1]; omega)]
    show [1] ++ (spl s.dur (l.at_ + 1) (be4 b.length ++ b ++ [0])).drop (l.at_ + 1) = _
    rw [spl_at (by omega)]
    unfold recB
    simp
end
end Go.Proofs.Ytnjafhlpnoikcaa
