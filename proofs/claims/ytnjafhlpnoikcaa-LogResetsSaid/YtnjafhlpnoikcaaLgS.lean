/-
  An append, and a crash behind it: plain. No condition.
-/
import Derived.Test.YtnjafhlpnoikcaaLgR
namespace Go.Proofs.Ytnjafhlpnoikcaa
open Go.RowKit
set_option linter.unusedVariables false

section
variable {s : DS} {l : LS} {b : List Nat}
theorem app_full (h : Clean s l) (hfull : l.half < l.fin + 6 + b.length) : appS s l b = (17, s, l) := by
  unfold appS
  rw [if_neg (by rw [h.alive]; decide), if_pos hfull]
theorem app_room (h : Clean s l) (hroom : l.fin + 6 + b.length ≤ l.half) : appS s l b = if (addS s l b).1 = 0 then (0, (addS s l b).2, { l with recs := l.recs ++ [b], fin := l.fin + 5 + b.length }) else ((addS s l b).1, (addS s l b).2, { l with dead := true }) := by
  unfold appS
  rw [if_neg (by rw [h.alive]; decide), if_neg (by omega)]
theorem app_good {f : Option Nat} (h : Clean s l) (hroom : l.fin + 6 + b.length ≤ l.half) (hbl : b.length < 4294967296) (hf : (s.fuse = none ∧ f = none) ∨ ∃ k, s.fuse = some (k + 4) ∧ f = some k) :
    ∃ s', appS s l b = (0, s', { l with recs := l.recs ++ [b], fin := l.fin + 5 + b.length }) ∧ Clean s' { l with recs := l.recs ++ [b], fin := l.fin + 5 + b.length } ∧ s'.fuse = f ∧ s'.dur.length = s.dur.length := by
  obtain ⟨f1, f2⟩ := clean_fits h hroom
  obtain ⟨f', h1, h2⟩ : ∃ f', ((s.fuse = none ∧ f' = none) ∨ ∃ k, s.fuse = some (k + 2) ∧ f' = some k) ∧ ((f' = none ∧ f = none) ∨ ∃ k, f' = some (k + 2) ∧ f = some k) := by
    rcases hf with ⟨e1, e2⟩ | ⟨k, e1, e2⟩
    · exact ⟨none, .inl ⟨e1, rfl⟩, .inl ⟨rfl, e2⟩⟩
    · exact ⟨some (k + 2), .inr ⟨k + 2, e1, rfl⟩, .inr ⟨k, rfl, e2⟩⟩
  have hs1 := store_two (f := f') h.on h.wait f1 h1
  have hl1 : (spl s.dur (l.at_ + 1) (be4 b.length ++ b ++ [0])).length = s.dur.length := spl_len f1
  have hs2 := store_two (s := { dur := spl s.dur (l.at_ + 1) (be4 b.length ++ b ++ [0]), wait := [], off := false, fuse := f' }) (a := l.at_) (b := [1]) (f := f) rfl rfl (by rw [hl1]; simp; omega) h2
  have hadd := add_clean h hroom
  rw [hs1] at hadd
  simp only [if_true] at hadd
  rw [hs2] at hadd
  refine ⟨{ dur := spl (spl s.dur (l.at_ + 1) (be4 b.length ++ b ++ [0])) l.at_ [1], wait := [], off := false, fuse := f }, ?_, clean_full h hroom rfl rfl rfl hbl, rfl, ?_⟩
  · rw [app_room h hroom, hadd]
    rfl
  · show (spl (spl s.dur (l.at_ + 1) (be4 b.length ++ b ++ [0])) l.at_ [1]).length = _
    rw [spl_len (by rw [hl1]; simp; omega), hl1]
/-- the power fails within an append: after any crash the records are those before it, or one more -/
theorem app_bad {k : Nat} (h : Clean s l) (hroom : l.fin + 6 + b.length ≤ l.half) (hbl : b.length < 4294967296) (hf : s.fuse = some k) (hk : k < 4) :
    ∃ s', appS s l b = (15, s', { l with dead := true }) ∧ ∀ keep part, Clean (crashS s' keep part) l ∨ Clean (crashS s' keep part) { l with recs := l.recs ++ [b], fin := l.fin + 5 + b.length } := by
  obtain ⟨f1, f2⟩ := clean_fits h hroom
  have hadd := add_clean h hroom
  have hl1 : (spl s.dur (l.at_ + 1) (be4 b.length ++ b ++ [0])).length = s.dur.length := spl_len f1
  have happ := app_room h hroom
  rcases (show k = 0 ∨ k = 1 ∨ k = 2 ∨ k = 3 by omega) with rfl | rfl | rfl | rfl
  · rw [store_none h.on h.wait f1 hf] at hadd
    rw [if_neg (by show ¬ ((15 : Int) = 0); decide)] at hadd
    rw [hadd] at happ
    refine ⟨_, happ.trans (if_neg (by show ¬ ((15 : Int) = 0); decide)), fun keep part => .inl ?_⟩
    exact clean_body (c := []) h hroom rfl rfl (by simp) (by show seenL s.dur _ = _; rw [spl_nil]; rfl)
  · rw [store_one h.on h.wait f1 hf] at hadd
    rw [if_neg (by show ¬ ((15 : Int) = 0); decide)] at hadd
    rw [hadd] at happ
    refine ⟨_, happ.trans (if_neg (by show ¬ ((15 : Int) = 0); decide)), fun keep part => .inl ?_⟩
    by_cases hkp : keep.getD 0 false = true
    · refine clean_body (c := be4 b.length ++ b ++ [0]) h hroom rfl rfl (by rw [body_len]; exact Nat.le_refl _) ?_
      show seenL s.dur (crashL keep part 0 true [(l.at_ + 1, be4 b.length ++ b ++ [0])]) = _
      unfold crashL
      rw [if_pos hkp]
      rfl
    · refine clean_body (c := (be4 b.length ++ b ++ [0]).take (clampP part (be4 b.length ++ b ++ [0]).length)) h hroom rfl rfl (by rw [List.length_take, body_len]; omega) ?_
      show seenL s.dur (crashL keep part 0 true [(l.at_ + 1, be4 b.length ++ b ++ [0])]) = _
      unfold crashL
      rw [if_neg hkp]
      rfl
  · have hs1 := store_two (f := some 0) h.on h.wait f1 (.inr ⟨0, hf, rfl⟩)
    rw [hs1] at hadd
    simp only [if_true] at hadd
    rw [store_none (s := { dur := spl s.dur (l.at_ + 1) (be4 b.length ++ b ++ [0]), wait := [], off := false, fuse := some 0 }) (a := l.at_) (b := [1]) rfl rfl (by rw [hl1]; simp; omega) rfl] at hadd
    rw [hadd] at happ
    refine ⟨_, happ.trans (if_neg (by show ¬ ((15 : Int) = 0); decide)), fun keep part => .inl ?_⟩
    exact clean_body (c := be4 b.length ++ b ++ [0]) h hroom rfl rfl (by rw [body_len]; exact Nat.le_refl _) rfl
  · have hs1 := store_two (f := some 1) h.on h.wait f1 (.inr ⟨1, hf, rfl⟩)
    rw [hs1] at hadd
    simp only [if_true] at hadd
    rw [store_one (s := { dur := spl s.dur (l.at_ + 1) (be4 b.length ++ b ++ [0]), wait := [], off := false, fuse := some 1 }) (a := l.at_) (b := [1]) rfl rfl (by rw [hl1]; simp; omega) rfl] at hadd
    rw [hadd] at happ
    refine ⟨_, happ.trans (if_neg (by show ¬ ((15 : Int) = 0); decide)), fun keep part => ?_⟩
    have hcr : ∀ c, (c = [1] ∨ c = []) → crashL keep part 0 true [(l.at_, [1])] = [(l.at_, c)] → Clean (crashS { dur := spl s.dur (l.at_ + 1) (be4 b.length ++ b ++ [0]), wait := [(l.at_, [1])], off := true, fuse := some 0 } keep part) l ∨ Clean (crashS { dur := spl s.dur (l.at_ + 1) (be4 b.length ++ b ++ [0]), wait := [(l.at_, [1])], off := true, fuse := some 0 } keep part) { l with recs := l.recs ++ [b], fin := l.fin + 5 + b.length } := fun c hc he => by
      have hd : (crashS { dur := spl s.dur (l.at_ + 1) (be4 b.length ++ b ++ [0]), wait := [(l.at_, [1])], off := true, fuse := some 0 } keep part).dur = spl (spl s.dur (l.at_ + 1) (be4 b.length ++ b ++ [0])) l.at_ c := by
        show seenL _ (crashL keep part 0 true [(l.at_, [1])]) = _
        rw [he]
        rfl
      rcases hc with rfl | rfl
      · exact .inr (clean_full h hroom rfl rfl hd hbl)
      · rw [spl_nil] at hd
        exact .inl (clean_body (c := be4 b.length ++ b ++ [0]) h hroom rfl rfl (by rw [body_len]; exact Nat.le_refl _) hd)
    by_cases hkp : keep.getD 0 false = true
    · refine hcr [1] (.inl rfl) ?_
      unfold crashL
      rw [if_pos hkp]
      rfl
    · refine hcr (([1] : List Nat).take (clampP part 1)) ?_ ?_
      · rcases (show clampP part 1 = 0 ∨ 1 ≤ clampP part 1 by omega) with h0 | h0
        · right; rw [h0]; rfl
        · left; exact List.take_of_length_le h0
      · unfold crashL
        rw [if_neg hkp]
        rfl
end
end Go.Proofs.Ytnjafhlpnoikcaa
