/-
  A Reset, and a crash behind it: plain. No condition.
-/
import Derived.Test.YtnjafhlpnoikcaaLgY
namespace Go.Proofs.Ytnjafhlpnoikcaa
open Go.RowKit
set_option linter.unusedVariables false

theorem spl_get {d : List Nat} {a : Nat} {b : List Nat} (ha : a ≤ d.length) (i : Nat) : (spl d a b)[i]? = if i < a then d[i]? else if i < a + b.length then b[i - a]? else d[i]? := by
  unfold spl
  have h1 : (d.take a).length = a := by rw [List.length_take]; omega
  by_cases h : i < a
  · rw [if_pos h, List.getElem?_append_left (by omega), List.getElem?_take, if_pos h]
  · rw [if_neg h, List.getElem?_append_right (by omega), h1]
    by_cases h2 : i < a + b.length
    · rw [if_pos h2, List.getElem?_append_left (by omega)]
    · rw [if_neg h2, List.getElem?_append_right (by omega), List.getElem?_drop]
      congr 1
      omega
/-- the bytes of the current area, up to the one behind the records, and the first byte of the disk are as they were -/
theorem clean_other {s s' : DS} {l : LS} (h : Clean s l) (on : s'.off = false) (wait : s'.wait = []) (hl : s'.dur.length = s.dur.length) (h0 : s'.dur[0]? = s.dur[0]?) (hk : ∀ i, startS l.half l.second ≤ i → i ≤ startS l.half l.second + l.fin → s'.dur[i]? = s.dur[i]?) : Clean s' l := by
  have hst := start_le h
  obtain ⟨rest, hd, hr, hf⟩ := h.bits
  have hla : (areaS l.recs).length = l.fin := h.fin.symm
  refine ⟨on, wait, by rw [hl]; exact h.half, by rw [hl]; exact h.long, ?_, h.fin, ⟨s'.dur.drop (startS l.half l.second + l.fin), ?_, ?_, hf⟩, h.lens, h.alive⟩
  · rw [List.getD_eq_getElem?_getD, h0, ← List.getD_eq_getElem?_getD]
    exact h.sec
  · apply List.ext_getElem?
    intro i
    by_cases hi : i < l.fin
    · rw [List.getElem?_append_left (by omega), List.getElem?_drop, hk _ (by omega) (by omega), ← List.getElem?_drop, hd, List.getElem?_append_left (by omega)]
    · rw [List.getElem?_append_right (by omega), List.getElem?_drop, List.getElem?_drop]
      congr 1
      omega
  · rw [List.getD_eq_getElem?_getD, List.getElem?_drop, Nat.add_zero, hk _ (by omega) (Nat.le_refl _), ← List.getElem?_drop, hd, List.getElem?_append_right (by omega), hla, Nat.sub_self, ← List.getD_eq_getElem?_getD]
    exact hr
section
variable {s : DS} {l : LS} {bs : List (List Nat)}
theorem other_le (h : Clean s l) : startS l.half (!l.second) + l.half ≤ s.dur.length ∧ 1 ≤ startS l.half (!l.second) := by
  have h1 := h.half
  have h2 := h.long
  unfold startS
  split <;> omega
/-- the other area is written: the records are as they were -/
theorem clean_off (h : Clean s l) {s' : DS} {c : List Nat} (on : s'.off = false) (wait : s'.wait = []) (hc : c.length ≤ l.half) (hd : s'.dur = spl s.dur (startS l.half (!l.second)) c) : Clean s' l := by
  obtain ⟨h1, h2⟩ := other_le h
  obtain ⟨rest, hb, hr, hf⟩ := h.bits
  have hst := start_le h
  refine clean_other h on wait (by rw [hd, spl_len (by omega)]) ?_ (fun i hi hj => ?_)
  · rw [hd, spl_get (by omega), if_pos (by omega)]
  · rw [hd, spl_get (by omega)]
    cases hsec : l.second with
    | false =>
      rw [hsec] at hi hj
      have e1 : startS l.half (!false) = 1 + l.half := rfl
      have e2 : startS l.half false = 1 := rfl
      rw [e2] at hi hj
      rw [e1, if_pos (by omega)]
    | true =>
      rw [hsec] at hi hj
      have e1 : startS l.half (!true) = 1 := rfl
      have e2 : startS l.half true = 1 + l.half := rfl
      rw [e2] at hi hj
      rw [e1, if_neg (by omega), if_neg (by omega)]
def newL (l : LS) (bs : List (List Nat)) : LS := { l with second := !l.second, recs := bs, fin := (areaS bs).length }
/-- the other area is written and made current -/
theorem clean_new2 (h : Clean s l) (hroom : (areaS bs).length + 1 ≤ l.half) (lens : ∀ b ∈ bs, b.length < 4294967296) {s' : DS} (on : s'.off = false) (wait : s'.wait = []) (hd : s'.dur = spl (spl s.dur (startS l.half (!l.second)) (areaS bs ++ [0])) 0 [if l.second then 0 else 1]) : Clean s' (newL l bs) := by
  obtain ⟨h1, h2⟩ := other_le h
  have hl1 : (spl s.dur (startS l.half (!l.second)) (areaS bs ++ [0])).length = s.dur.length := spl_len (by simp; omega)
  have hl : s'.dur.length = s.dur.length := by rw [hd, spl_len (by rw [hl1]; simp; have := h.long; omega), hl1]
  refine ⟨on, wait, by rw [hl]; exact h.half, by rw [hl]; exact h.long, ?_, rfl, ⟨0 :: s.dur.drop (startS l.half (!l.second) + (areaS bs ++ [0]).length), ?_, rfl, hroom⟩, lens, h.alive⟩
  · rw [List.getD_eq_getElem?_getD, hd, spl_get (Nat.zero_le _), if_neg (by omega), if_pos (by simp)]
    show (!l.second) = _
    cases l.second <;> rfl
  · show s'.dur.drop (startS l.half (!l.second)) = areaS bs ++ _
    rw [hd, spl_drop_le (by simp; omega) (by rw [hl1]; simp; have := h.long; omega), spl_at (by omega), List.append_assoc]
    rfl
theorem reset_room (h : Clean s l) (hroom : (areaS bs).length + 1 ≤ l.half) : resetS s l bs = if (replS s l bs).1 = 0 then (0, (replS s l bs).2, newL l bs) else ((replS s l bs).1, (replS s l bs).2, { l with dead := true }) := by
  unfold resetS
  rw [if_neg (by rw [h.alive]; decide), if_neg (by omega)]
  rfl
theorem repl_eq : replS s l bs = if (storeS s (startS l.half (!l.second) : Nat) (areaS bs ++ [0])).1 = 0 then storeS (storeS s (startS l.half (!l.second) : Nat) (areaS bs ++ [0])).2 (0 : Nat) [if l.second then 0 else 1] else storeS s (startS l.half (!l.second) : Nat) (areaS bs ++ [0]) := rfl
theorem take_one (m n : Nat) : ([m] : List Nat).take n = [] ∨ ([m] : List Nat).take n = [m] := by
  cases n with
  | zero => exact .inl rfl
  | succ n => exact .inr (by simp)
/-- what a Reset answers, and what any crash leaves -/
theorem reset_cases {k : Nat} (h : Clean s l) (hf : s.fuse = some k) (hroom : (areaS bs).length + 1 ≤ l.half) (lens : ∀ b ∈ bs, b.length < 4294967296) :
    (∃ s', resetS s l bs = (0, s', newL l bs) ∧ ∀ keep part, Clean (crashS s' keep part) (newL l bs)) ∨
    (∃ s', resetS s l bs = (15, s', { l with dead := true }) ∧ ∀ keep part, Clean (crashS s' keep part) l ∨ Clean (crashS s' keep part) (newL l bs)) := by
  obtain ⟨h1, h2⟩ := other_le h
  have hb1 : (areaS bs ++ [0]).length ≤ l.half := by simp; omega
  have f1 : startS l.half (!l.second) + (areaS bs ++ [0]).length ≤ s.dur.length := by omega
  have hl1 : (spl s.dur (startS l.half (!l.second)) (areaS bs ++ [0])).length = s.dur.length := spl_len f1
  have f2 : 0 + [if l.second then 0 else 1].length ≤ (spl s.dur (startS l.half (!l.second)) (areaS bs ++ [0])).length := by rw [hl1]; have := h.long; simp; omega
  have hres := reset_room h hroom
  have hrep : replS s l bs = _ := repl_eq
  have n15 : ¬ ((15 : Int) = 0) := by decide
  rcases (show k = 0 ∨ k = 1 ∨ k = 2 ∨ k = 3 ∨ ∃ j, k = j + 4 by
    rcases (show k = 0 ∨ k = 1 ∨ k = 2 ∨ k = 3 ∨ 4 ≤ k by omega) with h | h | h | h | h
    · exact .inl h
    · exact .inr (.inl h)
    · exact .inr (.inr (.inl h))
    · exact .inr (.inr (.inr (.inl h)))
    · exact .inr (.inr (.inr (.inr ⟨k - 4, by omega⟩)))) with rfl | rfl | rfl | rfl | ⟨j, rfl⟩
  · right
    rw [store_none h.on h.wait f1 hf] at hrep
    simp only [if_neg n15] at hrep
    rw [hrep] at hres
    simp only [if_neg n15] at hres
    exact ⟨_, hres, fun keep part => .inl (clean_off (c := []) h rfl rfl (Nat.zero_le _) (by show seenL s.dur _ = _; rw [spl_nil]; rfl))⟩
  · right
    rw [store_one h.on h.wait f1 hf] at hrep
    simp only [if_neg n15] at hrep
    rw [hrep] at hres
    simp only [if_neg n15] at hres
    refine ⟨_, hres, fun keep part => .inl ?_⟩
    by_cases hkp : keep.getD 0 false = true
    · refine clean_off (c := areaS bs ++ [0]) h rfl rfl hb1 ?_
      show seenL s.dur (crashL keep part 0 true [(startS l.half (!l.second), areaS bs ++ [0])]) = _
      unfold crashL
      rw [if_pos hkp]
      rfl
    · refine clean_off (c := (areaS bs ++ [0]).take (clampP part (areaS bs ++ [0]).length)) h rfl rfl (by rw [List.length_take]; omega) ?_
      show seenL s.dur (crashL keep part 0 true [(startS l.half (!l.second), areaS bs ++ [0])]) = _
      unfold crashL
      rw [if_neg hkp]
      rfl
  · right
    rw [store_two (f := some 0) h.on h.wait f1 (.inr ⟨0, hf, rfl⟩)] at hrep
    simp only [if_true] at hrep
    rw [store_none rfl rfl f2 rfl] at hrep
    rw [hrep] at hres
    simp only [if_neg n15] at hres
    exact ⟨_, hres, fun keep part => .inl (clean_off (c := areaS bs ++ [0]) h rfl rfl hb1 rfl)⟩
  · right
    rw [store_two (f := some 1) h.on h.wait f1 (.inr ⟨1, hf, rfl⟩)] at hrep
    simp only [if_true] at hrep
    rw [store_one rfl rfl f2 rfl] at hrep
    rw [hrep] at hres
    simp only [if_neg n15] at hres
    refine ⟨_, hres, fun keep part => ?_⟩
    by_cases hkp : keep.getD 0 false = true
    · right
      refine clean_new2 h hroom lens rfl rfl ?_
      show seenL _ (crashL keep part 0 true [(0, [if l.second then 0 else 1])]) = _
      unfold crashL
      rw [if_pos hkp]
      rfl
    · have hcr : (crashS { dur := spl s.dur (startS l.half (!l.second)) (areaS bs ++ [0]), wait := [(0, [if l.second then 0 else 1])], off := true, fuse := some 0 } keep part).dur = spl (spl s.dur (startS l.half (!l.second)) (areaS bs ++ [0])) 0 ([if l.second then 0 else 1].take (clampP part 1)) := by
        show seenL _ (crashL keep part 0 true [(0, [if l.second then 0 else 1])]) = _
        unfold crashL
        rw [if_neg hkp]
        rfl
      rcases take_one (if l.second then 0 else 1) (clampP part 1) with ht | ht
      · left
        rw [ht, spl_nil] at hcr
        exact clean_off (c := areaS bs ++ [0]) h rfl rfl hb1 hcr
      · right
        rw [ht] at hcr
        exact clean_new2 h hroom lens rfl rfl hcr
  · left
    rw [store_two (f := some (j + 2)) h.on h.wait f1 (.inr ⟨j + 2, hf, rfl⟩)] at hrep
    simp only [if_true] at hrep
    rw [store_two (f := some j) rfl rfl f2 (.inr ⟨j, rfl, rfl⟩)] at hrep
    rw [hrep] at hres
    simp only [if_true] at hres
    exact ⟨_, hres, fun keep part => crash_clean (clean_new2 h hroom lens rfl rfl rfl) keep part⟩
end
section
variable {w X X' : World} {g g' d : Nat} {s s' : DS} {l l' : LS} {F K K' : Nat → Prop} {e : Ending}
theorem LB.appA {r : Int × DS × LS} (h : LB w X g d s l F K) (ha : AppPost X g d F K r e X') : e = .returned (.int .i64 r.1) ∧ ∃ F' K', LB w X' g d r.2.1 r.2.2 F' K' ∧ ∀ {A : Option Addr} {rs : List Rc}, RcA X (fun i => F i ∨ K i) A rs → RcA X' (fun i => F' i ∨ K' i) A rs := by
  obtain ⟨he, F', K', h1, h2, h3⟩ := ha
  have hs := h.bel.size
  refine ⟨he, F', K', ⟨h1, fun b hb => ?_, h.bel.trans (h2.below hs h.own)⟩, fun hn => hn.chg h2 h3⟩
  rcases h3 b hb with h4 | h4
  · exact h.own b h4
  · omega
theorem LB.opA (h : LB w X g d s l F K) (ho : OpPost X d s' F X') : ∃ F', LB w X' g d s' l F' K ∧ ∀ {A : Option Addr} {rs : List Rc}, RcA X (fun i => F i ∨ K i) A rs → RcA X' (fun i => F' i ∨ K i) A rs := by
  obtain ⟨F', h1, h2, h3⟩ := ho
  have hs := h.bel.size
  obtain ⟨v0, rs0, hx⟩ := h.both.log
  refine ⟨F', ⟨⟨h1, LogAt.chg ⟨v0, rs0, hx⟩ h2 (fun i hK hF => h.both.apart i hF hK), fun i hF hK => ?_⟩, fun b hb => ?_, h.bel.trans (h2.below hs (fun i hF => h.own i (.inl hF)))⟩, fun hn => hn.chg (h2.mono (fun i hi => .inl hi)) (fun i hi => ?_)⟩
  · rcases h3 i hF with h4 | h4
    · exact h.both.apart i h4 hK
    · have := hx.lt i hK; omega
  · rcases hb with hb | hb
    · rcases h3 b hb with h4 | h4
      · exact h.own b (.inl h4)
      · omega
    · exact h.own b (.inr hb)
  · rcases hi with hi | hi
    · rcases h3 i hi with h4 | h4
      · exact .inl (.inl h4)
      · exact .inr h4
    · exact .inl (.inr hi)
end
end Go.Proofs.Ytnjafhlpnoikcaa
