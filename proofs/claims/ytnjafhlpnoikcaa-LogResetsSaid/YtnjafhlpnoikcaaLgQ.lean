/-
  A log whose disk has no pending write, and whose byte at the end is 0: plain. No condition.
-/
import Derived.Test.YtnjafhlpnoikcaaLgP
namespace Go.Proofs.Ytnjafhlpnoikcaa
open Go.RowKit
set_option linter.unusedVariables false

structure Clean (s : DS) (l : LS) : Prop where
  on : s.off = false
  wait : s.wait = []
  half : l.half = (s.dur.length - 1) / 2
  long : 64 ≤ s.dur.length
  sec : l.second = (s.dur.getD 0 0 != 0)
  fin : l.fin = (areaS l.recs).length
  bits : ∃ rest, s.dur.drop (startS l.half l.second) = areaS l.recs ++ rest ∧ rest.getD 0 0 = 0 ∧ l.fin < l.half
  lens : ∀ b ∈ l.recs, b.length < 4294967296
  alive : l.dead = false
theorem start_le {s : DS} {l : LS} (h : Clean s l) : startS l.half l.second + l.half ≤ s.dur.length := by
  have h1 := h.half
  have h2 := h.long
  unfold startS
  split <;> omega
theorem open_clean {s : DS} {l : LS} (h : Clean s l) : openS s = some l := by
  obtain ⟨rest, hd, hr, hf⟩ := h.bits
  have hst := start_le h
  unfold openS
  rw [if_neg (by rw [h.on]; decide), h.wait]
  show some _ = some l
  have e1 : seenL s.dur [] = s.dur := rfl
  simp only [e1]
  rw [← h.half, ← h.sec, hd]
  have hlen := congrArg List.length hd
  rw [List.length_drop, List.length_append, ← h.fin] at hlen
  have ht : (areaS l.recs ++ rest).take l.half = areaS l.recs ++ rest.take (l.half - l.fin) := by
    rw [List.take_append, List.take_of_length_le (by rw [← h.fin]; omega), ← h.fin]
  rw [ht]
  have hsc := scan_recs (areaS l.recs ++ rest.take (l.half - l.fin)) l.recs (l.half + 1) 0 (rest.take (l.half - l.fin)) h.lens (by rw [List.length_append, ← h.fin, List.length_take]; omega) (Nat.zero_le _) rfl (by
    intro h1
    have h2 : (rest.take (l.half - l.fin)).getD 0 0 = rest.getD 0 0 := by
      rw [List.getD_eq_getElem?_getD, List.getD_eq_getElem?_getD, List.getElem?_take, if_pos (by omega)]
    rw [h2, hr] at h1
    omega)
  rw [hsc, Nat.zero_add, ← h.fin, ← h.alive]
/-- a crash without pending writes -/
theorem crash_clean {s : DS} {l : LS} (h : Clean s l) (keep : List Bool) (part : Int) : Clean (crashS s keep part) l := by
  have hd : (crashS s keep part).dur = s.dur := by unfold crashS; rw [h.wait]; rfl
  exact ⟨rfl, rfl, by rw [hd]; exact h.half, by rw [hd]; exact h.long, by rw [hd]; exact h.sec, h.fin, by rw [hd]; exact h.bits, h.lens, h.alive⟩
/-- a disk on which only the bytes from e on were changed, e the log's end: they do not begin with 1 -/
theorem clean_after {s s' : DS} {l : LS} (h : Clean s l) (on : s'.off = false) (wait : s'.wait = []) (hl : s'.dur.length = s.dur.length) (ht : s'.dur.take (startS l.half l.second + l.fin) = s.dur.take (startS l.half l.second + l.fin)) (h0 : s'.dur.getD (startS l.half l.second + l.fin) 0 = 0) : Clean s' l := by
  obtain ⟨rest, hd, hr, hf⟩ := h.bits
  have hst := start_le h
  have hpos : 0 < startS l.half l.second := by unfold startS; split <;> omega
  have hx : ∀ i, i < startS l.half l.second + l.fin → s'.dur[i]? = s.dur[i]? := fun i hi => by
    have := congrArg (fun l => l[i]?) ht
    simp only [List.getElem?_take, if_pos hi] at this
    exact this
  refine ⟨on, wait, by rw [hl]; exact h.half, by rw [hl]; exact h.long, ?_, h.fin, ⟨s'.dur.drop (startS l.half l.second + l.fin), ?_, ?_, hf⟩, h.lens, h.alive⟩
  · rw [h.sec, List.getD_eq_getElem?_getD, List.getD_eq_getElem?_getD, hx 0 (by omega)]
  · rw [← List.drop_drop]
    have h1 : (s'.dur.drop (startS l.half l.second)).take l.fin = areaS l.recs := by
      have h2 : (s.dur.drop (startS l.half l.second)).take l.fin = areaS l.recs := by rw [hd, h.fin, List.take_left]
      rw [← h2]
      have h3 : ∀ d : List Nat, (d.drop (startS l.half l.second)).take l.fin = (d.take (startS l.half l.second + l.fin)).drop (startS l.half l.second) := fun d => by rw [List.drop_take]; congr 1; omega
      rw [h3, h3, ht]
    conv => lhs; rw [← List.take_append_drop l.fin (s'.dur.drop (startS l.half l.second)), h1]
  · have := getD_drop s'.dur (startS l.half l.second + l.fin) 0
    rw [Nat.add_zero] at this
    rw [← this]
    exact h0
/-- a record more -/
theorem clean_more {s s' : DS} {l : LS} {b : List Nat} (h : Clean s l) (on : s'.off = false) (wait : s'.wait = []) (hl : s'.dur.length = s.dur.length) (ht : s'.dur.take (startS l.half l.second + l.fin) = s.dur.take (startS l.half l.second + l.fin))
    (hb : ∃ rest, s'.dur.drop (startS l.half l.second + l.fin) = recB b ++ rest ∧ rest.getD 0 0 = 0) (hbl : b.length < 4294967296) (hroom : l.fin + 6 + b.length ≤ l.half) : Clean s' { l with recs := l.recs ++ [b], fin := l.fin + 5 + b.length } := by
  obtain ⟨rest, hd, hr, hf⟩ := h.bits
  obtain ⟨rest', hd', hr'⟩ := hb
  have hst := start_le h
  have hpos : 0 < startS l.half l.second := by unfold startS; split <;> omega
  have hx : ∀ i, i < startS l.half l.second + l.fin → s'.dur[i]? = s.dur[i]? := fun i hi => by
    have := congrArg (fun l => l[i]?) ht
    simp only [List.getElem?_take, if_pos hi] at this
    exact this
  refine ⟨on, wait, by rw [hl]; exact h.half, by rw [hl]; exact h.long, ?_, ?_, ⟨rest', ?_, hr', ?_⟩, fun x hx => ?_, h.alive⟩
  · show l.second = _
    rw [h.sec, List.getD_eq_getElem?_getD, List.getD_eq_getElem?_getD, hx 0 (by omega)]
  · show l.fin + 5 + b.length = (areaS (l.recs ++ [b])).length
    rw [areaS_snoc, List.length_append, recB_len, ← h.fin]
    omega
  · show s'.dur.drop (startS l.half l.second) = areaS (l.recs ++ [b]) ++ rest'
    have h1 : (s'.dur.drop (startS l.half l.second)).take l.fin = areaS l.recs := by
      have h2 : (s.dur.drop (startS l.half l.second)).take l.fin = areaS l.recs := by rw [hd, h.fin, List.take_left]
      rw [← h2]
      have h3 : ∀ d : List Nat, (d.drop (startS l.half l.second)).take l.fin = (d.take (startS l.half l.second + l.fin)).drop (startS l.half l.second) := fun d => by rw [List.drop_take]; congr 1; omega
      rw [h3, h3, ht]
    rw [← List.take_append_drop l.fin (s'.dur.drop (startS l.half l.second)), h1, List.drop_drop, hd', areaS_snoc, List.append_assoc]
  · show l.fin + 5 + b.length < l.half
    omega
  · rcases List.mem_append.1 hx with hx | hx
    · exact h.lens x hx
    · obtain rfl : x = b := by simpa using hx
      exact hbl
end Go.Proofs.Ytnjafhlpnoikcaa
