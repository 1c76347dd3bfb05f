/-
  A log over any appends, a power failure and a crash: plain. No condition.
-/
import Derived.Test.YtnjafhlpnoikcaaLgT
namespace Go.Proofs.Ytnjafhlpnoikcaa
open Go.RowKit
set_option linter.unusedVariables false

theorem clean_new {n : Nat} (hn : 64 ≤ n) : Clean (newS n) ⟨(n - 1) / 2, false, 0, [], false⟩ := by
  have hd : (newS n).dur = List.replicate n 0 := rfl
  have hl : (newS n).dur.length = n := by rw [hd, List.length_replicate]
  have h0 : ∀ (m : Nat), (List.replicate m 0).getD 0 0 = 0 := fun m => by cases m <;> rfl
  refine ⟨rfl, rfl, by rw [hl], by rw [hl]; exact hn, ?_, rfl, ⟨List.replicate (n - 1) 0, ?_, h0 _, by show 0 < (n - 1) / 2; omega⟩, (fun b hb => by cases hb), rfl⟩
  · rw [hd, h0]; rfl
  · show (newS n).dur.drop 1 = _
    rw [hd, List.drop_replicate]
    rfl
theorem clean_fuse {s : DS} {l : LS} (h : Clean s l) (n : Int) : Clean (fuseS s n) l := ⟨h.on, h.wait, h.half, h.long, h.sec, h.fin, h.bits, h.lens, h.alive⟩
/-- the state of LogKeeps' loop: the log is whole and its records are the sure ones; or the power failed, and a crash leaves the sure ones or these and the late one -/
inductive Keeps (s : DS) (l : LS) (sure : List (List Nat)) (late : List Nat) : Bool → Prop
  | up (h : Clean s l) (e : l.recs = sure) (f : s.fuse ≠ none) : Keeps s l sure late false
  | down (h : ∀ keep part, ∃ l', Clean (crashS s keep part) l' ∧ (l'.recs = sure ∨ l'.recs = sure ++ [late]) ∧ l'.half = l.half) : Keeps s l sure late true
theorem keeps_end {s : DS} {l : LS} {sure : List (List Nat)} {late : List Nat} {dead : Bool} (h : Keeps s l sure late dead) (keep : List Bool) (part : Int) :
    ∃ l', Clean (crashS s keep part) l' ∧ (l'.recs = sure ∨ (dead = true ∧ l'.recs = sure ++ [late])) ∧ l'.half = l.half := by
  cases h with
  | up h e f => exact ⟨l, crash_clean h keep part, .inl e, rfl⟩
  | down h =>
    obtain ⟨l', h1, h2, h3⟩ := h keep part
    refine ⟨l', h1, ?_, h3⟩
    rcases h2 with h2 | h2
    · exact .inl h2
    · exact .inr ⟨rfl, h2⟩
/-- an append within the loop: it is acknowledged, there is no room, or the power fails -/
theorem keeps_step {s : DS} {l : LS} {sure : List (List Nat)} {late : List Nat} {b : List Nat} (h : Keeps s l sure late false) (hb : b.length < 4294967296) :
    ((appS s l b).1 = 0 ∧ Keeps (appS s l b).2.1 (appS s l b).2.2 (sure ++ [b]) late false ∧ (appS s l b).2.2.half = l.half ∧ (appS s l b).2.1.dur.length = s.dur.length) ∨
    ((appS s l b).1 = 17 ∧ Keeps (appS s l b).2.1 (appS s l b).2.2 sure late false ∧ (appS s l b).2.2.half = l.half ∧ (appS s l b).2.1.dur.length = s.dur.length) ∨
    ((appS s l b).1 = 15 ∧ Keeps (appS s l b).2.1 (appS s l b).2.2 sure b true ∧ (appS s l b).2.2.half = l.half) := by
  cases h with
  | up h e f =>
    by_cases hfull : l.half < l.fin + 6 + b.length
    · rw [app_full h hfull]
      exact .inr (.inl ⟨rfl, .up h e f, rfl, rfl⟩)
    · have hroom : l.fin + 6 + b.length ≤ l.half := by omega
      obtain ⟨k, hk⟩ : ∃ k, s.fuse = some k := Option.ne_none_iff_exists'.1 f
      by_cases h4 : k < 4
      · obtain ⟨s', ha, hc⟩ := app_bad h hroom hb hk h4
        rw [ha]
        refine .inr (.inr ⟨rfl, .down fun keep part => ?_, rfl⟩)
        rcases hc keep part with h1 | h1
        · exact ⟨_, h1, .inl e, rfl⟩
        · exact ⟨_, h1, .inr (by show l.recs ++ [b] = _; rw [e]), rfl⟩
      · obtain ⟨j, rfl⟩ : ∃ j, k = j + 4 := ⟨k - 4, by omega⟩
        obtain ⟨s', ha, h1, h2, h3⟩ := app_good (f := some j) h hroom hb (.inr ⟨j, hk, rfl⟩)
        rw [ha]
        exact .inl ⟨rfl, .up h1 (by show l.recs ++ [b] = _; rw [e]) (by rw [h2]; exact fun h => by cases h), rfl, h3⟩
/-- behind the crash: an append is acknowledged and stays, or there is no room -/
theorem again {s : DS} {l : LS} {b : List Nat} (h : Clean s l) (hf : s.fuse = none) (hb : b.length < 4294967296) :
    ((appS s l b).1 = 0 ∧ ∃ l', openS (crashS (appS s l b).2.1 [] 0) = some l' ∧ l'.recs = l.recs ++ [b]) ∨ ((appS s l b).1 = 17 ∧ ∃ l', openS (crashS (appS s l b).2.1 [] 0) = some l' ∧ l'.recs = l.recs) := by
  by_cases hfull : l.half < l.fin + 6 + b.length
  · rw [app_full h hfull]
    exact .inr ⟨rfl, l, open_clean (crash_clean h [] 0), rfl⟩
  · obtain ⟨s', ha, h1, h2, h3⟩ := app_good (f := none) h (by omega) hb (.inl ⟨hf, rfl⟩)
    rw [ha]
    exact .inl ⟨rfl, _, open_clean (crash_clean h1 [] 0), rfl⟩
end Go.Proofs.Ytnjafhlpnoikcaa
