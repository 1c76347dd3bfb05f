/-
  The reference's list of numbers. No condition.
-/
import Derived.Test.YtnnclopojiegfaaWtK
namespace Go.Proofs.Ytnnclopojiegfaa
open Go.RowKit
set_option linter.unusedVariables false

/-- position and error after a reading -/
def pv : Option Nat → Value
  | some q => .int .i64 (q : Int)
  | none => .int .i64 0
def ev : Option Nat → Value
  | some _ => .int .i64 0
  | none => .int .i64 13

structure QRel {α β : Type} (vals : α → List Value) (pr : α → β) (G : World → Value → α → Prop) (T : TypeId) (k : Nat) (f : Nat → Option (β × Nat)) (w wr : World) (q m i : Nat) (s : Option Nat) (xs : List α) (v : Value) : Prop where
  le : i ≤ m
  len : xs.length = i
  st : (manyP f i q).map (·.2) = s
  xs_ : ∀ z, manyP f i q = some z → z.1 = xs.map pr ∧ ∀ x ∈ xs, G wr v x
  own : wr.ownsRow w.heap.size T k v i (xs.flatMap vals)
  bel : Below w.heap.size w wr
section
variable {α β : Type} {vals : α → List Value} {pr : α → β} {G : World → Value → α → Prop} {T : TypeId} {k : Nat} {f : Nat → Option (β × Nat)} {w wr w2 : World} {q m i : Nat} {s : Option Nat} {xs : List α} {v v2 : Value} {a : α}
theorem QRel.step (h : QRel vals pr G T k f w wr q m i s xs v) (him : i < m) (ka : ∀ y, s.bind f = some y → y.1 = pr a)
    (hown : w2.ownsRow w.heap.size T k v2 (i + 1) (xs.flatMap vals ++ vals a)) (hb : Below w.heap.size w w2) (hG : (∀ x ∈ xs, G wr v x) → (∃ y, s.bind f = some y) → ∀ x, x ∈ xs ++ [a] → G w2 v2 x) : QRel vals pr G T k f w w2 q m (i + 1) ((s.bind f).map (·.2)) (xs ++ [a]) v2 := by
  refine ⟨him, by rw [List.length_append, h.len]; rfl, ?_, fun z hz => ?_, by rw [List.flatMap_append, List.flatMap_cons, List.flatMap_nil, List.append_nil]; exact hown, hb⟩
  · rw [manyP_snoc, ← h.st]
    cases manyP f i q with
    | none => rfl
    | some y =>
      show ((f y.2).map _).map _ = (f y.2).map _
      cases f y.2 <;> rfl
  · rw [manyP_snoc] at hz
    obtain ⟨y, hy, hz⟩ := Option.bind_eq_some_iff.1 hz
    obtain ⟨x, hx, rfl⟩ := Option.map_eq_some_iff.1 hz
    obtain ⟨e1, eG⟩ := h.xs_ y hy
    have e2 := h.st
    rw [hy] at e2
    have e4 : s.bind f = some x := by rw [← e2]; exact hx
    have e3 := ka x e4
    refine ⟨?_, hG eG ⟨x, e4⟩⟩
    rw [List.map_append, ← e1, List.map_cons, List.map_nil, ← e3]
theorem QRel.done {o : Option (List β × Nat)} (h : QRel vals pr G T k f w wr q m i s xs v) (he : i = m ∨ s = none) (ho : o = manyP f m q) :
    ∃ B cc, v = .slice B xs.length cc ∧ (∀ z, o = some z → z.1 = xs.map pr ∧ ∀ x ∈ xs, G wr v x) ∧ Held wr w.heap.size k B xs.length (xs.flatMap vals) ∧ o.map (·.2) = s := by
  obtain ⟨B, cc, rfl, hr, hB⟩ := own_reads h.own
  have hlen := h.len
  subst hlen
  have key : (∀ z, o = some z → z.1 = xs.map pr ∧ ∀ x ∈ xs, G wr (.slice B xs.length cc) x) ∧ o.map (·.2) = s := by
    rcases he with rfl | he
    · rw [ho]; exact ⟨h.xs_, h.st⟩
    · have h1 : manyP f xs.length q = none := by
        have := h.st
        rw [he] at this
        simpa using this
      rw [ho, manyP_none m xs.length q h.le h1, he]
      exact ⟨(fun z hz => by cases hz), rfl⟩
  exact ⟨B, cc, rfl, key.1, ⟨hr, hB⟩, key.2⟩
end
def RIPost (w : World) (o : Option (List Int × Nat)) (e : Ending) (w' : World) : Prop :=
  ∃ B cc, ∃ xs : List Int, e = .returned (.tuple #[.slice B xs.length cc, pv (o.map (·.2)), ev (o.map (·.2))]) ∧ (∀ z, o = some z → z.1 = xs) ∧ Held w' w.heap.size 1 B xs.length (xs.map (Value.int .i64)) ∧ Below w.heap.size w w'
theorem ints_done {w wr : World} {bs : List Nat} {q m i : Nat} {s : Option Nat} {xs : List Int} {v : Value} {o : Option (List Int × Nat)} (h : QRel (fun x => [Value.int .i64 x]) id (fun _ _ _ => True) 3 1 (numP bs) w wr q m i s xs v) (he : i = m ∨ s = none) (ho : o = manyP (numP bs) m q) :
    RIPost w o (.returned (.tuple #[v, pv s, ev s])) wr := by
  obtain ⟨B, cc, rfl, h1, h2, h3⟩ := h.done he ho
  rw [← h3]
  refine ⟨B, cc, xs, rfl, fun z hz => ((h1 z hz).1).trans (List.map_id xs), ?_, h.bel⟩
  rw [map_flat] at h2
  exact h2
theorem getI_st {bs : List Nat} {n p : Nat} (hl : bs.length = n) (hp : p ≤ n) : resI (getI bs (p : Int)) = .returned (.tuple #[.int .i64 (((numP bs p).map (·.1)).getD 0), pv ((numP bs p).map (·.2)), ev ((numP bs p).map (·.2))]) := by
  rw [getI_ok hl hp]
  cases numP bs p <;> rfl

set_option maxRecDepth 100000 in
set_option maxHeartbeats 1000000 in
theorem refGetInts_any {w : World} {p n c : Nat} {A : Option Addr} {bs : List Nat} (hn : n ≤ 1000000000) (hp : p ≤ n) (hr : Reads w w.heap.size 1 A n (bs.map byt)) (hbs : ∀ x ∈ bs, x < 256) :
    Calls Try.prog 40 #[.slice A n c, .int .i64 (p : Int)] w (RIPost w (listP (numP bs) bs p)) := by
  have hl : bs.length = n := by have := hr.1; simpa using this
  have HC := Lib.hid (refCount_any A n c (p : Int) bs w hn w.heap.size hr hbs)
  rw [getC_ok hl hp] at HC
  have hlp : listP (numP bs) bs p = (countP bs p).bind fun y => manyP (numP bs) y.1 y.2 := rfl
  have hcl : ∀ m q, countP bs p = some (m, q) → m ≤ 1000000000 ∧ q ≤ n := fun m q h => by
    unfold countP at h
    obtain ⟨⟨z, q2⟩, hz, hc⟩ := Option.bind_eq_some_iff.1 h
    split at hc
    · cases hc
    · injection hc with hc
      injection hc with c1 c2
      have c1' : z.toNat = m := c1
      have c2' : q2 = q := c2
      have := numP_le (by omega) hz
      omega
  generalize countP bs p = o at HC hlp hcl
  have HR := Lib.hid hr
  have HS := Lib.hid hbs
  have HL := Lib.hid hl
  clear hr hbs hl
  rcases o with _ | ⟨m, q⟩
  · have HLP := Lib.hid hlp
    clear hlp hcl
    simp only [resC] at HC
    go_enter Try.func40, Try.ntmps40
    go_wp2_with fail
    refine (HC.out).mono ?_
    rintro e w1 ⟨rfl, rfl⟩
    clear HC
    go_wp2_with fail
    refine wp_loop_rounds 1 ?_
    rw [rounds_succ]
    go_wp2_with fail
    go_ret3
    rw [HLP.out]
    exact ⟨none, 0, [], rfl, (fun z hz => by cases hz), ⟨Reads.none_, fun ad h => by cases h⟩, Below.refl _ _⟩
  · obtain ⟨hm, hq⟩ := hcl m q rfl
    have hcnt : Hid (listP (numP bs) bs p = manyP (numP bs) m q) := hlp
    clear hlp hcl
    simp only [resC] at HC
    obtain ⟨i0, hi0, hz0, hz1, hz2⟩ := info_parts int_info
    have R0 : Hid (QRel (fun x => [Value.int .i64 x]) id (fun _ _ _ => True) 3 1 (numP bs) w w q m 0 (some q) [] (.slice none 0 0)) :=
      ⟨Nat.zero_le _, rfl, rfl, (fun z hz => by injection hz with hz; rw [← hz]; exact ⟨rfl, fun x hx => by cases hx⟩), ⟨rfl, .inl ⟨rfl, rfl⟩⟩, Below.refl _ _⟩
    go_enter Try.func40, Try.ntmps40
    go_wp2_with fail
    refine (HC.out).mono ?_
    rintro e w1 ⟨rfl, rfl⟩
    clear HC
    go_wp2_with fail
    go_loopw [8, 9, 10, 11, 12] (fun pw ew v iv xw wr => ∃ (i : Nat) (s' : Option Nat) (xs : List Int), iv = .int .i64 (i : Int) ∧ pw = pv s' ∧ ew = ev s' ∧ (∀ q', s' = some q' → q' ≤ n) ∧ QRel (fun x => [Value.int .i64 x]) id (fun _ _ _ => True) 3 1 (numP bs) w wr q m i s' xs v) (fun _ _ _ iv _ _ => ((m : Int) - intOf iv).toNat)
    case atStart => exact ⟨0, some q, [], rfl, rfl, rfl, (fun q' h => by injection h; omega), R0.out⟩
    case round =>
      obtain ⟨i, s', xs, rfl, rfl, rfl, hle', hR⟩ := hrel
      have HQ := Lib.hid hR
      have hle := hR.le
      clear hR R0
      by_cases him : i < m
      · have dim : decide ((i : Int) < (m : Int)) = true := by simp; omega
        rcases s' with _ | p'
        · simp only [pv, ev]
          go_wp2_with fail
          go_ret3
          exact ints_done (HQ.out) (.inr rfl) (hcnt.out)
        · have hp' := hle' p' rfl
          have hrR : Reads wr w.heap.size 1 A n (bs.map byt) := (HR.out).below (HQ.out).bel
          have HI := Lib.hid (refGetInt_any A n c (p' : Int) bs wr hn w.heap.size hrR (HS.out))
          rw [getI_st (HL.out) hp'] at HI
          have hnext : ∀ q', ((some p').bind (numP bs)).map (·.2) = some q' → q' ≤ n := fun q' h => by
            obtain ⟨y, hy, rfl⟩ := Option.map_eq_some_iff.1 h
            have := numP_le (p := p') (q := y.2) (x := y.1) (by rw [HL.out]; exact hp') hy
            rw [HL.out] at this
            exact this
          have hnx := Lib.hid hnext
          have hsz := (HQ.out).bel.size
          have ka : Hid (∀ y, (some p').bind (numP bs) = some y → y.1 = id (((numP bs p').map (·.1)).getD 0)) := fun y hy => by
            have hy' : numP bs p' = some y := hy
            rw [hy']
            rfl
          clear hrR hle' hnext
          simp only [pv, ev]
          go_wp2_with fail
          refine (HI.out).mono ?_
          rintro e w2 ⟨rfl, rfl⟩
          clear HI
          generalize hx : ((numP bs p').map (·.1)).getD 0 = x at ka
          replace hx := Lib.hid hx
          go_wp2_with (at_builtin; refine wpList_append_row _ rfl (.tmp 36) (.tmp 38) 33 33 rfl w.heap.size 3 i0 (.int .i64 0) 1 8 Try.underlying33 hi0 hz0 hz1 hz2 rfl (by decide) _ _ _ rfl (((HQ.out).own).alloc _) _ 1 _ rfl (src_new _ Try.underlying33 [_] 1 1 1 3 rfl (fun u hu => by simp at hu; subst hu; rfl)) (by unfold maxLen; omega) (by omega) (by simp; omega) ?_)
          intro v3 w3 hown3 hg3
          have R3 := Lib.hid ((HQ.out).step him (ka.out) hown3 ((((HQ.out).bel.alloc hsz _)).grown hg3.grown (by simp; omega) (fun g hv => own_ge (HQ.out).own hv)) (fun _ _ _ _ => trivial))
          clear hown3 hg3 hsz hx ka
          go_wp2_with fail
          go_roundw
          case rel => exact ⟨i + 1, _, _, by go_num, rfl, rfl, hnx.out, R3.out⟩
          case measure => simp [intOf]; omega
      · have dim : decide ((i : Int) < (m : Int)) = false := by simp; omega
        go_wp2_with fail
        go_ret3
        exact ints_done (HQ.out) (.inl (by omega)) (hcnt.out)
end Go.Proofs.Ytnnclopojiegfaa
