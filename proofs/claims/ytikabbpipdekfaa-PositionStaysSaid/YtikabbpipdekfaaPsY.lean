/-
  The new keys of a list: plain; the program's Rekey. No condition.
-/
import Derived.Test.YtikabbpipdekfaaPsW
namespace Go.Proofs.Ytikabbpipdekfaa
open Go.RowKit
set_option linter.unusedVariables false

/-- the first element that stays -/
def nextL : List ByteArray → List Bool → ByteArray
  | x :: xs, b :: bs => if b then x else nextL xs bs
  | _, _ => ⟨#[]⟩
/-- the new keys, one after another -/
def RCh : List ByteArray → List Bool → ByteArray → List ByteArray → Prop
  | x :: xs, b :: bs, last, o :: os => (if b then o = x else BIs last.data.toList (nextL xs bs).data.toList o.data.toList 0) ∧ RCh xs bs o os
  | [], [], _, [] => True
  | _, _, _, _ => False
/-- some Between returns an error -/
def RFail : List ByteArray → List Bool → ByteArray → Prop
  | x :: xs, b :: bs, last => if b then RFail xs bs x else (∃ (t : List UInt8) (e : Int), e ≠ 0 ∧ BIs last.data.toList (nextL xs bs).data.toList t e) ∨ (∃ o : ByteArray, BIs last.data.toList (nextL xs bs).data.toList o.data.toList 0 ∧ RFail xs bs o)
  | _, _, _ => False
theorem ba_inj {a b : ByteArray} (h : a.data.toList = b.data.toList) : a = b := ByteArray.ext (Array.toList_inj.1 h)
theorem RCh.unique : ∀ {xs : List ByteArray} {bs : List Bool} {last : ByteArray} {os os' : List ByteArray}, RCh xs bs last os → RCh xs bs last os' → os = os'
  | x :: xs, b :: bs, last, o :: os, o' :: os', h, h' => by
    rw [RCh] at h h'
    obtain ⟨h1, h2⟩ := h
    obtain ⟨h1', h2'⟩ := h'
    have e : o = o' := by
      cases b with
      | true => exact h1.trans h1'.symm
      | false => exact ba_inj (h1.unique h1').1
    subst e
    rw [RCh.unique h2 h2']
  | [], [], last, [], [], _, _ => rfl
  | [], [], _, [], _ :: _, _, h => h.elim
  | [], [], _, _ :: _, _, h, _ => h.elim
  | [], _ :: _, _, _, _, h, _ => h.elim
  | _ :: _, [], _, _, _, h, _ => h.elim
  | _ :: _, _ :: _, _, [], _, h, _ => h.elim
  | _ :: _, _ :: _, _, _ :: _, [], _, h => h.elim
theorem RCh.no_fail : ∀ {xs : List ByteArray} {bs : List Bool} {last : ByteArray} {os : List ByteArray}, RCh xs bs last os → ¬ RFail xs bs last
  | x :: xs, b :: bs, last, o :: os, h, h' => by
    rw [RCh] at h
    rw [RFail] at h'
    obtain ⟨h1, h2⟩ := h
    cases b with
    | true =>
      obtain rfl : o = x := h1
      exact h2.no_fail h'
    | false =>
      rcases h' with ⟨t, e, he, hb⟩ | ⟨o', hb, hf⟩
      · exact he (hb.unique h1).2
      · obtain rfl := ba_inj (hb.unique h1).1
        exact h2.no_fail hf
  | [], [], _, _, _, h' => h'
  | [], _ :: _, _, _, _, h' => h'
  | _ :: _, [], _, _, _, h' => h'
  | _ :: _, _ :: _, _, [], h, _ => h
def RRes (xs : List ByteArray) (outs : List ByteArray) : Prop := RCh xs (keepN (nums xs)) ⟨#[]⟩ outs ∨ (RFail xs (keepN (nums xs)) ⟨#[]⟩ ∧ outs = spread xs.length)
theorem RRes.unique {xs outs outs' : List ByteArray} (h : RRes xs outs) (h' : RRes xs outs') : outs = outs' := by
  rcases h with h | ⟨h, rfl⟩
  · rcases h' with h' | ⟨h', rfl⟩
    · exact h.unique h'
    · exact absurd h' h.no_fail
  · rcases h' with h' | ⟨h', rfl⟩
    · exact absurd h h'.no_fail
    · rfl
theorem RCh.len : ∀ {xs : List ByteArray} {bs : List Bool} {last : ByteArray} {os : List ByteArray}, RCh xs bs last os → os.length = xs.length
  | x :: xs, b :: bs, last, o :: os, h => by rw [RCh] at h; simp [h.2.len]
  | [], [], _, [], _ => rfl
  | [], [], _, _ :: _, h => h.elim
  | [], _ :: _, _, _, h => h.elim
  | _ :: _, [], _, _, h => h.elim
  | _ :: _, _ :: _, _, [], h => h.elim
theorem RRes.len {xs outs : List ByteArray} (h : RRes xs outs) : outs.length = xs.length := by
  rcases h with h | ⟨-, rfl⟩
  · exact h.len
  · simp [spread]
/-- what has been found so far, and what is to come -/
structure RSt (xs : List ByteArray) (K : List Bool) (i : Nat) (last : ByteArray) (outs : List ByteArray) : Prop where
  len : outs.length = i
  go : ∀ os, RCh (xs.drop i) (K.drop i) last os → RCh xs K ⟨#[]⟩ (outs ++ os)
  fail : RFail (xs.drop i) (K.drop i) last → RFail xs K ⟨#[]⟩
theorem RSt.start (xs : List ByteArray) (K : List Bool) : RSt xs K 0 ⟨#[]⟩ [] := ⟨rfl, fun os h => h, fun h => h⟩
theorem drop_at2 {α : Type} {l : List α} {i : Nat} {x : α} (h : l[i]? = some x) : l.drop i = x :: l.drop (i + 1) := by
  obtain ⟨hi, e⟩ := List.getElem?_eq_some_iff.1 h
  rw [List.drop_eq_getElem_cons hi, e]
theorem RSt.stay {xs : List ByteArray} {K : List Bool} {i : Nat} {last x : ByteArray} {outs : List ByteArray} (h : RSt xs K i last outs) (hx : xs[i]? = some x) (hk : K[i]? = some true) : RSt xs K (i + 1) x (outs ++ [x]) := by
  refine ⟨by simp [h.len], fun os ho => ?_, fun hf => h.fail ?_⟩
  · rw [List.append_assoc]
    refine h.go _ ?_
    rw [drop_at2 hx, drop_at2 hk]
    exact ⟨rfl, ho⟩
  · rw [drop_at2 hx, drop_at2 hk, RFail]
    exact hf
theorem RSt.new {xs : List ByteArray} {K : List Bool} {i : Nat} {last x o : ByteArray} {outs : List ByteArray} (h : RSt xs K i last outs) (hx : xs[i]? = some x) (hk : K[i]? = some false) (ho : BIs last.data.toList (nextL (xs.drop (i + 1)) (K.drop (i + 1))).data.toList o.data.toList 0) : RSt xs K (i + 1) o (outs ++ [o]) := by
  refine ⟨by simp [h.len], fun os hos => ?_, fun hf => h.fail ?_⟩
  · rw [List.append_assoc]
    refine h.go _ ?_
    rw [drop_at2 hx, drop_at2 hk]
    exact ⟨ho, hos⟩
  · rw [drop_at2 hx, drop_at2 hk, RFail]
    exact .inr ⟨o, ho, hf⟩
theorem RSt.bad {xs : List ByteArray} {K : List Bool} {i : Nat} {last x : ByteArray} {outs : List ByteArray} {t : List UInt8} {e : Int} (h : RSt xs K i last outs) (hx : xs[i]? = some x) (hk : K[i]? = some false) (he : e ≠ 0) (ho : BIs last.data.toList (nextL (xs.drop (i + 1)) (K.drop (i + 1))).data.toList t e) : RFail xs K ⟨#[]⟩ := by
  refine h.fail ?_
  rw [drop_at2 hx, drop_at2 hk, RFail]
  exact .inl ⟨t, e, he, ho⟩
theorem RSt.end_ {xs : List ByteArray} {K : List Bool} {last : ByteArray} {outs : List ByteArray} (h : RSt xs K xs.length last outs) (hk : K.length = xs.length) : RCh xs K ⟨#[]⟩ outs := by
  have := h.go [] (by rw [List.drop_eq_nil_of_le (Nat.le_refl _), List.drop_eq_nil_of_le (by omega)]; trivial)
  simpa using this
def arrS (l : List ByteArray) : Array Value := (l.map Value.string).toArray
section
variable {w : World} {g : Nat}
theorem arrS_cell {l : List ByteArray} (h : Blk w g 9 (arrS l)) {i : Nat} {x : ByteArray} (hi : l[i]? = some x) : w.cell? ⟨g, i, none⟩ = some (.string x) := by
  rw [h.cell]
  simp [arrS, hi]
theorem arrS_set {l : List ByteArray} (h : Blk w g 9 (arrS l)) (i : Nat) (x : ByteArray) : Blk (w.setCell ⟨g, i, none⟩ (.string x)) g 9 (arrS (l.set i x)) := by
  have := h.set_ i (.string x)
  have e : (arrS l).setIfInBounds i (.string x) = arrS (l.set i x) := by unfold arrS; rw [List.map_set]; simp
  rwa [e] at this
end
theorem make_strs (n : Nat) (hn : n ≤ 1000000) (w : World) : (Instr.makeSlice 28 (.int .i64 (n : Int)) (.int .i64 (n : Int))).run Try.prog w = .ok (.slice (some ⟨w.heap.size, 0, none⟩) n n) (w.alloc (.cells (arrS (List.replicate n ⟨#[]⟩)) 9)) := by
  obtain ⟨i, hi, hz, hs, hb⟩ := info3 (t := 9) (z := .string ByteArray.empty) (s := 1) (b := 16) str_info
  have h := run_make (P := Try.prog) w 28 9 i (.string ByteArray.empty) Try.underlying28 hi hz .i64 .i64 n n (by omega) (by omega) (by rw [hb]; omega) (by omega)
  rw [hs] at h
  have e : arrS (List.replicate n ⟨#[]⟩) = madeCells #[Value.string ByteArray.empty] n := by
    rw [madeCells_one]
    unfold arrS
    rw [List.map_replicate]
    rfl
  rw [e]
  simpa [Value.cells] using h
def RekPost (w : World) (xs : List ByteArray) (e : Ending) (w' : World) : Prop :=
  Below w.heap.size w w' ∧ ∃ A c outs, e = .returned (.slice A outs.length c) ∧ Reads w' w'.heap.size 1 A outs.length (outs.map Value.string) ∧ RRes xs outs
theorem RekPost.mk {w w' : World} {xs outs : List ByteArray} {g n c : Nat} (hb : Below w.heap.size w w') (h : Blk w' g 9 (arrS outs)) (hn : outs.length = n) (hr : RRes xs outs) : RekPost w xs (.returned (.slice (some ⟨g, 0, none⟩) n c)) w' := by
  subst hn
  refine ⟨hb, _, c, outs, rfl, ⟨by simp, fun _ => ⟨_, rfl, h.lt, fun j u hu => ?_⟩⟩, hr⟩
  rw [Addr.add_lit, Nat.zero_add, h.cell]
  unfold arrS
  rw [List.getElem?_toArray]
  exact hu
theorem RekPost.bad {w w1 : World} {xs : List ByteArray} {e : Ending} {w' : World} (hb : Below w.heap.size w w1) (hf : RFail xs (keepN (nums xs)) ⟨#[]⟩) (h : StrsPost w1 (spread xs.length) e w') : RekPost w xs e w' := by
  obtain ⟨h1, A, c, he, hc, hr⟩ := h
  exact ⟨hb.trans (h1.mono hb.size), A, c, _, he, hr, .inr ⟨hf, rfl⟩⟩
/-- a list of texts with one more set -/
theorem take_set {α : Type} {l outs : List α} {i : Nat} {x : α} (h : l.take i = outs) (hi : i < l.length) : (l.set i x).take (i + 1) = outs ++ [x] := by
  rw [List.take_add_one, List.take_set_of_le (Nat.le_refl _), h]
  simp [hi]
end Go.Proofs.Ytikabbpipdekfaa
