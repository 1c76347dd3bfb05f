/-
  The reference's Count and GetInts. The reference's getNode. No condition.
-/
import Derived.Test.YtdabmjcpiblofaaDoorPkYf
namespace Go.Proofs.YtdabmjcpiblofaaDoor
open Go.RowKit
set_option linter.unusedVariables false

def Held (w : World) (lo k : Nat) (B : Option Addr) (m : Nat) (xs : List Value) : Prop := Reads w w.heap.size k B m xs ∧ ∀ ad, B = some ad → lo ≤ ad.block ∧ ad.block < w.heap.size
section
variable {w w' : World} {lo k m r g : Nat} {B : Option Addr} {xs : List Value}
theorem Held.keep (h : Held w lo k B m xs) (hs : w.heap.size ≤ w'.heap.size) (hk : ∀ i, lo ≤ i → i < w.heap.size → w'.heap[i]? = w.heap[i]?) : Held w' lo k B m xs := by
  refine ⟨⟨h.1.1, fun hn => ?_⟩, fun ad ha => ⟨(h.2 ad ha).1, by have := (h.2 ad ha).2; omega⟩⟩
  obtain ⟨ad, e, hb, hc⟩ := h.1.2 hn
  refine ⟨ad, e, by omega, fun j u hu => ?_⟩
  exact (World.cell?_of_block (by rw [block_of_add]; exact hk ad.block (h.2 ad e).1 hb)).trans (hc j u hu)
theorem Held.grown (h : Held w lo k B m xs) (hg : w.grownBy w' (some r)) (hr : r < lo) : Held w' lo k B m xs :=
  h.keep hg.size fun i h1 h2 => hg.block i h2 (fun e => by injection e; omega)
theorem Held.setCell (h : Held w lo k B m xs) {p : Addr} (hp : p.block < lo) (u : Value) : Held (w.setCell p u) lo k B m xs :=
  h.keep (by simp [World.setCell]) fun i h1 h2 => Below.heap_setCell w p u i (by omega)
theorem Held.low {lo' : Nat} (h : Held w lo k B m xs) (hl : lo' ≤ lo) : Held w lo' k B m xs := ⟨h.1, fun ad ha => ⟨by have := (h.2 ad ha).1; omega, (h.2 ad ha).2⟩⟩
theorem Held.alloc (h : Held w lo k B m xs) (o : Obj) : Held (w.alloc o) lo k B m xs := h.keep (by simp) fun i h1 h2 => Below.heap_alloc w o i h2
theorem Held.drewN (h : Held w lo k B m xs) (j : Nat) : Held (w.drewN j) lo k B m xs := h
theorem Held.below (h : Held w lo k B m xs) (hb : Below w.heap.size w w') : Held w' lo k B m xs := h.keep hb.size fun i h1 h2 => hb.block i h2
end

/-- the number of elements at a position that may be none -/
def getC (bs : List Nat) (z : Int) : Option (Nat × Nat) := (getI bs z).bind fun y => if y.1 < 0 ∨ (bs.length : Int) - y.2 < y.1 then none else some (y.1.toNat, y.2)
def resC : Option (Nat × Nat) → Ending
  | some y => .returned (.tuple #[.int .i64 (y.1 : Int), .int .i64 (y.2 : Int), .int .i64 0])
  | none => .returned (.tuple #[.int .i64 0, .int .i64 0, .int .i64 13])
theorem getC_ok {bs : List Nat} {n p : Nat} (hl : bs.length = n) (h : p ≤ n) : getC bs (p : Int) = countP bs p := by
  unfold getC countP; rw [getI_ok hl h]

set_option maxRecDepth 100000 in
set_option maxHeartbeats 1000000 in
theorem refCount_any (A : Option Addr) (n c : Nat) (z : Int) (bs : List Nat) (w : World) (hn : n ≤ 1000000000) (B : Nat) (hr : Reads w B 1 A n (bs.map byt)) (hbs : ∀ x ∈ bs, x < 256) :
    Calls Tryd.prog 59 #[.slice A n c, .int .i64 z] w fun e w' => e = resC (getC bs z) ∧ w = w' := by
  have hl : bs.length = n := by have := hr.1; simpa using this
  have H1 := Lib.hid (refGetInt_any A n c z bs w hn B hr hbs)
  unfold getC
  rw [hl]
  have hgb := fun x q => getI_bound (bs := bs) (z := z) (x := x) (q := q)
  generalize getI bs z = o at H1 hgb ⊢
  rcases o with _ | ⟨x, q⟩
  · simp only [resI] at H1
    have HE : Hid (resC ((none : Option (Int × Nat)).bind fun y => if y.1 < 0 ∨ (n : Int) - y.2 < y.1 then none else some (y.1.toNat, y.2)) = .returned (.tuple #[.int .i64 0, .int .i64 0, .int .i64 13])) := rfl
    clear hr hbs hl hgb
    go_enter Tryd.func59, Tryd.ntmps59
    go_wp2_with fail
    refine (H1.out).mono ?_
    rintro e w1 ⟨rfl, rfl⟩
    go_wp2_with fail
    go_ret3
    exact ⟨HE.out.symm, rfl⟩
  · simp only [resI] at H1
    obtain ⟨hx1, hx2⟩ := hgb x q rfl
    rw [hl] at hx2
    clear hgb hr hbs
    by_cases hx : x < 0 ∨ (n : Int) - q < x
    · have HE : Hid (resC ((some (x, q)).bind fun y => if y.1 < 0 ∨ (n : Int) - y.2 < y.1 then none else some (y.1.toNat, y.2)) = .returned (.tuple #[.int .i64 0, .int .i64 0, .int .i64 13])) := by
        unfold Hid
        rw [Option.bind_some, if_pos hx]
        rfl
      clear hl
      go_enter Tryd.func59, Tryd.ntmps59
      go_wp2_with fail
      refine (H1.out).mono ?_
      rintro e w1 ⟨rfl, rfl⟩
      by_cases h0 : x < 0
      · have d1 : decide (x < 0) = true := decide_eq_true h0
        go_wp2_with fail
        go_ret3
        exact ⟨HE.out.symm, rfl⟩
      · have d1 : decide (x < 0) = false := decide_eq_false h0
        have d2 : decide ((n : Int) - (q : Int) < x) = true := decide_eq_true (by omega)
        go_wp2_with fail
        go_ret3
        exact ⟨HE.out.symm, rfl⟩
    · have HE : Hid (resC ((some (x, q)).bind fun y => if y.1 < 0 ∨ (n : Int) - y.2 < y.1 then none else some (y.1.toNat, y.2)) = .returned (.tuple #[.int .i64 x, .int .i64 (q : Int), .int .i64 0])) := by
        unfold Hid
        rw [Option.bind_some, if_neg hx]
        show Ending.returned (.tuple #[.int .i64 (x.toNat : Int), .int .i64 (q : Int), .int .i64 0]) = _
        rw [Int.toNat_of_nonneg (by omega)]
      have d1 : decide (x < 0) = false := decide_eq_false (by omega)
      have d2 : decide ((n : Int) - (q : Int) < x) = false := decide_eq_false (by omega)
      clear hl
      go_enter Tryd.func59, Tryd.ntmps59
      go_wp2_with fail
      refine (H1.out).mono ?_
      rintro e w1 ⟨rfl, rfl⟩
      go_wp2_with fail
      go_ret3
      exact ⟨HE.out.symm, rfl⟩
/-- position and error after a reading -/
def pv : Option Nat → Value
  | some q => .int .i64 (q : Int)
  | none => .int .i64 0
def ev : Option Nat → Value
  | some _ => .int .i64 0
  | none => .int .i64 13

structure QRel {α β : Type} (vals : α → List Value) (pr : α → β) (G : World → Value → α → Prop) (T : TypeId) (k : Nat) (f : Nat → Option (β × Nat)) (w wr : World) (q m i : Nat) (s : Option Nat) (xs : List α) (v : Value) : Prop where
  le : i ≤ m
  len : xs.length = i
  st : (manyP f i q).map (·.2) = s
  xs_ : ∀ z, manyP f i q = some z → z.1 = xs.map pr ∧ ∀ x ∈ xs, G wr v x
  own : wr.ownsRow w.heap.size T k v i (xs.flatMap vals)
  bel : Below w.heap.size w wr
section
variable {α β : Type} {vals : α → List Value} {pr : α → β} {G : World → Value → α → Prop} {T : TypeId} {k : Nat} {f : Nat → Option (β × Nat)} {w wr w2 : World} {q m i : Nat} {s : Option Nat} {xs : List α} {v v2 : Value} {a : α}
theorem QRel.step (h : QRel vals pr G T k f w wr q m i s xs v) (him : i < m) (ka : ∀ y, s.bind f = some y → y.1 = pr a)
    (hown : w2.ownsRow w.heap.size T k v2 (i + 1) (xs.flatMap vals ++ vals a)) (hb : Below w.heap.size w w2) (hG : (∀ x ∈ xs, G wr v x) → (∃ y, s.bind f = some y) → ∀ x, x ∈ xs ++ [a] → G w2 v2 x) : QRel vals pr G T k f w w2 q m (i + 1) ((s.bind f).map (·.2)) (xs ++ [a]) v2 := by
  refine ⟨him, by rw [List.length_append, h.len]; rfl, ?_, fun z hz => ?_, by rw [List.flatMap_append, List.flatMap_cons, List.flatMap_nil, List.append_nil]; exact hown, hb⟩
  · rw [manyP_snoc, ← h.st]
    cases manyP f i q with
    | none => rfl
    | some y =>
      show ((f y.2).map _).map _ = (f y.2).map _
      cases f y.2 <;> rfl
  · rw [manyP_snoc] at hz
    obtain ⟨y, hy, hz⟩ := Option.bind_eq_some_iff.1 hz
    obtain ⟨x, hx, rfl⟩ := Option.map_eq_some_iff.1 hz
    obtain ⟨e1, eG⟩ := h.xs_ y hy
    have e2 := h.st
    rw [hy] at e2
    have e4 : s.bind f = some x := by rw [← e2]; exact hx
    have e3 := ka x e4
    refine ⟨?_, hG eG ⟨x, e4⟩⟩
    rw [List.map_append, ← e1, List.map_cons, List.map_nil, ← e3]
theorem QRel.done {o : Option (List β × Nat)} (h : QRel vals pr G T k f w wr q m i s xs v) (he : i = m ∨ s = none) (ho : o = manyP f m q) :
    ∃ B cc, v = .slice B xs.length cc ∧ (∀ z, o = some z → z.1 = xs.map pr ∧ ∀ x ∈ xs, G wr v x) ∧ Held wr w.heap.size k B xs.length (xs.flatMap vals) ∧ o.map (·.2) = s := by
  obtain ⟨B, cc, rfl, hr, hB⟩ := own_reads h.own
  have hlen := h.len
  subst hlen
  have key : (∀ z, o = some z → z.1 = xs.map pr ∧ ∀ x ∈ xs, G wr (.slice B xs.length cc) x) ∧ o.map (·.2) = s := by
    rcases he with rfl | he
    · rw [ho]; exact ⟨h.xs_, h.st⟩
    · have h1 : manyP f xs.length q = none := by
        have := h.st
        rw [he] at this
        simpa using this
      rw [ho, manyP_none m xs.length q h.le h1, he]
      exact ⟨(fun z hz => by cases hz), rfl⟩
  exact ⟨B, cc, rfl, key.1, ⟨hr, hB⟩, key.2⟩
end
def RIPost (w : World) (o : Option (List Int × Nat)) (e : Ending) (w' : World) : Prop :=
  ∃ B cc, ∃ xs : List Int, e = .returned (.tuple #[.slice B xs.length cc, pv (o.map (·.2)), ev (o.map (·.2))]) ∧ (∀ z, o = some z → z.1 = xs) ∧ Held w' w.heap.size 1 B xs.length (xs.map (Value.int .i64)) ∧ Below w.heap.size w w'
theorem ints_done {w wr : World} {bs : List Nat} {q m i : Nat} {s : Option Nat} {xs : List Int} {v : Value} {o : Option (List Int × Nat)} (h : QRel (fun x => [Value.int .i64 x]) id (fun _ _ _ => True) 3 1 (numP bs) w wr q m i s xs v) (he : i = m ∨ s = none) (ho : o = manyP (numP bs) m q) :
    RIPost w o (.returned (.tuple #[v, pv s, ev s])) wr := by
  obtain ⟨B, cc, rfl, h1, h2, h3⟩ := h.done he ho
  rw [← h3]
  refine ⟨B, cc, xs, rfl, fun z hz => ((h1 z hz).1).trans (List.map_id xs), ?_, h.bel⟩
  rw [flat_one] at h2
  exact h2
theorem getI_st {bs : List Nat} {n p : Nat} (hl : bs.length = n) (hp : p ≤ n) : resI (getI bs (p : Int)) = .returned (.tuple #[.int .i64 (((numP bs p).map (·.1)).getD 0), pv ((numP bs p).map (·.2)), ev ((numP bs p).map (·.2))]) := by
  rw [getI_ok hl hp]
  cases numP bs p <;> rfl

set_option maxRecDepth 100000 in
set_option maxHeartbeats 1000000 in
theorem refGetInts_any {w : World} {p n c : Nat} {A : Option Addr} {bs : List Nat} (hn : n ≤ 1000000000) (hp : p ≤ n) (hr : Reads w w.heap.size 1 A n (bs.map byt)) (hbs : ∀ x ∈ bs, x < 256) :
    Calls Tryd.prog 61 #[.slice A n c, .int .i64 (p : Int)] w (RIPost w (listP (numP bs) bs p)) := by
  have hl : bs.length = n := by have := hr.1; simpa using this
  have HC := Lib.hid (refCount_any A n c (p : Int) bs w hn w.heap.size hr hbs)
  rw [getC_ok hl hp] at HC
  have hlp : listP (numP bs) bs p = (countP bs p).bind fun y => manyP (numP bs) y.1 y.2 := rfl
  have hcl : ∀ m q, countP bs p = some (m, q) → m ≤ 1000000000 ∧ q ≤ n := fun m q h => by
    unfold countP at h
    obtain ⟨⟨z, q2⟩, hz, hc⟩ := Option.bind_eq_some_iff.1 h
    split at hc
    · cases hc
    · injection hc with hc
      injection hc with c1 c2
      have c1' : z.toNat = m := c1
      have c2' : q2 = q := c2
      have := numP_le (by omega) hz
      omega
  generalize countP bs p = o at HC hlp hcl
  have HR := Lib.hid hr
  have HS := Lib.hid hbs
  have HL := Lib.hid hl
  clear hr hbs hl
  rcases o with _ | ⟨m, q⟩
  · have HLP := Lib.hid hlp
    clear hlp hcl
    simp only [resC] at HC
    go_enter Tryd.func61, Tryd.ntmps61
    go_wp2_with fail
    refine (HC.out).mono ?_
    rintro e w1 ⟨rfl, rfl⟩
    clear HC
    go_wp2_with fail
    refine wp_loop_rounds 1 ?_
    rw [rounds_succ]
    go_wp2_with fail
    go_ret3
    rw [HLP.out]
    exact ⟨none, 0, [], rfl, (fun z hz => by cases hz), ⟨Reads.none_, fun ad h => by cases h⟩, Below.refl _ _⟩
  · obtain ⟨hm, hq⟩ := hcl m q rfl
    have hcnt : Hid (listP (numP bs) bs p = manyP (numP bs) m q) := hlp
    clear hlp hcl
    simp only [resC] at HC
    obtain ⟨i0, hi0, hz0, hz1, hz2⟩ := info_parts int_info
    have R0 : Hid (QRel (fun x => [Value.int .i64 x]) id (fun _ _ _ => True) 3 1 (numP bs) w w q m 0 (some q) [] (.slice none 0 0)) :=
      ⟨Nat.zero_le _, rfl, rfl, (fun z hz => by injection hz with hz; rw [← hz]; exact ⟨rfl, fun x hx => by cases hx⟩), ⟨rfl, .inl ⟨rfl, rfl⟩⟩, Below.refl _ _⟩
    go_enter Tryd.func61, Tryd.ntmps61
    go_wp2_with fail
    refine (HC.out).mono ?_
    rintro e w1 ⟨rfl, rfl⟩
    clear HC
    go_wp2_with fail
    go_loopw [8, 9, 10, 11, 12] (fun pw ew v iv xw wr => ∃ (i : Nat) (s' : Option Nat) (xs : List Int), iv = .int .i64 (i : Int) ∧ pw = pv s' ∧ ew = ev s' ∧ (∀ q', s' = some q' → q' ≤ n) ∧ QRel (fun x => [Value.int .i64 x]) id (fun _ _ _ => True) 3 1 (numP bs) w wr q m i s' xs v) (fun _ _ _ iv _ _ => ((m : Int) - intOf iv).toNat)
    case atStart => exact ⟨0, some q, [], rfl, rfl, rfl, (fun q' h => by injection h; omega), R0.out⟩
    case round =>
      obtain ⟨i, s', xs, rfl, rfl, rfl, hle', hR⟩ := hrel
      have HQ := Lib.hid hR
      have hle := hR.le
      clear hR R0
      by_cases him : i < m
      · have dim : decide ((i : Int) < (m : Int)) = true := by simp; omega
        rcases s' with _ | p'
        · simp only [pv, ev]
          go_wp2_with fail
          go_ret3
          exact ints_done (HQ.out) (.inr rfl) (hcnt.out)
        · have hp' := hle' p' rfl
          have hrR : Reads wr w.heap.size 1 A n (bs.map byt) := (HR.out).below (HQ.out).bel
          have HI := Lib.hid (refGetInt_any A n c (p' : Int) bs wr hn w.heap.size hrR (HS.out))
          rw [getI_st (HL.out) hp'] at HI
          have hnext : ∀ q', ((some p').bind (numP bs)).map (·.2) = some q' → q' ≤ n := fun q' h => by
            obtain ⟨y, hy, rfl⟩ := Option.map_eq_some_iff.1 h
            have := numP_le (p := p') (q := y.2) (x := y.1) (by rw [HL.out]; exact hp') hy
            rw [HL.out] at this
            exact this
          have hnx := Lib.hid hnext
          have hsz := (HQ.out).bel.size
          have ka : Hid (∀ y, (some p').bind (numP bs) = some y → y.1 = id (((numP bs p').map (·.1)).getD 0)) := fun y hy => by
            have hy' : numP bs p' = some y := hy
            rw [hy']
            rfl
          clear hrR hle' hnext
          simp only [pv, ev]
          go_wp2_with fail
          refine (HI.out).mono ?_
          rintro e w2 ⟨rfl, rfl⟩
          clear HI
          generalize hx : ((numP bs p').map (·.1)).getD 0 = x at ka
          replace hx := Lib.hid hx
          go_wp2_with (at_builtin; refine wpList_append_row _ rfl (.tmp 36) (.tmp 38) 27 27 rfl w.heap.size 3 i0 (.int .i64 0) 1 8 Tryd.underlying27 hi0 hz0 hz1 hz2 rfl (by decide) _ _ _ rfl (((HQ.out).own).alloc _) _ 1 _ rfl (src_new _ Tryd.underlying27 [_] 1 1 1 3 rfl (fun u hu => by simp at hu; subst hu; rfl)) (by unfold maxLen; omega) (by omega) (by simp; omega) ?_)
          intro v3 w3 hown3 hg3
          have R3 := Lib.hid ((HQ.out).step him (ka.out) hown3 ((((HQ.out).bel.alloc hsz _)).grown hg3.grown (by simp; omega) (fun g hv => own_ge (HQ.out).own hv)) (fun _ _ _ _ => trivial))
          clear hown3 hg3 hsz hx ka
          go_wp2_with fail
          go_roundw
          case rel => exact ⟨i + 1, _, _, by go_num, rfl, rfl, hnx.out, R3.out⟩
          case measure => simp [intOf]; omega
      · have dim : decide ((i : Int) < (m : Int)) = false := by simp; omega
        go_wp2_with fail
        go_ret3
        exact ints_done (HQ.out) (.inl (by omega)) (hcnt.out)
theorem countP_fit {bs : List Nat} {p m q n : Nat} (hl : bs.length = n) (hp : p ≤ n) (h : countP bs p = some (m, q)) : m ≤ n ∧ q ≤ n := by
  unfold countP at h
  obtain ⟨⟨z, q2⟩, hz, hc⟩ := Option.bind_eq_some_iff.1 h
  split at hc
  · cases hc
  · injection hc with hc
    injection hc with c1 c2
    have c1' : z.toNat = m := c1
    have c2' : q2 = q := c2
    have := numP_le (by omega) hz
    omega
theorem listP_le {α : Type} {f : Nat → Option (α × Nat)} {bs : List Nat} {n : Nat} (hl : bs.length = n) (hf : ∀ p x q, p ≤ n → f p = some (x, q) → q ≤ n) {p q : Nat} {l : List α} (hp : p ≤ n) (h : listP f bs p = some (l, q)) : q ≤ n := by
  unfold listP at h
  obtain ⟨⟨m, q1⟩, hc, h⟩ := Option.bind_eq_some_iff.1 h
  exact manyP_le hf m q1 l q (countP_fit hl hp hc).2 h
theorem resC_st {bs : List Nat} {n p : Nat} (hl : bs.length = n) (hp : p ≤ n) : resC (getC bs (p : Int)) = .returned (.tuple #[.int .i64 ((((countP bs p).map (·.1)).getD 0 : Nat) : Int), pv ((countP bs p).map (·.2)), ev ((countP bs p).map (·.2))]) := by
  rw [getC_ok hl hp]
  cases countP bs p <;> rfl
theorem getT_st {bs : List Nat} {n p : Nat} (hl : bs.length = n) (hp : p ≤ n) : resT (getT bs (p : Int)) = .returned (.tuple #[.string (((textP bs p).map (·.1)).getD ByteArray.empty), pv ((textP bs p).map (·.2)), ev ((textP bs p).map (·.2))]) := by
  rw [getT_ok hl hp]
  cases textP bs p <;> rfl
end Go.Proofs.YtdabmjcpiblofaaDoor

namespace Go.Proofs.YtdabmjcpiblofaaDoor
open Go.RowKit
set_option linter.unusedVariables false

structure FillR (w0 w : World) (g : Nat) (T : TypeId) (zs cs : Array Value) : Prop where
  box : Blk w (g + 1) T cs
  out : Blk w g T zs
  bel : Below w0.heap.size w0 w
  new : w0.heap.size ≤ g
section
variable {w0 w w' : World} {g : Nat} {T : TypeId} {zs cs : Array Value}
theorem FillR.size (h : FillR w0 w g T zs cs) : g + 2 ≤ w.heap.size := h.box.lt
theorem FillR.next (h : FillR w0 w g T zs cs) (hb : Below w.heap.size w w') : FillR w0 w' g T zs cs :=
  ⟨h.box.below hb h.box.lt, h.out.below hb h.out.lt, h.bel.trans (hb.mono h.bel.size), h.new⟩
theorem FillR.put (h : FillR w0 w g T zs cs) (k : Nat) (u : Value) : FillR w0 (w.setCell ⟨g + 1, k, none⟩ u) g T zs (cs.setIfInBounds k u) :=
  ⟨h.box.set_ k u, h.out.far (by show g ≠ g + 1; omega) u, h.bel.setCell (by have := h.new; show w0.heap.size ≤ g + 1; omega) u, h.new⟩
theorem FillR.give (h : FillR w0 w g T zs cs) (k : Nat) (u : Value) : FillR w0 (w.setCell ⟨g, k, none⟩ u) g T (zs.setIfInBounds k u) cs :=
  ⟨h.box.far (by show g + 1 ≠ g; omega) u, h.out.set_ k u, h.bel.setCell h.new u, h.new⟩
theorem FillR.alloc (h : FillR w0 w g T zs cs) (o : Obj) : FillR w0 (w.alloc o) g T zs cs :=
  ⟨h.box.alloc o, h.out.alloc o, h.bel.alloc h.bel.size o, h.new⟩
theorem FillR.start (w : World) (T : TypeId) (zs : Array Value) : FillR w ((w.alloc (.cells zs T)).alloc (.cells zs T)) w.heap.size T zs zs := by
  refine ⟨?_, (Blk.new w T zs).alloc _, ((Below.refl _ w).alloc (Nat.le_refl _) _).alloc (by simp) _, Nat.le_refl _⟩
  have := Blk.new (w.alloc (.cells zs T)) T zs
  have e : (w.alloc (.cells zs T)).heap.size = w.heap.size + 1 := by simp
  rwa [e] at this
theorem FillR.grown {v v' : Value} (h : FillR w0 w g T zs cs) (hg : Grows w w' v v') (h1 : v.ownBlock ≠ some g) (h2 : v.ownBlock ≠ some (g + 1)) (h3 : ∀ b, v.ownBlock = some b → w0.heap.size ≤ b) : FillR w0 w' g T zs cs :=
  ⟨hg.blk h.box h2, hg.blk h.out h1, h.bel.trans (hg.below h.bel.size h3), h.new⟩
end
theorem FillR.other {w0 w : World} {g : Nat} {T : TypeId} {zs cs : Array Value} (h : FillR w0 w g T zs cs) {p : Addr} (hp : g + 1 < p.block) (u : Value) : FillR w0 (w.setCell p u) g T zs cs :=
  ⟨h.box.far (by omega) u, h.out.far (by omega) u, h.bel.setCell (by have := h.new; omega) u, h.new⟩
theorem src_newB {P : Program} (w : World) {tx e' : TypeId} (hk : P.underlying tx = some (.slice e')) (vals : List Value) (size m c g : Nat) (te : TypeId) (hg : g = w.heap.size) (hl : vals.length = m * size) (h1 : ∀ u ∈ vals, u.oneCell' = true) :
    Src P size tx (.slice (some ⟨g, 0, none⟩) m c) m vals (w.alloc (.cells vals.toArray te)) := by
  subst hg
  exact src_new w hk vals size m c te hl h1
theorem below_eq {B : Nat} {w w' : World} (h : w = w') : Below B w w' := by subst h; exact Below.refl B w
theorem grown_below {w0 w w' : World} {row : Option Nat} (h : w0.grownBy w row) (hb : Below w.heap.size w w') : w0.grownBy w' row :=
  ⟨hb.os.trans h.os, hb.tape.trans h.tape, hb.output.trans h.output, Nat.le_trans h.size hb.size, fun i hi hne => (hb.block i (Nat.lt_of_lt_of_le hi h.size)).trans (h.block i hi hne)⟩
theorem grown_grows {w0 w w' : World} {row : Option Nat} {v v' : Value} (h : w0.grownBy w row) (hg : Grows w w' v v') (hv : ∀ g, v.ownBlock = some g → w0.heap.size ≤ g) : w0.grownBy w' row := by
  refine ⟨hg.grown.os.trans h.os, hg.grown.tape.trans h.tape, hg.grown.output.trans h.output, Nat.le_trans h.size hg.grown.size, fun i hi hne2 => (hg.grown.block i (Nat.lt_of_lt_of_le hi h.size) (fun e => ?_)).trans (h.block i hi hne2)⟩
  have := hv i e.symm
  omega

theorem results_cell_row3 {P : Program} {fn : Func} {p u v : Tmp} {ty : TypeId} (h : fn.results = #[.cell p ty, .tmp u, .tmp v]) (tmps : Array Value) (w : World) (g : Nat) (t : TypeId) (cs : Array Value) (fr : Nat × Nat) (d : TypeDesc)
    (hp : tmps.getD p undef = .pointer (some ⟨g, 0, none⟩)) (hg : w.heap[g]? = some (.cells cs t fr))
    (hu : P.underlying ty = some d) (hd : (match d with | .struct _ | .array _ _ => true | _ => false) = true) (hi : (P.info? ty).map (·.size) = some cs.size) :
    (results fn tmps).run P w = .ok (.tuple #[.agg cs, tmps.getD u undef, tmps.getD v undef]) w := by
  have hp' : tmps[p]?.getD undef = .pointer (some ⟨g, 0, none⟩) := by simpa using hp
  simp [results, h, hp', asAddr, run_loadVar_row w g t ty cs fr d hg hu hd hi, Result.andThen]


def zeroN : Array Value := #[.int .i64 0, .string ⟨#[]⟩, .slice none 0 0, .slice none 0 0]
/-- the loop over a node's leads: wL is where it begins, g + 1 the node's box -/
structure XRel (w0 wL wr : World) (g : Nat) (bs : List Nat) (kd : Int) (tx : ByteArray) (q m i : Nat) (p : Nat) (xs : List ByteArray) (v : Value) : Prop where
  le : i ≤ m
  len : xs.length = i
  st : manyP (textP bs) i q = some (xs, p)
  own : wr.ownsRow wL.heap.size 9 1 v i (xs.map Value.string)
  fill : FillR w0 wr g 48 zeroN #[.int .i64 kd, .string tx, v, .slice none 0 0]
  low : g + 2 ≤ wL.heap.size
  mem : wL.heap.size ≤ wr.heap.size
theorem XRel.step {w0 wL wr w4 : World} {g q m i p p2 : Nat} {bs : List Nat} {kd : Int} {tx : ByteArray} {xs : List ByteArray} {v v2 : Value} {a : ByteArray} {o : Obj} (h : XRel w0 wL wr g bs kd tx q m i p xs v) (him : i < m) (hf : textP bs p = some (a, p2))
    (hg : Grows (wr.alloc o) w4 v v2) (hown : w4.ownsRow wL.heap.size 9 1 v2 (i + 1) (xs.map Value.string ++ [.string a])) :
    XRel w0 wL (w4.setCell ⟨g + 1, 2, none⟩ v2) g bs kd tx q m (i + 1) p2 (xs ++ [a]) v2 := by
  have hge : ∀ b, v.ownBlock = some b → wL.heap.size ≤ b := fun b hv => own_ge h.own hv
  have hlow := h.low
  have hnew := h.fill.new
  have hF : FillR w0 w4 g 48 zeroN #[.int .i64 kd, .string tx, v, .slice none 0 0] := (h.fill.alloc o).grown hg (fun e => by have := hge _ e; omega) (fun e => by have := hge _ e; omega) (fun b hv => by have := hge b hv; omega)
  have hg3 : v2.ownBlock ≠ some (g + 1) := fun e => by have := own_ge hown e; omega
  refine ⟨him, by rw [List.length_append, h.len]; rfl, ?_, ?_, hF.put 2 v2, h.low, ?_⟩
  rotate_left
  rotate_left
  · have := hg.size; have := h.mem; simp at *; omega
  · rw [manyP_snoc, h.st]
    show (textP bs p).map _ = _
    rw [hf]
    rfl
  · rw [List.map_append]
    exact hown.kept (only_setCell (World.grownBy.refl w4 (some (g + 1))) (.inl rfl) v2) (.inr hg3)
theorem own_ge2 {w0 wL wr : World} {g q m i p : Nat} {bs : List Nat} {kd : Int} {tx : ByteArray} {xs : List ByteArray} {v : Value} (h : XRel w0 wL wr g bs kd tx q m i p xs v) : wL.heap.size ≤ wr.heap.size := h.mem
theorem XRel.fails {w0 wL wr : World} {g q m i p : Nat} {bs : List Nat} {kd : Int} {tx : ByteArray} {xs : List ByteArray} {v : Value} (h : XRel w0 wL wr g bs kd tx q m i p xs v) (him : i < m) (hf : textP bs p = none) : manyP (textP bs) m q = none := by
  refine manyP_none m (i + 1) q him ?_
  rw [manyP_snoc, h.st]
  show (textP bs p).map _ = _
  rw [hf]
  rfl
def RNPost (w : World) (o : Option (PN × Nat)) (e : Ending) (w' : World) : Prop :=
  ∃ p : PX, e = .returned (.tuple #[.agg #[.int .i64 p.kind, .string p.text, .slice p.lA p.leads.length p.lc, .slice p.kA p.kids.length p.kc], pv (o.map (·.2)), ev (o.map (·.2))]) ∧ (∀ z, o = some z → z.1 = p.plain ∧ NodeAt w w' p) ∧ Below w.heap.size w w'
theorem RNPost.fail {w w' : World} {o : Option (PN × Nat)} {kd : Int} {tx : ByteArray} {A : Option Addr} {n c : Nat} (ho : o = none) (hb : Below w.heap.size w w') (xs : List ByteArray) (hx : xs.length = n) : RNPost w o (.returned (.tuple #[.agg #[.int .i64 kd, .string tx, .slice A n c, .slice none 0 0], .int .i64 0, .int .i64 13])) w' := by
  subst ho hx
  exact ⟨⟨kd, tx, A, xs, c, none, [], 0⟩, rfl, (fun z hz => by cases hz), hb⟩
theorem FillR.give4 {w0 w : World} {g : Nat} {cs : Array Value} (h : FillR w0 w g 48 zeroN cs) (a b c d : Value) : FillR w0 ((((w.setCell ⟨g, 0, none⟩ a).setCell ⟨g, 1, none⟩ b).setCell ⟨g, 2, none⟩ c).setCell ⟨g, 3, none⟩ d) g 48 #[a, b, c, d] cs :=
  (((h.give 0 a).give 1 b).give 2 c).give 3 d

set_option maxRecDepth 100000 in
set_option maxHeartbeats 4000000 in
theorem refNode_any {w : World} {p n c : Nat} {A : Option Addr} {bs : List Nat} (hn : n ≤ 1000000000) (hnc : n ≤ c) (hp : p ≤ n) (hr : Reads w w.heap.size 1 A n (bs.map byt)) (hbs : ∀ x ∈ bs, x < 256) :
    Calls Tryd.prog 60 #[.slice A n c, .int .i64 (p : Int)] w (RNPost w (nodeP bs p)) := by
  have hl : bs.length = n := by have := hr.1; simpa using this
  have HR := Lib.hid hr
  have HI : Hid (∀ (q : Nat) (w' : World), q ≤ n → Below w.heap.size w w' → Calls Tryd.prog 74 #[.slice A n c, .int .i64 (q : Int)] w' fun e w2 => e = .returned (.tuple #[.int .i64 (((numP bs q).map (·.1)).getD 0), pv ((numP bs q).map (·.2)), ev ((numP bs q).map (·.2))]) ∧ w' = w2) := fun q w' hq hb => by
    have := refGetInt_any A n c (q : Int) bs w' hn w.heap.size (hr.below hb) hbs
    rwa [getI_st hl hq] at this
  have HT : Hid (∀ (q : Nat) (w' : World), q ≤ n → Below w.heap.size w w' → Calls Tryd.prog 75 #[.slice A n c, .int .i64 (q : Int)] w' fun e w2 => e = .returned (.tuple #[.string (((textP bs q).map (·.1)).getD ByteArray.empty), pv ((textP bs q).map (·.2)), ev ((textP bs q).map (·.2))]) ∧ w' = w2) := fun q w' hq hb => by
    have := refGetText_any A n c (q : Int) bs w' hn hnc w.heap.size (hr.below hb) hbs
    rwa [getT_st hl hq] at this
  have HC : Hid (∀ (q : Nat) (w' : World), q ≤ n → Below w.heap.size w w' → Calls Tryd.prog 59 #[.slice A n c, .int .i64 (q : Int)] w' fun e w2 => e = .returned (.tuple #[.int .i64 ((((countP bs q).map (·.1)).getD 0 : Nat) : Int), pv ((countP bs q).map (·.2)), ev ((countP bs q).map (·.2))]) ∧ w' = w2) := fun q w' hq hb => by
    have := refCount_any A n c (q : Int) bs w' hn w.heap.size (hr.below hb) hbs
    rwa [resC_st hl hq] at this
  have HM : Hid (∀ (q : Nat) (w' : World), q ≤ n → Below w.heap.size w w' → Calls Tryd.prog 61 #[.slice A n c, .int .i64 (q : Int)] w' (RIPost w' (listP (numP bs) bs q))) := fun q w' hq hb => refGetInts_any hn hq ((hr.below hb).more hb.size) hbs
  have HN : Hid (∀ (q : Nat) x q2, q ≤ n → numP bs q = some (x, q2) → q2 ≤ n) := fun q x q2 hq h => by have := numP_le (by omega) h; omega
  have HX : Hid (∀ (q : Nat) x q2, q ≤ n → textP bs q = some (x, q2) → q2 ≤ n) := fun q x q2 hq h => by have := textP_le h; omega
  have HC2 : Hid (∀ (q : Nat) m q2, q ≤ n → countP bs q = some (m, q2) → m ≤ n ∧ q2 ≤ n) := fun q m q2 hq h => countP_fit hl hq h
  have hch : nodeP bs p = (numP bs p).bind fun a => (textP bs a.2).bind fun t => ((countP bs t.2).bind fun y => manyP (textP bs) y.1 y.2).bind fun l => (listP (numP bs) bs l.2).map fun k => ((a.1, t.1, l.1, k.1), k.2) := rfl
  replace hch := Lib.hid hch
  have HP := Lib.hid hp
  have M0 := Lib.hid (FillR.start w 48 zeroN)
  clear hr hbs hl hp
  unfold zeroN at M0
  go_enter Tryd.func60, Tryd.ntmps60
  go_wp2_with fail
  refine (HI.out p _ (HP.out) (M0.out).bel).mono ?_
  rintro e w1 ⟨rfl, hw⟩
  have N1 : Hid (FillR w w1 w.heap.size 48 zeroN zeroN) := ((M0.out).next (below_eq hw))
  clear hw M0
  have ck := (N1.out).box.cell 0
  have fk := (N1.out).box.frozen 0
  simp [zeroN] at ck
  rcases e1 : numP bs p with _ | ⟨v1, q1⟩
  · have ho : Hid (nodeP bs p = none) := by unfold Hid; rw [hch.out, e1]; rfl
    clear hch e1
    have N1' : Hid (FillR w (w1.setCell ⟨w.heap.size + 1, 0, none⟩ (.int .i64 0)) w.heap.size 48 zeroN #[.int .i64 0, .string ⟨#[]⟩, .slice none 0 0, .slice none 0 0]) := (N1.out).put 0 (.int .i64 0)
    have o0 := (N1'.out).out.cell 0
    have f0 := (N1'.out).out.frozen 0
    have o1 := (N1'.out).out.cell 1
    have f1 := (N1'.out).out.frozen 1
    have o2 := (N1'.out).out.cell 2
    have f2 := (N1'.out).out.frozen 2
    have o3 := (N1'.out).out.cell 3
    have f3 := (N1'.out).out.frozen 3
    unfold zeroN at o0 o1 o2 o3
    simp at o0 o1 o2 o3
    have b0 := (N1'.out).box.cell 0
    have b1 := (N1'.out).box.cell 1
    have b2 := (N1'.out).box.cell 2
    have b3 := (N1'.out).box.cell 3
    simp at b0 b1 b2 b3
    simp only [Option.map_none, Option.getD_none, pv, ev]
    go_wp2_with fail
    clear o0 o1 o2 o3 f0 f1 f2 f3 b0 b1 b2 b3
    have FM := FillR.give4 (N1'.out) (.int .i64 0) (.string ⟨#[]⟩) (.slice none 0 0) (.slice none 0 0)
    refine bodyPost_ret (results_cell_row3 (P := Tryd.prog) rfl _ _ w.heap.size 48 #[(.int .i64 0), (.string ⟨#[]⟩), (.slice none 0 0), (.slice none 0 0)] (0, 0) _ rfl FM.out Tryd.underlying48 rfl (by kernel_rfl)) rfl ?_
    exact RNPost.fail ho.out FM.bel [] rfl
  · have hq1 : Hid (q1 ≤ n) := (HN.out p v1 q1 (HP.out) e1)
    simp only [Option.map_some, Option.getD_some, pv, ev]
    replace e1 := Lib.hid e1
    have M1 : Hid (FillR w (w1.setCell ⟨w.heap.size + 1, 0, none⟩ (.int .i64 v1)) w.heap.size 48 zeroN #[.int .i64 v1, .string ⟨#[]⟩, .slice none 0 0, .slice none 0 0]) := (N1.out).put 0 (.int .i64 v1)
    clear N1
    go_wp2_with fail
    clear ck fk
    refine (HT.out q1 _ (hq1.out) (M1.out).bel).mono ?_
    rintro e w2 ⟨rfl, hw⟩
    have N2 := Lib.hid ((M1.out).next (below_eq hw))
    clear hw M1
    have ck := (N2.out).box.cell 1
    have fk := (N2.out).box.frozen 1
    simp at ck
    rcases e2 : textP bs q1 with _ | ⟨v2, q2⟩
    · have ho : Hid (nodeP bs p = none) := by unfold Hid; rw [hch.out, e1.out, Option.bind_some, e2]; rfl
      clear hch e2
      have N2' : Hid (FillR w (w2.setCell ⟨w.heap.size + 1, 1, none⟩ (.string ByteArray.empty)) w.heap.size 48 zeroN #[.int .i64 v1, .string ByteArray.empty, .slice none 0 0, .slice none 0 0]) := (N2.out).put 1 (.string ByteArray.empty)
      have o0 := (N2'.out).out.cell 0
      have f0 := (N2'.out).out.frozen 0
      have o1 := (N2'.out).out.cell 1
      have f1 := (N2'.out).out.frozen 1
      have o2 := (N2'.out).out.cell 2
      have f2 := (N2'.out).out.frozen 2
      have o3 := (N2'.out).out.cell 3
      have f3 := (N2'.out).out.frozen 3
      unfold zeroN at o0 o1 o2 o3
      simp at o0 o1 o2 o3
      have b0 := (N2'.out).box.cell 0
      have b1 := (N2'.out).box.cell 1
      have b2 := (N2'.out).box.cell 2
      have b3 := (N2'.out).box.cell 3
      simp at b0 b1 b2 b3
      simp only [Option.map_none, Option.getD_none, pv, ev]
      go_wp2_with fail
      clear o0 o1 o2 o3 f0 f1 f2 f3 b0 b1 b2 b3
      have FM := FillR.give4 (N2'.out) (.int .i64 v1) (.string ByteArray.empty) (.slice none 0 0) (.slice none 0 0)
      refine bodyPost_ret (results_cell_row3 (P := Tryd.prog) rfl _ _ w.heap.size 48 #[(.int .i64 v1), (.string ByteArray.empty), (.slice none 0 0), (.slice none 0 0)] (0, 0) _ rfl FM.out Tryd.underlying48 rfl (by kernel_rfl)) rfl ?_
      exact RNPost.fail ho.out FM.bel [] rfl
    · have hq2 : Hid (q2 ≤ n) := (HX.out q1 v2 q2 (hq1.out) e2)
      simp only [Option.map_some, Option.getD_some, pv, ev]
      replace e2 := Lib.hid e2
      have M2 : Hid (FillR w (w2.setCell ⟨w.heap.size + 1, 1, none⟩ (.string v2)) w.heap.size 48 zeroN #[.int .i64 v1, .string v2, .slice none 0 0, .slice none 0 0]) := (N2.out).put 1 (.string v2)
      clear N2
      go_wp2_with fail
      clear ck fk
      refine (HC.out q2 _ (hq2.out) (M2.out).bel).mono ?_
      rintro e w3 ⟨rfl, hw⟩
      have N3 := Lib.hid ((M2.out).next (below_eq hw))
      clear hw M2
      rcases e3 : countP bs q2 with _ | ⟨m, q3⟩
      · have ho : Hid (nodeP bs p = none) := by unfold Hid; rw [hch.out, e1.out, Option.bind_some, e2.out, Option.bind_some, e3]; rfl
        clear hch e3
        have o0 := (N3.out).out.cell 0
        have f0 := (N3.out).out.frozen 0
        have o1 := (N3.out).out.cell 1
        have f1 := (N3.out).out.frozen 1
        have o2 := (N3.out).out.cell 2
        have f2 := (N3.out).out.frozen 2
        have o3 := (N3.out).out.cell 3
        have f3 := (N3.out).out.frozen 3
        unfold zeroN at o0 o1 o2 o3
        simp at o0 o1 o2 o3
        have b0 := (N3.out).box.cell 0
        have b1 := (N3.out).box.cell 1
        have b2 := (N3.out).box.cell 2
        have b3 := (N3.out).box.cell 3
        simp at b0 b1 b2 b3
        simp only [Option.map_none, Option.getD_none, pv, ev]
        go_wp2_with fail
        clear o0 o1 o2 o3 f0 f1 f2 f3 b0 b1 b2 b3
        have FM := FillR.give4 (N3.out) (.int .i64 v1) (.string v2) (.slice none 0 0) (.slice none 0 0)
        refine bodyPost_ret (results_cell_row3 (P := Tryd.prog) rfl _ _ w.heap.size 48 #[(.int .i64 v1), (.string v2), (.slice none 0 0), (.slice none 0 0)] (0, 0) _ rfl FM.out Tryd.underlying48 rfl (by kernel_rfl)) rfl ?_
        exact RNPost.fail ho.out FM.bel [] rfl
      · have hq3 : Hid (q3 ≤ n) := (HC2.out q2 m q3 (hq2.out) e3).2
        have hm : m ≤ n := (HC2.out q2 m q3 (hq2.out) e3).1
        simp only [Option.map_some, Option.getD_some, pv, ev]
        replace e3 := Lib.hid e3
        obtain ⟨i0, hi0, hz0, hz1, hz2⟩ := info_parts string_info'
        have HI0 := Lib.hid hi0
        have HZ0 := Lib.hid hz0
        have HZ1 := Lib.hid hz1
        have HZ2 := Lib.hid hz2
        have hcm : Hid (nodeP bs p = (manyP (textP bs) m q3).bind fun l => (listP (numP bs) bs l.2).map fun k => ((v1, v2, l.1, k.1), k.2)) := by unfold Hid; rw [hch.out, e1.out, Option.bind_some, e2.out, Option.bind_some, e3.out]; rfl
        have R0 : Hid (XRel w w3 w3 w.heap.size bs v1 v2 q3 m 0 q3 [] (.slice none 0 0)) := ⟨Nat.zero_le _, rfl, rfl, ⟨rfl, .inl ⟨rfl, rfl⟩⟩, N3.out, (N3.out).size, Nat.le_refl _⟩
        clear hch e1 e2 e3 HI HC HN N3 hi0 hz0 hz1 hz2
        go_wp2_with fail
        go_loopw [1, 8, 10, 11] (fun pw ew iv xw wr => ∃ (i p' : Nat) (xs : List ByteArray) (lA : Option Addr) (lc : Nat), iv = .int .i64 (i : Int) ∧ pw = .int .i64 (p' : Int) ∧ ew = .int .i64 0 ∧ Hid (p' ≤ n) ∧ Hid (XRel w w3 wr w.heap.size bs v1 v2 q3 m i p' xs (.slice lA i lc))) (fun _ _ iv _ _ => ((m : Int) - intOf iv).toNat)
        case atStart => exact ⟨0, q3, [], none, 0, rfl, rfl, rfl, hq3, R0⟩
        case round =>
          obtain ⟨i, p', xs, lA, lc, rfl, rfl, rfl, hp', HQ⟩ := hrel
          have hle := HQ.out.le
          have hsz := (HQ.out).fill.size
          have hlow := Lib.hid (HQ.out).low
          by_cases him : i < m
          · have dim : decide ((i : Int) < (m : Int)) = true := by simp; omega
            go_wp2_with fail
            refine (HT.out p' _ hp'.out (HQ.out).fill.bel).mono ?_
            rintro e w4 ⟨rfl, rfl⟩
            rcases he : textP bs p' with _ | ⟨y, p2⟩
            · have ho : Hid (nodeP bs p = none) := by unfold Hid; rw [hcm.out, (HQ.out).fails him he]; rfl
              have HXL := Lib.hid (HQ.out).len
              clear hcm he
              have o0 := ((HQ.out).fill).out.cell 0
              have f0 := ((HQ.out).fill).out.frozen 0
              have o1 := ((HQ.out).fill).out.cell 1
              have f1 := ((HQ.out).fill).out.frozen 1
              have o2 := ((HQ.out).fill).out.cell 2
              have f2 := ((HQ.out).fill).out.frozen 2
              have o3 := ((HQ.out).fill).out.cell 3
              have f3 := ((HQ.out).fill).out.frozen 3
              unfold zeroN at o0 o1 o2 o3
              simp at o0 o1 o2 o3
              have b0 := ((HQ.out).fill).box.cell 0
              have b1 := ((HQ.out).fill).box.cell 1
              have b2 := ((HQ.out).fill).box.cell 2
              have b3 := ((HQ.out).fill).box.cell 3
              simp at b0 b1 b2 b3
              simp only [Option.map_none, Option.getD_none, pv, ev]
              go_wp2_with fail
              clear o0 o1 o2 o3 f0 f1 f2 f3 b0 b1 b2 b3
              have FM := FillR.give4 ((HQ.out).fill) (.int .i64 v1) (.string v2) (.slice lA i lc) (.slice none 0 0)
              refine bodyPost_ret (results_cell_row3 (P := Tryd.prog) rfl _ _ w.heap.size 48 #[(.int .i64 v1), (.string v2), (.slice lA i lc), (.slice none 0 0)] (0, 0) _ rfl FM.out Tryd.underlying48 rfl (by kernel_rfl)) rfl ?_
              exact RNPost.fail ho.out FM.bel xs HXL.out
            · have hp2 : Hid (p2 ≤ n) := HX.out p' y p2 hp'.out he
              have HE := Lib.hid he
              have ck := (HQ.out).fill.box.cell 2
              have fk := (HQ.out).fill.box.frozen 2
              simp at ck
              have HCK : Hid (∀ o w5 v5, Grows (wr.alloc o) w5 (.slice lA i lc) v5 → w5.frozen? ⟨w.heap.size + 1, 2, none⟩ = false ∧ w5.cell? ⟨w.heap.size + 1, 2, none⟩ = some (.slice lA i lc)) := fun o w5 v5 hg => by
                have h1 := hg.blk ((HQ.out).fill.box.alloc o) (fun e => by have := own_ge (HQ.out).own e; have := hlow.out; omega)
                exact ⟨h1.frozen 2, by rw [h1.cell]; rfl⟩
              clear he
              simp only [Option.map_some, Option.getD_some, pv, ev]
              go_wp2_with (at_builtin; refine wpList_append_row _ rfl (.tmp 64) (.tmp 66) 40 40 rfl w3.heap.size 9 i0 (.string ⟨#[]⟩) 1 16 Tryd.underlying40 HI0.out HZ0.out HZ1.out HZ2.out rfl (by decide) (.slice lA i lc) i (xs.map Value.string) rfl ((HQ.out).own.alloc _) (.slice (some ⟨wr.heap.size, 0, none⟩) 1 1) 1 [.string y] rfl (src_new wr Tryd.underlying40 [.string y] 1 1 1 9 rfl ?c4) ?c1 ?c2 ?c3 ?_)
              case c4 => first | rfl | (intro u hu; simp at hu; subst hu; rfl)
              case c1 => unfold maxLen; omega
              case c2 => omega
              case c3 => have := own_ge2 HQ.out; simp; omega
              intro v5 w5 hown5 hg5
              obtain ⟨A5, c5, rfl, -, -⟩ := own_reads hown5
              have HQ5 := Lib.hid ((HQ.out).step him HE.out hg5 hown5)
              obtain ⟨fz5, cz5⟩ := HCK.out _ _ _ hg5
              clear hown5 hg5 ck fk
              go_wp2_with fail
              go_roundw
              case rel => exact ⟨i + 1, p2, xs ++ [y], A5, c5, by go_num, rfl, rfl, hp2, HQ5⟩
              case measure => simp [intOf]; omega
          · obtain rfl : i = m := by omega
            have dim : decide ((i : Int) < (i : Int)) = false := by simp
            have hcn : Hid (nodeP bs p = (listP (numP bs) bs p').map fun k => ((v1, v2, xs, k.1), k.2)) := by unfold Hid; rw [hcm.out, (HQ.out).st]; rfl
            obtain ⟨A1, c1, hv, hL, hLA⟩ := own_reads (HQ.out).own
            injection hv with hA1 hn1 hc1
            subst hA1 hc1
            have HL : Hid (Held wr w3.heap.size 1 lA i (xs.map Value.string)) := ⟨hL, hLA⟩
            have HXL := Lib.hid (HQ.out).len
            have HWL : Hid (w3.heap.size ≤ wr.heap.size) := own_ge2 HQ.out
            clear hL hLA hn1 hcm
            go_wp2_with fail
            refine (HM.out p' _ hp'.out (HQ.out).fill.bel).mono ?_
            rintro e w5 ⟨B, cc, ks, rfl, hks, hK, hb5⟩
            have N5 := Lib.hid ((HQ.out).fill.next hb5)
            have HK := Lib.hid hK
            have HL5 := Lib.hid (HL.out.below hb5)
            have HKS := Lib.hid hks
            have hz5 := hb5.size
            have ck := (N5.out).box.cell 3
            have fk := (N5.out).box.frozen 3
            simp at ck
            have M5 : Hid (FillR w (w5.setCell ⟨w.heap.size + 1, 3, none⟩ (.slice B ks.length cc)) w.heap.size 48 zeroN #[.int .i64 v1, .string v2, .slice lA i lc, .slice B ks.length cc]) := (N5.out).put 3 (.slice B ks.length cc)
            clear hks hK hb5
            have o0 := (M5.out).out.cell 0
            have f0 := (M5.out).out.frozen 0
            have o1 := (M5.out).out.cell 1
            have f1 := (M5.out).out.frozen 1
            have o2 := (M5.out).out.cell 2
            have f2 := (M5.out).out.frozen 2
            have o3 := (M5.out).out.cell 3
            have f3 := (M5.out).out.frozen 3
            unfold zeroN at o0 o1 o2 o3
            simp at o0 o1 o2 o3
            have b0 := (M5.out).box.cell 0
            have b1 := (M5.out).box.cell 1
            have b2 := (M5.out).box.cell 2
            have b3 := (M5.out).box.cell 3
            simp at b0 b1 b2 b3
            go_wp2_with fail
            clear o0 o1 o2 o3 f0 f1 f2 f3 b0 b1 b2 b3 ck fk
            have FM := FillR.give4 (M5.out) (.int .i64 v1) (.string v2) (.slice lA i lc) (.slice B ks.length cc)
            have hz := (HQ.out).fill.size
            have hlo := hlow.out
            have K1 := (((((HK.out.setCell (p := ⟨w.heap.size + 1, 3, none⟩) (by show w.heap.size + 1 < _; omega) (.slice B ks.length cc)).setCell (p := ⟨w.heap.size, 0, none⟩) (by show w.heap.size < _; omega) (.int .i64 v1)).setCell (p := ⟨w.heap.size, 1, none⟩) (by show w.heap.size < _; omega) (.string v2)).setCell (p := ⟨w.heap.size, 2, none⟩) (by show w.heap.size < _; omega) (.slice lA i lc)).setCell (p := ⟨w.heap.size, 3, none⟩) (by show w.heap.size < _; omega) (.slice B ks.length cc))
            have L1 := (((((HL5.out.setCell (p := ⟨w.heap.size + 1, 3, none⟩) (by show w.heap.size + 1 < _; omega) (.slice B ks.length cc)).setCell (p := ⟨w.heap.size, 0, none⟩) (by show w.heap.size < _; omega) (.int .i64 v1)).setCell (p := ⟨w.heap.size, 1, none⟩) (by show w.heap.size < _; omega) (.string v2)).setCell (p := ⟨w.heap.size, 2, none⟩) (by show w.heap.size < _; omega) (.slice lA i lc)).setCell (p := ⟨w.heap.size, 3, none⟩) (by show w.heap.size < _; omega) (.slice B ks.length cc))
            refine bodyPost_ret (results_cell_row3 (P := Tryd.prog) rfl _ _ w.heap.size 48 #[.int .i64 v1, .string v2, .slice lA i lc, .slice B ks.length cc] (0, 0) _ rfl FM.out Tryd.underlying48 rfl (by kernel_rfl)) rfl ?_
            have hxl := HXL.out
            subst hxl
            refine ⟨⟨v1, v2, lA, xs, lc, B, ks, cc⟩, ?_, fun z hz => ?_, FM.bel⟩
            · rw [hcn.out]
              cases listP (numP bs) bs p' <;> rfl
            · rw [hcn.out] at hz
              obtain ⟨y, hy, rfl⟩ := Option.map_eq_some_iff.1 hz
              have := HKS.out y hy
              refine ⟨by show (v1, v2, xs, y.1) = (v1, v2, xs, ks); rw [this], L1.1, fun ad e => ⟨by have := (L1.2 ad e).1; omega, (L1.2 ad e).2⟩, K1.1, fun ad e => ⟨by have := (K1.2 ad e).1; omega, (K1.2 ad e).2⟩⟩
end Go.Proofs.YtdabmjcpiblofaaDoor
