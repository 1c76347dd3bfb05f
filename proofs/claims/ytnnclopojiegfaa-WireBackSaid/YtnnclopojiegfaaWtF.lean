/-
  The reader's list of numbers. No condition.
-/
import Derived.Test.YtnnclopojiegfaaWtE
namespace Go.Proofs.Ytnnclopojiegfaa
open Go.RowKit
set_option linter.unusedVariables false

def IntsPost (w : World) (r : Nat) (A : Option Addr) (n c : Nat) (o : Option (List Int × Nat)) (e : Ending) (w' : World) : Prop :=
  ∃ B cc, ∃ xs : List Int, e = .returned (.slice B xs.length cc) ∧ (∀ z, o = some z → z.1 = xs) ∧ Reads w' w'.heap.size 1 B xs.length (xs.map (Value.int .i64)) ∧ (∀ ad, B = some ad → w.heap.size ≤ ad.block ∧ ad.block < w'.heap.size) ∧ Rd w' r A n c (o.map (·.2)) ∧ w.grownBy w' (some r)

/-- what a list's loop knows -/
structure LMid (w0 w : World) (r : Nat) (A : Option Addr) (n c : Nat) (bs : List Nat) (s : Option Nat) : Prop where
  rd : Rd w r A n c s
  inn : RdIn w r A n c bs
  gr : w0.grownBy w (some r)
  old : r < w0.heap.size
section
variable {w0 w w' : World} {r n c : Nat} {A : Option Addr} {bs : List Nat} {s s' : Option Nat}
theorem LMid.next (h : LMid w0 w r A n c bs s) (hr : Rd w' r A n c s') (hg : w.grownBy w' (some r)) : LMid w0 w' r A n c bs s' :=
  ⟨hr, h.inn.grown hg (Nat.le_of_lt h.rd.lt), h.gr.trans hg, h.old⟩
theorem LMid.grows {v v' : Value} (h : LMid w0 w r A n c bs s) (hg : Grows w w' v v') (hv : ∀ g, v.ownBlock = some g → w0.heap.size ≤ g) : LMid w0 w' r A n c bs s := by
  have ho := h.old
  have hne : some r ≠ v.ownBlock := fun e => by have := hv r e.symm; omega
  refine ⟨h.rd.grown hg.grown hne, ⟨h.inn.hn, h.inn.hnc, h.inn.hr.keep (fun p hp => World.cell?_of_block (hg.grown.block p.block (by have := h.rd.lt; omega) (fun e => by have := hv p.block e.symm; omega))), h.inn.hbs⟩, ?_, h.old⟩
  refine ⟨hg.grown.os.trans h.gr.os, hg.grown.tape.trans h.gr.tape, hg.grown.output.trans h.gr.output, Nat.le_trans h.gr.size hg.grown.size, fun i hi hne2 => (hg.grown.block i (Nat.lt_of_lt_of_le hi h.gr.size) (fun e => ?_)).trans (h.gr.block i hi hne2)⟩
  have := hv i e.symm
  omega
theorem LMid.alloc (h : LMid w0 w r A n c bs s) (o : Obj) : LMid w0 (w.alloc o) r A n c bs s :=
  ⟨h.rd.alloc o, h.inn.alloc (Nat.le_of_lt h.rd.lt) o, only_alloc h.gr o, h.old⟩
theorem LMid.drewN (h : LMid w0 w r A n c bs s) (k : Nat) : LMid w0 (w.drewN k) r A n c bs s := ⟨h.rd, ⟨h.inn.hn, h.inn.hnc, h.inn.hr, h.inn.hbs⟩, only_drewN h.gr k, h.old⟩
end
theorem own_ge {w : World} {base : Nat} {e : TypeId} {size n : Nat} {v : Value} {xs : List Value} (h : w.ownsRow base e size v n xs) {g : Nat} (hv : v.ownBlock = some g) : base ≤ g := by
  rcases h.2 with ⟨rfl, _⟩ | ⟨g', cap, cur, rfl, hb, _⟩
  · simp [Value.ownBlock] at hv
  · have : g' = g := by simpa [Value.ownBlock] using hv
    omega
theorem own_ne {w : World} {base r : Nat} {e : TypeId} {size n : Nat} {v : Value} {xs : List Value} (h : w.ownsRow base e size v n xs) (hr : r < base) : v.ownBlock ≠ some r := fun hv => by have := own_ge h hv; omega
theorem own_lt {w : World} {base : Nat} {e : TypeId} {size n : Nat} {v : Value} {xs : List Value} (h : w.ownsRow base e size v n xs) {g : Nat} (hv : v.ownBlock = some g) : g < w.heap.size := by
  rcases h.2 with ⟨rfl, _⟩ | ⟨g', cap, cur, rfl, hb, hg, _⟩
  · simp [Value.ownBlock] at hv
  · have e1 : g' = g := by simpa [Value.ownBlock] using hv
    subst e1
    exact (show Blk w g' e cur from hg).lt
theorem own_reads {w : World} {base : Nat} {e : TypeId} {size n : Nat} {v : Value} {xs : List Value} (h : w.ownsRow base e size v n xs) : ∃ A c, v = .slice A n c ∧ Reads w w.heap.size size A n xs ∧ (∀ a, A = some a → base ≤ a.block ∧ a.block < w.heap.size) := by
  obtain ⟨A, c, rfl, h1, h2⟩ := reads_of_owns h
  refine ⟨A, c, rfl, h1, fun a ha => ⟨(h2 a ha).1, ?_⟩⟩
  obtain ⟨b, off, spot⟩ := a
  obtain ⟨-, h4, h5⟩ := h2 _ ha
  have h4 : spot = none := h4
  have h5 : off = 0 := h5
  subst ha h4 h5
  exact own_lt h (by simp [Value.ownBlock])
theorem manyP_none {α : Type} {f : Nat → Option (α × Nat)} : ∀ (m i p : Nat), i ≤ m → manyP f i p = none → manyP f m p = none
  | 0, i, p, hi, h => by
    obtain rfl : i = 0 := by omega
    exact h
  | m + 1, i, p, hi, h => by
    rcases Nat.lt_or_ge m i with h1 | h1
    · obtain rfl : i = m + 1 := by omega
      exact h
    · rw [manyP_snoc, manyP_none m i p h1 h]
      rfl

structure IntsRel (w wr : World) (r : Nat) (A : Option Addr) (n c : Nat) (bs : List Nat) (q m i : Nat) (s : Option Nat) (xs : List Int) (v : Value) : Prop where
  le : i ≤ m
  len : xs.length = i
  st : (manyP (numP bs) i q).map (·.2) = s
  xs_ : ∀ z, manyP (numP bs) i q = some z → z.1 = xs
  own : wr.ownsRow w.heap.size 3 1 v i (xs.map (Value.int .i64))
  mid : LMid w wr r A n c bs s
theorem IntsRel.step {w wr w2 : World} {r n c q m i : Nat} {A : Option Addr} {bs : List Nat} {s : Option Nat} {xs : List Int} {v v2 : Value} {a : Int} (h : IntsRel w wr r A n c bs q m i s xs v) (him : i < m) (ka : ∀ y, s.bind (numP bs) = some y → y.1 = a)
    (hown : w2.ownsRow w.heap.size 3 1 v2 (i + 1) (xs.map (Value.int .i64) ++ [.int .i64 a])) (hm : LMid w w2 r A n c bs ((s.bind (numP bs)).map (·.2))) : IntsRel w w2 r A n c bs q m (i + 1) ((s.bind (numP bs)).map (·.2)) (xs ++ [a]) v2 := by
  refine ⟨him, by rw [List.length_append, h.len]; rfl, ?_, fun z hz => ?_, by rw [List.map_append]; exact hown, hm⟩
  · rw [manyP_snoc, ← h.st]
    cases manyP (numP bs) i q with
    | none => rfl
    | some y =>
      show ((numP bs y.2).map _).map _ = (numP bs y.2).map _
      cases numP bs y.2 <;> rfl
  · rw [manyP_snoc] at hz
    obtain ⟨y, hy, hz⟩ := Option.bind_eq_some_iff.1 hz
    obtain ⟨x, hx, rfl⟩ := Option.map_eq_some_iff.1 hz
    have e1 := h.xs_ y hy
    have e2 := h.st
    rw [hy] at e2
    have e3 := ka x (by rw [← e2]; exact hx)
    rw [e1, e3]
theorem IntsRel.done {w wr : World} {r n c q m i : Nat} {A : Option Addr} {bs : List Nat} {s : Option Nat} {xs : List Int} {v : Value} {o : Option (List Int × Nat)} (h : IntsRel w wr r A n c bs q m i s xs v) (he : i = m ∨ s = none) (ho : o = manyP (numP bs) m q) : IntsPost w r A n c o (.returned v) wr := by
  obtain ⟨B, cc, rfl, hr, hB⟩ := own_reads h.own
  have hlen := h.len
  have key : (∀ z, o = some z → z.1 = xs) ∧ o.map (·.2) = s := by
    rcases he with rfl | he
    · rw [ho]; exact ⟨h.xs_, h.st⟩
    · have h1 : manyP (numP bs) i q = none := by
        have := h.st
        rw [he] at this
        simpa using this
      rw [ho, manyP_none m i q h.le h1, he]
      exact ⟨(fun z hz => by cases hz), rfl⟩
  subst hlen
  refine ⟨B, cc, xs, rfl, key.1, hr, hB, ?_, h.mid.gr⟩
  rw [key.2]
  exact h.mid.rd
theorem int_info : (Try.prog.info? 3).map (fun i => (i.zero, i.size, i.bytes)) = some (some (.int .i64 0), 1, 8) := by kernel_rfl
theorem bad_count {α : Type} {f : Nat → Option (α × Nat)} {bs : List Nat} {s : Option Nat} (h : (s.bind (numP bs)).map (·.2) = none) : s.bind (listP f bs) = none := by
  rcases s with _ | p
  · rfl
  · simp only [Option.bind_some, Option.map_eq_none_iff] at h
    show listP f bs p = none
    unfold listP countP
    rw [h]
    rfl
theorem count_of {α : Type} {f : Nat → Option (α × Nat)} {bs : List Nat} {s : Option Nat} {q : Nat} {a : Int} (h : (s.bind (numP bs)).map (·.2) = some q) (k : ∀ y, s.bind (numP bs) = some y → y.1 = a) :
    s.bind (listP f bs) = if a < 0 ∨ (bs.length : Int) - q < a then none else manyP f a.toNat q := by
  rcases s with _ | p
  · cases h
  · obtain ⟨y, hy, rfl⟩ := Option.map_eq_some_iff.1 h
    rw [← k y hy]
    simp only [Option.bind_some] at hy
    show listP f bs p = _
    unfold listP countP
    rw [hy]
    show Option.bind (if _ then _ else _) _ = _
    split
    · rfl
    · rfl
theorem map_none {α β : Type} {f : α → β} {o : Option α} (h : o = none) : o.map f = none := by rw [h]; rfl

set_option maxRecDepth 100000 in
set_option maxHeartbeats 1000000 in
theorem ints_any {w : World} {r n c : Nat} {A : Option Addr} {bs : List Nat} {s : Option Nat} (h : Rd w r A n c s) (hi : RdIn w r A n c bs) :
    Calls Try.prog 46 #[.pointer (some ⟨r, 0, none⟩), .func (.func 30) #[.pointer (some ⟨r, 0, none⟩)] #[]] w (IntsPost w r A n c (s.bind (listP (numP bs) bs))) := by
  have hl := hi.len
  have hn := hi.hn
  have L0 := Lib.hid (⟨h, hi, World.grownBy.refl w _, h.lt⟩ : LMid w w r A n c bs s)
  clear h hi
  go_enter Try.func46, Try.ntmps46
  go_wp2_with fail
  refine (number_any (L0.out).rd (L0.out).inn).mono ?_
  rintro e w1 ⟨a, rfl, K1, hrd, hg⟩
  replace K1 := Lib.hid K1
  have L1 := Lib.hid ((L0.out).next hrd hg)
  clear hrd hg L0
  generalize hs1 : (Option.map (fun x => x.snd) (s.bind (numP bs))) = s1 at L1
  rcases s1 with _ | q
  · obtain ⟨z1, hb1⟩ := (L1.out).rd
    have c2 := hb1.cell 2
    have f2 := hb1.frozen 2
    simp at c2
    have HB := Lib.hid hb1
    have HS := Lib.hid hs1
    clear hb1 hs1 hl
    go_wp2_with fail
    go_quiet (fail)
    go_wp2_with fail
    go_ret
    rw [bad_count (HS.out)]
    exact ⟨none, 0, [], rfl, (fun z hz => by cases hz), Reads.none_, (fun ad h => by cases h), ⟨_, ((HB.out).drewN _).set_ 2 _⟩, only_setCell (only_drewN (L1.out).gr _) (.inl rfl) _⟩
  · obtain ⟨hb1, hq⟩ := (L1.out).rd
    have hcnt := count_of (f := numP bs) hs1 (K1.out)
    have c0 := hb1.cell 0
    have c1 := hb1.cell 1
    have c2 := hb1.cell 2
    have f2 := hb1.frozen 2
    simp at c0 c1 c2
    have HB := Lib.hid hb1
    clear hb1 hs1 K1
    by_cases hbad : a < 0 ∨ (bs.length : Int) - q < a
    · rw [if_pos hbad] at hcnt
      replace hcnt := Lib.hid hcnt
      rw [hl] at hbad
      have hd : (decide (a < 0) = true) ∨ (decide (a < 0) = false ∧ decide ((n : Int) - q < a) = true) := by simp; omega
      clear hl
      rcases hd with d1 | ⟨d1, d2⟩
      all_goals
        go_wp2_with fail
        go_quiet (fail)
        go_wp2_with fail
        go_ret
        rw [hcnt.out]
        exact ⟨none, 0, [], rfl, (fun z hz => by cases hz), Reads.none_, (fun ad h => by cases h), ⟨_, ((HB.out).drewN _).set_ 2 _⟩, only_setCell (only_drewN (L1.out).gr _) (.inl rfl) _⟩
    · rw [if_neg hbad] at hcnt
      rw [hl] at hbad
      obtain ⟨m, rfl⟩ := Int.eq_ofNat_of_zero_le (show 0 ≤ a by omega)
      have d1 : decide ((m : Int) < 0) = false := by simp
      have d2 : decide ((n : Int) - q < (m : Int)) = false := by simp; omega
      have hm : m ≤ 1000000000 := by omega
      rw [Int.toNat_natCast] at hcnt
      replace hcnt := Lib.hid hcnt
      clear hl hbad
      obtain ⟨i0, hi0, hz0, hz1, hz2⟩ := info_parts int_info
      have R0 : Hid (∀ nq, IntsRel w (w1.drewN nq) r A n c bs q m 0 (some q) [] (.slice none 0 0)) := fun nq =>
        ⟨Nat.zero_le _, rfl, rfl, (fun z hz => by injection hz with hz; rw [← hz]), ⟨rfl, .inl ⟨rfl, rfl⟩⟩, (L1.out).drewN nq⟩
      clear L1 HB
      go_wp2_with fail
      go_quiet (fail)
      go_wp2_with fail
      clear c0 c1 c2 f2 d1 d2
      clear hq
      go_loopw [6, 7] (fun v iv wr => ∃ (i : Nat) (s' : Option Nat) (xs : List Int), iv = .int .i64 (i : Int) ∧ IntsRel w wr r A n c bs q m i s' xs v) (fun _ iv _ => ((m : Int) - intOf iv).toNat)
      case atStart => exact ⟨0, some q, [], rfl, (R0.out) nq⟩
      case round =>
        obtain ⟨i, s', xs, rfl, hR⟩ := hrel
        have HR := Lib.hid hR
        have hle := hR.le
        clear hR R0
        by_cases him : i < m
        · have dim : decide ((i : Int) < (m : Int)) = true := by simp; omega
          rcases s' with _ | p
          · obtain ⟨z1, hb1⟩ := (HR.out).mid.rd
            have c2 := hb1.cell 2
            simp at c2
            clear hb1
            go_wp2_with fail
            go_ret
            exact (HR.out).done (.inr rfl) (hcnt.out)
          · have hb1 := (HR.out).mid.rd.1
            have c2 := hb1.cell 2
            simp at c2
            clear hb1
            go_wp2_with fail
            refine (number_any (HR.out).mid.rd (HR.out).mid.inn).mono ?_
            rintro e w2 ⟨a, rfl, K2, hrd, hg⟩
            replace K2 := Lib.hid K2
            have L2 := Lib.hid ((HR.out).mid.next hrd hg)
            have O2 := Lib.hid ((HR.out).own.kept hg (.inr (own_ne (HR.out).own (HR.out).mid.old)))
            have hs2 := (L2.out).gr.size
            clear hrd hg c2
            go_wp2_with (at_builtin; refine wpList_append_row _ rfl (.tmp 47) (.tmp 50) 33 33 rfl w.heap.size 3 i0 (.int .i64 0) 1 8 Try.underlying33 hi0 hz0 hz1 hz2 rfl (by decide) _ _ _ rfl ((O2.out).alloc _) _ 1 _ rfl (src_new _ Try.underlying33 [_] 1 1 1 3 rfl (fun u hu => by simp at hu; subst hu; rfl)) (by unfold maxLen; omega) (by omega) (by simp; omega) ?_)
            intro v3 w3 hown3 hg3
            have R3 := Lib.hid ((HR.out).step him (K2.out) hown3 (((L2.out).alloc _).grows hg3 (fun g hv => own_ge (O2.out) hv)))
            clear hown3 hg3 hs2
            go_wp2_with fail
            go_roundw
            case rel => exact ⟨i + 1, _, _, by go_num, R3.out⟩
            case measure => simp [intOf]; omega
        · have dim : decide ((i : Int) < (m : Int)) = false := by simp; omega
          go_wp2_with fail
          go_ret
          exact (HR.out).done (.inl (by omega)) (hcnt.out)
end Go.Proofs.Ytnnclopojiegfaa
