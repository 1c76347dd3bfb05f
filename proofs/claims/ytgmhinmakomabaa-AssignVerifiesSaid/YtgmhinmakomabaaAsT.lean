/-
  The law's matrix: a matrix of one's own, made of numbers from 0 to 11. No condition.
-/
import Derived.Test.YtgmhinmakomabaaAsX
import Derived.Test.YtgmhinmakomabaaOwn
import Derived.Deep.RegionLaw
namespace Go.Proofs.Ytgmhinmakomabaa
open Go.RowKit
set_option linter.unusedVariables false

def ints (l : List Int) : List Value := l.map (Value.int .i64)
theorem ints_len (l : List Int) : (ints l).length = l.length := by simp [ints]
theorem ints_snoc (l : List Int) (x : Int) : ints l ++ [.int .i64 x] = ints (l ++ [x]) := by simp [ints]
theorem Dice.grown {w w' : World} {d : Nat} {row : Option Nat} (h : Dice w d) (hg : w.grownBy w' row) (hr : ∀ g, row = some g → d < g) : Dice w' d := by
  obtain ⟨A, n, c, k, l, hb, hi, h1, h2, h3⟩ := h
  refine ⟨A, n, c, k, l, hb.grown hg (fun e => by have := hr d e.symm; omega), ?_, h1, h2, h3⟩
  exact hi.grown hg (Nat.le_of_lt hb.lt) (fun g hg' => Nat.le_of_lt (hr g hg'))
theorem Dice.blk {w : World} {d : Nat} (h : Dice w d) : ∃ cs, Blk w d 64 cs := by
  obtain ⟨A, n, c, k, l, hb, _⟩ := h
  exact ⟨_, hb⟩

/-- the rows of a matrix that grows; block gc has their heads -/
structure MxSt (w wr : World) (d gc B : Nat) (vs : List (Value × List Int)) : Prop where
  dice : Dice wr d
  own : Own wr B 3 (vs.map fun p => (p.1, ints p.2))
  head : Blk wr gc 25 (vs.map (·.1)).toArray
  bel : Below w.heap.size w wr
  dB : d < B
  wd : w.heap.size ≤ d
  dg : d < gc
  Bs : B ≤ wr.heap.size
section
variable {w wr w1 w3 : World} {d gc B : Nat} {vs : List (Value × List Int)}
theorem MxSt.start (hd : Dice w1 d) (hb : Below w.heap.size w w1) (h1 : w.heap.size ≤ d) (h2 : d < w1.heap.size) (n : Nat) : MxSt w (w1.alloc (.cells (Array.replicate n (.slice none 0 0)) 25)) d w1.heap.size w1.heap.size (List.replicate n (.slice none 0 0, [])) := by
  refine ⟨hd.grown (World.grownBy_alloc w1 _ none) (fun g e => by cases e), ?_, ?_, hb.alloc hb.size _, h2, h1, h2, by simp⟩
  · have := Own.start (w1.alloc (.cells (Array.replicate n (.slice none 0 0)) 25)) w1.heap.size 3 n
    simpa [List.map_replicate, ints] using this
  · have := Blk.new w1 25 (Array.replicate n (Value.slice none 0 0))
    simpa [List.map_replicate] using this
theorem MxSt.drew (h : MxSt w wr d gc B vs) : MxSt w wr.drew d gc B vs := ⟨h.dice, h.own.drew, h.head, below_drewN h.bel 1, h.dB, h.wd, h.dg, h.Bs⟩
theorem MxSt.next (h : MxSt w wr d gc B vs) (hd : Dice w1 d) (hg : wr.grownBy w1 (some d)) : MxSt w w1 d gc B vs := by
  obtain ⟨cs, hb⟩ := h.dice.blk
  have hdg := h.dg
  have hwd := h.wd
  exact ⟨hd, h.own.blk hb (by decide) hg, h.head.grown hg (fun e => by injection e with e; omega), h.bel.grown hg h.bel.size (fun g e => by injection e with e; omega), h.dB, h.wd, h.dg, Nat.le_trans h.Bs hg.size⟩
theorem MxSt.alloc (h : MxSt w wr d gc B vs) (o : Obj) : MxSt w (wr.alloc o) d gc B vs := by
  have hs := h.bel.size
  exact ⟨h.dice.grown (World.grownBy_alloc wr o none) (fun g e => by cases e), h.own.alloc o, h.head.alloc o, h.bel.alloc hs o, h.dB, h.wd, h.dg, by have := h.Bs; simp; omega⟩
theorem MxSt.at_ (h : MxSt w wr d gc B vs) {k : Nat} {v : Value} {l : List Int} (hk : vs[k]? = some (v, l)) : wr.ownsRow B 3 1 v l.length (ints l) := by
  have := h.own.own k (v, ints l) (by rw [List.getElem?_map, hk]; rfl)
  rwa [ints_len] at this
theorem MxSt.ge (h : MxSt w wr d gc B vs) {k : Nat} {v : Value} {l : List Int} (hk : vs[k]? = some (v, l)) : ∀ g, v.ownBlock = some g → d < g ∧ g ≠ gc := fun g hg => by
  have h1 := own_from (h.at_ hk) g hg
  have h2 := h.dB
  exact ⟨by omega, fun e => own_blk_ne (h.at_ hk) h.head (by decide) (e ▸ hg)⟩
/-- a row has grown, and its head is stored -/
theorem MxSt.push (h : MxSt w wr d gc B vs) {i : Nat} {v v' : Value} {l : List Int} {x : Int} (hk : vs[i]? = some (v, l)) (hg : Grows wr w3 v v') (ho : w3.ownsRow B 3 1 v' (l.length + 1) (ints l ++ [.int .i64 x])) : MxSt w (w3.setCell ⟨gc, i, none⟩ v') d gc B (vs.set i (v', l ++ [x])) := by
  have hge := h.ge hk
  rw [ints_snoc] at ho
  have hwd := h.wd
  have hdg := h.dg
  have hb3 : Blk w3 gc 25 (vs.map (·.1)).toArray := hg.blk h.head (fun e => (hge gc e).2 rfl)
  have hgs : w3.grownBy (w3.setCell ⟨gc, i, none⟩ v') (some gc) := only_setCell (World.grownBy.refl _ _) (.inl rfl) _
  refine ⟨(h.dice.grown hg.grown (fun g e => (hge g e).1)).grown hgs (fun g e => by injection e with e; omega), ?_, ?_, (h.bel.grown hg.grown h.bel.size (fun g e => by have := (hge g e).1; omega)).setCell (by show w.heap.size ≤ gc; omega) _, h.dB, h.wd, h.dg, by have h1 := h.Bs; have h2 := hg.size; simp [World.setCell]; omega⟩
  · rw [List.map_set]
    refine Own.blk (h.own.push (xs := ints l) (by rw [List.getElem?_map, hk]; rfl) hg ?_) hb3 (by decide) hgs
    rw [ints_len]; simpa using ho
  · have h1 := hb3.set_ i v'
    rw [List.setIfInBounds_toArray, ← List.map_set (f := (·.1)) (a := (v', l ++ [x]))] at h1
    exact h1
theorem MxSt.cell (h : MxSt w wr d gc B vs) {i : Nat} {v : Value} {l : List Int} (hk : vs[i]? = some (v, l)) : wr.cell? ⟨gc, i, none⟩ = some v := by
  rw [h.head.cell]
  simp [hk]
theorem MxSt.frozen (h : MxSt w wr d gc B vs) (i : Nat) : wr.frozen? ⟨gc, i, none⟩ = false := h.head.frozen i
end

/-- the rows before place (i, j) -/
def Rw (n i j : Nat) (rws : List (Value × List Int)) : Prop := ∀ (k : Nat) p, rws[k]? = some p → (k < i → p.2.length = n ∧ inside 0 11 p.2 = true) ∧ (k = i → p.2.length = j ∧ inside 0 11 p.2 = true) ∧ (i < k → p.2 = [])
theorem Rw.start (m n : Nat) : Rw n 0 0 (List.replicate m (.slice none 0 0, [])) := fun k p h => by
  obtain ⟨hk, rfl⟩ := List.getElem?_eq_some_iff.1 h
  simp [inside]
theorem Rw.row {n i : Nat} {rws : List (Value × List Int)} (h : Rw n i n rws) : Rw n (i + 1) 0 rws := fun k p hk => by
  obtain ⟨h1, h2, h3⟩ := h k p hk
  refine ⟨fun hl => ?_, fun he => ?_, fun hl => h3 (by omega)⟩
  · by_cases e : k = i
    · exact h2 e
    · exact h1 (by omega)
  · rw [h3 (by omega)]; simp [inside]
theorem inside_snoc {lo hi : Int} {l : List Int} {x : Int} (h : inside lo hi l = true) (h1 : lo ≤ x) (h2 : x ≤ hi) : inside lo hi (l ++ [x]) = true := by
  unfold inside at *
  rw [List.all_append, h]
  simp [h1, h2]
theorem inside_mono {lo hi hi' : Int} {l : List Int} (h : inside lo hi l = true) (hh : hi ≤ hi') : inside lo hi' l = true := by
  unfold inside at *
  rw [List.all_eq_true] at *
  intro x hx
  have := h x hx
  simp at this ⊢
  omega
theorem Rw.push {n i j : Nat} {rws : List (Value × List Int)} (h : Rw n i j rws) {v v' : Value} {l : List Int} {x : Int} (hk : rws[i]? = some (v, l)) (h1 : 0 ≤ x) (h2 : x < 12) : Rw n i (j + 1) (rws.set i (v', l ++ [x])) := fun k p hk' => by
  rw [List.getElem?_set] at hk'
  by_cases e : i = k
  · subst e
    rw [if_pos rfl, if_pos (List.getElem?_eq_some_iff.1 hk).1] at hk'
    injection hk' with hk'
    subst hk'
    obtain ⟨_, h4, _⟩ := h i _ hk
    refine ⟨fun hl => absurd hl (by omega), fun _ => ⟨by simp [(h4 rfl).1], inside_snoc (h4 rfl).2 h1 (by omega)⟩, fun hl => absurd hl (by omega)⟩
  · rw [if_neg e] at hk'
    obtain ⟨h3, h4, h5⟩ := h k p hk'
    exact ⟨h3, fun he => absurd he.symm e, h5⟩

def MxPost (w : World) (n : Nat) (e : Ending) (w' : World) : Prop :=
  ∃ A m, e = .returned (.slice A n n) ∧ Mat w' w'.heap.size A n m ∧ m.length = n ∧ matB m = true ∧ Below w.heap.size w w'

theorem mx_end {w wr : World} {d gc B n : Nat} {rws : List (Value × List Int)} (h : MxSt w wr d gc B rws) (hn : n ≤ 40) (hr : Rw n n 0 rws) (hl : rws.length = n) :
    MxPost w n (.returned (.slice (some ⟨gc, 0, none⟩) n n)) wr := by
  have hrow : ∀ (k : Nat) p, rws[k]? = some p → p.2.length = n ∧ inside 0 11 p.2 = true := fun k p hk => (hr k p hk).1 (by rw [← hl]; exact (List.getElem?_eq_some_iff.1 hk).1)
  have hhead := h.head
  refine ⟨some ⟨gc, 0, none⟩, rws.map (·.2), rfl, ?_, by simp [hl], ?_, h.bel⟩
  · refine ⟨rws.map fun p => match p.1 with | .slice A n c => (A, n, c) | _ => (none, 0, 0), ⟨by simp [hl], fun _ => ⟨_, rfl, hhead.lt, fun j u hu => ?_⟩⟩, by simp, fun k hd' r h1 h2 => ?_⟩
    · rw [Addr.add_lit, Nat.zero_add, hhead.cell]
      rw [List.map_map, List.getElem?_map] at hu
      cases hj : rws[j]? with
      | none => rw [hj] at hu; cases hu
      | some p =>
        rw [hj] at hu
        simp at hu
        obtain ⟨A, c, hv, -, -⟩ := reads_of_owns (h.at_ (k := j) (v := p.1) (l := p.2) (by simpa using hj))
        rw [hv] at hu
        simp [hj, hv, ← hu, hdv]
    · rw [List.getElem?_map] at h1 h2
      cases hj : rws[k]? with
      | none => rw [hj] at h1; cases h1
      | some p =>
        rw [hj] at h1 h2
        simp at h1 h2
        obtain ⟨A, c, hv, hrd, -⟩ := reads_of_owns (h.at_ (k := k) (v := p.1) (l := p.2) (by simpa using hj))
        rw [hv] at h1
        simp at h1
        subst h1 h2
        exact hrd
  · unfold matB rowOk
    simp only [Bool.and_eq_true, decide_eq_true_eq, List.all_eq_true, List.length_map]
    refine ⟨by omega, fun r hr' => ?_⟩
    obtain ⟨p, hp, rfl⟩ := List.mem_map.1 hr'
    obtain ⟨k, hk⟩ := List.getElem?_of_mem hp
    obtain ⟨h1, h2⟩ := hrow k p hk
    exact ⟨by rw [h1, hl], inside_mono h2 (by decide)⟩

set_option maxRecDepth 100000 in
set_option maxHeartbeats 8000000 in
theorem lawMatrix_any (n : Nat) (A : Option Addr) (nl c : Nat) (l : List Int) (w : World) (hn : n ≤ 9) (hnl : nl ≤ 1000) (hr : Ints w w.heap.size A nl l) (hl : ∀ x ∈ l, inI64 x) :
    Calls Try.prog 15 #[.int .i64 (n : Int), .slice A nl c] w (MxPost w n) := by
  have HR := Lib.hid (roll_any A nl c l w hnl hr hl)
  obtain ⟨i0, hi, hz0, hz1, hz2⟩ := info_parts i64_info
  have HI := Lib.hid hi
  have HZ0 := Lib.hid hz0
  have HZ1 := Lib.hid hz1
  have HZ2 := Lib.hid hz2
  have mk1 := make_rows n (by omega)
  clear hr hl hi hz0 hz1 hz2
  go_enter Try.func15, Try.ntmps15
  go_wp2_with fail
  refine (HR.out).mono ?_
  rintro e w1 ⟨d, rfl, hd, hd1, hd2, hb1⟩
  have HM0 := Lib.hid (MxSt.start hd hb1 hd1 hd2 n)
  clear hd hb1 HR
  go_wp2_with fail
  go_loopw [7] (fun s wr => ∃ (i : Nat) (rws : List (Value × List Int)), i ≤ n ∧ s = .int .i64 (i : Int) ∧ Hid (MxSt w wr d w1.heap.size w1.heap.size rws) ∧ Hid (Rw n i 0 rws) ∧ Hid (rws.length = n)) (fun s _ => n - (intOf s).toNat)
  case atStart => exact ⟨0, _, by omega, rfl, HM0, Rw.start n n, by show _ = _; simp⟩
  case round =>
    clear HM0
    obtain ⟨i, rws, hi, rfl, HM, HRW, HLR⟩ := hrel
    by_cases hit : i < n
    · go_wp2_with fail
      go_loopw [8] (fun s wr => ∃ (j : Nat) (rws : List (Value × List Int)), j ≤ n ∧ s = .int .i64 (j : Int) ∧ Hid (MxSt w wr d w1.heap.size w1.heap.size rws) ∧ Hid (Rw n i j rws) ∧ Hid (rws.length = n)) (fun s _ => n - (intOf s).toNat)
      case atStart => exact ⟨0, rws, by omega, rfl, HM, HRW, HLR⟩
      case round =>
        clear HM HRW HLR
        obtain ⟨j', rws', hj', rfl, HM, HRW, HLR⟩ := hrel
        by_cases hjt : j' < n
        · obtain ⟨⟨v, lr⟩, hp⟩ : ∃ p, rws'[i]? = some p := ⟨_, List.getElem?_eq_getElem (by rw [HLR.out]; exact hit)⟩
          have HP : Hid (rws'[i]? = some (v, lr)) := hp
          have hlr : lr.length = j' := ((HRW.out i _ hp).2.1 rfl).1
          have hlr9 : lr.length ≤ 9 := by omega
          have hc0 := HM.out.cell HP.out
          have hf0 := HM.out.frozen i
          have HN := Lib.hid (next_any d 12 wr.drew HM.out.drew.dice (by omega) (by omega))
          have HLRJ := Lib.hid hlr
          clear hp hlr
          go_wp2_with fail
          go_region_law (first
            | (refine step_call rfl 29 _ _ rfl Try.func29 (by kernel_rfl) (by kernel_rfl) #[.pointer (some ⟨d, 0, none⟩), .int .i64 12] (by simp [Act.eval, Act.put]) HN.out ?_; rintro e w4 ⟨y, rfl, hy0, hy1, hdice, hgr, hsz⟩; refine ⟨_, rfl, ?_⟩; have HM4 := Lib.hid (HM.out.drew.next hdice hgr); have hc4 := HM4.out.cell HP.out; have hB4 := HM4.out.Bs; have HO4 := Lib.hid (HM4.out.at_ HP.out); have hg4 : w1.heap.size < w4.heap.size := HM4.out.head.lt; clear hdice hgr hsz)
            | (refine step_append_row _ rfl (.tmp 28) (.tmp 31) 25 25 rfl w1.heap.size 3 i0 (.int .i64 0) 1 8 Try.underlying25 HI.out HZ0.out HZ1.out HZ2.out rfl (by decide) v lr.length (ints lr) (by simp [Act.eval]) (HO4.out.alloc _) (.slice (some ⟨w4.heap.size, 0, none⟩) 1 1) 1 [.int .i64 y] (by simp [Act.eval]) (src_new w4 Try.underlying25 [.int .i64 y] 1 1 1 3 rfl (by intro u hu; simp at hu; subst hu; rfl)) (by unfold maxLen; omega) (by omega) (by simp; omega) ?_; intro v5 w5 hown5 hg5; obtain ⟨A5, c5, rfl, -, -⟩ := reads_of_owns hown5; have hb5 := hg5.blk (HM4.out.alloc _).head (fun e => ((HM4.out.ge HP.out) _ e).2 rfl); have hf5 := hb5.frozen i; have hc5 : ∃ u, w5.cell? ⟨w1.heap.size, i, none⟩ = some u := ⟨v, by rw [hb5.cell, ← HM4.out.head.cell]; exact hc4⟩; obtain ⟨u5, hc5⟩ := hc5; have HM5 := Lib.hid ((HM4.out.alloc _).push HP.out hg5 hown5); clear hown5 hg5 hb5))
          all_goals
            go_wp2_with fail
            go_roundw
            case rel => exact ⟨j' + 1, rws'.set i (.slice A5 (lr.length + 1) c5, lr ++ [y]), by omega, by go_num, HM5, HRW.out.push HP.out (by omega) (by omega), by show _ = _; rw [List.length_set]; exact HLR.out⟩
            case measure => simp [intOf] <;> omega
        · have HS : Hid (Rw n (i + 1) 0 rws') := by
            have h := HRW.out
            rw [show j' = n by omega] at h
            exact h.row
          go_wp2_with fail
          go_roundw
          case rel => exact ⟨i + 1, _, by omega, by go_num, HM, HS, HLR⟩
          case measure => simp [intOf] <;> omega
    · have HE := Lib.hid (mx_end HM.out (by omega) (by have h := HRW.out; rw [show i = n by omega] at h; exact h) HLR.out)
      clear HM HRW HLR
      go_wp2_with fail
      go_ret
      exact HE.out
end Go.Proofs.Ytgmhinmakomabaa
