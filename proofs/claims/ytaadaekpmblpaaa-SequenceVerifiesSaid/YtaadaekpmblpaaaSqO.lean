/-
  proper: the law's arguments that are made of numbers, the walk. No condition.
-/
import Derived.Test.YtaadaekpmblpaaaSqN
namespace Go.Proofs.Ytaadaekpmblpaaa
open Go.RowKit
set_option linter.unusedVariables false

/-- the row add, so far -/
structure AddSt (w wr : World) (d B : Nat) (v : Value) (l : List Int) : Prop where
  dice : Dice wr d
  own : wr.ownsRow B 3 1 v l.length (ints l)
  bel : Below w.heap.size w wr
  dB : d < B
  wd : w.heap.size ≤ d
  Bs : B ≤ wr.heap.size
  ins : inside 0 8 l = true
theorem AddSt.next {w wr w1 : World} {d B : Nat} {v : Value} {l : List Int} (h : AddSt w wr d B v l) (hd : Dice w1 d) (hg : wr.grownBy w1 (some d)) (hs : w1.heap.size = wr.heap.size) : AddSt w w1 d B v l := by
  have hdB := h.dB
  have hwd := h.wd
  refine ⟨hd, h.own.kept hg ?_, h.bel.grown hg h.bel.size (fun g e => by injection e with e; omega), h.dB, h.wd, by have := h.Bs; omega, h.ins⟩
  cases hb : v.ownBlock with
  | none => exact .inl rfl
  | some g => exact .inr (fun e => by injection e with e; have := own_from h.own g hb; omega)
theorem AddSt.push {w wr w3 : World} {d B : Nat} {v v' : Value} {l : List Int} {x : Int} {o : Obj} (h : AddSt w wr d B v l) (hg : Grows (wr.alloc o) w3 v v') (ho : w3.ownsRow B 3 1 v' (l.length + 1) (ints l ++ [.int .i64 x])) (h1 : 0 ≤ x) (h2 : x < 6) : AddSt w w3 d B v' (l ++ [x]) := by
  have hdB := h.dB
  have hwd := h.wd
  have hge := own_from h.own
  rw [ints_snoc] at ho
  have hs := hg.size
  refine ⟨(h.dice.grown (World.grownBy_alloc wr o none) (fun g e => by cases e)).grown hg.grown (fun g e => by have := hge g e; omega), by simpa using ho, (h.bel.alloc h.bel.size o).grown hg.grown (by have := h.bel.size; simp; omega) (fun g e => by have := hge g e; omega), h.dB, h.wd, by have := h.Bs; simp at hs; omega, inside_snoc h.ins h1 (by omega)⟩
theorem AddSt.made {w wr : World} {d B : Nat} {v : Value} {l : List Int} (h : AddSt w wr d B v l) (m : Nat) : MkSt w (wr.alloc (.cells (Array.replicate m (Value.slice none 0 0)) 22)) d wr.heap.size B ((v, l) :: (.slice none 0 0, []) :: List.replicate m (.slice none 0 0, [])) := by
  have hs := h.bel.size
  have hd := h.dice
  refine ⟨h.dice.grown (World.grownBy_alloc wr _ none) (fun g e => by cases e), ?_, ?_, h.bel.alloc hs _, h.dB, h.wd, ?_, by have := h.Bs; simp; omega⟩
  · have hst := Own.start (wr.alloc (.cells (Array.replicate m (Value.slice none 0 0)) 22)) B 3 (m + 2)
    have hp := h.own.alloc (.cells (Array.replicate m (Value.slice none 0 0)) 22)
    refine ⟨fun k p hk => ?_, fun i j p q g hij hi hj hpg hqg => ?_⟩
    · cases k with
      | zero => simp at hk; subst hk; simpa [ints_len] using hp
      | succ k => exact hst.own (k + 1) p (by simpa [List.replicate_succ, ints] using hk)
    · cases i with
      | succ i =>
        have := hst.own (i + 1) p (by simpa [List.replicate_succ, ints] using hi)
        have hp0 : p = (.slice none 0 0, []) := by
          have hm := List.mem_of_getElem? hi
          simp [ints] at hi
          cases i with
          | zero => simpa using hi.symm
          | succ i =>
            simp [List.getElem?_replicate] at hi
            exact hi.2.symm
        rw [hp0] at hpg
        simp [Value.ownBlock] at hpg
      | zero =>
        cases j with
        | zero => exact hij rfl
        | succ j =>
          have hp0 : q = (.slice none 0 0, []) := by
            simp [ints] at hj
            cases j with
            | zero => simpa using hj.symm
            | succ j =>
              simp [List.getElem?_replicate] at hj
              exact hj.2.symm
          rw [hp0] at hqg
          simp [Value.ownBlock] at hqg
  · have := Blk.new wr 22 (Array.replicate m (Value.slice none 0 0))
    simpa using this
  · obtain ⟨cs, hb⟩ := hd.blk
    exact hb.lt
theorem start_add {w w1 : World} {d : Nat} (hd : Dice w1 d) (hb : Below w.heap.size w w1) (h1 : w.heap.size ≤ d) (h2 : d < w1.heap.size) : AddSt w w1 d w1.heap.size (.slice none 0 0) [] :=
  ⟨hd, owns_nil w1 _ 3, hb, h2, h1, Nat.le_refl _, by simp [inside]⟩

theorem wrap_in {x : Int} (h1 : -9223372036854775808 ≤ x) (h2 : x ≤ 9223372036854775807) : IntKind.i64.wrap x = x := by rw [IntKind.wrap_i64]; omega

set_option maxRecDepth 100000 in
set_option maxHeartbeats 8000000 in
theorem lawProper_any (m n : Nat) (A : Option Addr) (nl c : Nat) (l : List Int) (w : World) (hm : m ≤ 9) (hn : n ≤ 9) (hnl : nl ≤ 1000) (hr : Ints w w.heap.size A nl l) (hl : ∀ x ∈ l, inI64 x) :
    Calls Try.prog 15 #[.int .i64 (m : Int), .int .i64 (n : Int), .slice A nl c] w (PropPost w m n) := by
  have HR := Lib.hid (roll_any A nl c l w hnl hr hl)
  obtain ⟨i0, hi, hz0, hz1, hz2⟩ := info_parts i64_info
  have HI := Lib.hid hi
  have HZ0 := Lib.hid hz0
  have HZ1 := Lib.hid hz1
  have HZ2 := Lib.hid hz2
  have mk1 := make_rows m (by omega)
  clear hr hl hi hz0 hz1 hz2
  go_enter Try.func15, Try.ntmps15
  go_wp2_with fail
  refine (HR.out).mono ?_
  rintro e w1 ⟨d, rfl, hd, hd1, hd2, hb1⟩
  have HA0 := Lib.hid (start_add hd hb1 hd1 hd2)
  clear hd hb1 HR
  go_wp2_with fail
  go_loopw [11, 12] (fun v s wr => ∃ (j : Nat) (la : List Int), j ≤ n ∧ s = .int .i64 (j : Int) ∧ Hid (AddSt w wr d w1.heap.size v la) ∧ Hid (la.length = j)) (fun _ s _ => n - (intOf s).toNat)
  case atStart => exact ⟨0, [], by omega, rfl, HA0, rfl⟩
  case round =>
    clear HA0
    obtain ⟨j, la, hj, rfl, HA, HL⟩ := hrel
    by_cases hlt : j < n
    · have HN := Lib.hid (next_any d 6 wr HA.out.dice (by omega) (by omega))
      go_wp2_with fail
      refine (HN.out).mono ?_
      rintro e w2 ⟨x, rfl, hx0, hx1, hdice, hgr, hsz⟩
      have HA2 := Lib.hid (HA.out.next hdice hgr hsz)
      have HO2 := Lib.hid (HA2.out.own)
      have hBs := HA2.out.Bs
      have hla : la.length ≤ 9 := by have := HL.out; omega
      clear hdice hgr hsz HA HN
      go_wp2_with (at_builtin; refine wpList_append_row _ rfl (.tmp 23) (.tmp 26) 22 22 rfl w1.heap.size 3 i0 (.int .i64 0) 1 8 Try.underlying22 HI.out HZ0.out HZ1.out HZ2.out rfl (by decide) _ la.length (ints la) rfl (HO2.out.alloc _) (.slice (some ⟨w2.heap.size, 0, none⟩) 1 1) 1 [.int .i64 x] rfl (src_new w2 Try.underlying22 [.int .i64 x] 1 1 1 3 rfl ?c4) ?c1 ?c2 ?c3 ?_)
      case c4 => intro u hu; simp at hu; subst hu; rfl
      case c1 => unfold maxLen; omega
      case c2 => omega
      case c3 => simp; omega
      intro v3 w3 hown3 hg3
      have HA3 := Lib.hid (HA2.out.push hg3 hown3 hx0 hx1)
      clear hown3 hg3 HA2 HO2
      go_wp2_with fail
      go_roundw
      case rel => exact ⟨j + 1, _, by omega, by go_num, HA3, by show _ = _; rw [List.length_append, HL.out]; rfl⟩
      case measure => simp [intOf] <;> omega
    · have hjn : j = n := by omega
      obtain ⟨wq, rfl⟩ : ∃ wq : World, wq = wr := ⟨_, rfl⟩
      have HM0 := Lib.hid (HA.out.made m)
      have HIA := Lib.hid (HA.out.ins)
      have HLN : Hid (la.length = n) := by show la.length = n; rw [HL.out, hjn]
      clear HA HL hjn
      go_wp2_with fail
      go_loopw [10, 14] (fun vd s wr => ∃ (i : Nat) (ld : List Int) (rws : List (Value × List Int)), i ≤ m ∧ s = .int .i64 (i : Int) ∧ Hid (MkSt w wr d wq.heap.size w1.heap.size ((u11, la) :: (vd, ld) :: rws)) ∧ Hid (Rw n i 0 rws) ∧ Hid (rws.length = m) ∧ Hid (ld.length = i) ∧ Hid (inside 0 8 ld = true)) (fun _ s _ => m - (intOf s).toNat)
      case atStart => exact ⟨0, [], _, by omega, rfl, HM0, Rw.start m n, by show _ = _; simp, rfl, by show _ = _; simp [inside]⟩
      case round =>
        clear HM0
        obtain ⟨i, ld, rws, hi, rfl, HM, HRW, HLR, HLD, HID⟩ := hrel
        by_cases hit : i < m
        · have HN := Lib.hid (next_any d 6 wr HM.out.dice (by omega) (by omega))
          go_wp2_with fail
          refine (HN.out).mono ?_
          rintro e w2 ⟨x, rfl, hx0, hx1, hdice, hgr, hsz⟩
          have HM2 := Lib.hid (HM.out.next hdice hgr)
          have HO2 := Lib.hid (HM2.out.at_ (k := 1) rfl)
          have hBs := HM2.out.Bs
          have hld : ld.length ≤ 9 := by have := HLD.out; omega
          clear hdice hgr hsz HM HN
          go_wp2_with (at_builtin; refine wpList_append_row _ rfl (.tmp 35) (.tmp 38) 22 22 rfl w1.heap.size 3 i0 (.int .i64 0) 1 8 Try.underlying22 HI.out HZ0.out HZ1.out HZ2.out rfl (by decide) _ ld.length (ints ld) rfl (HO2.out.alloc _) (.slice (some ⟨w2.heap.size, 0, none⟩) 1 1) 1 [.int .i64 x] rfl (src_new w2 Try.underlying22 [.int .i64 x] 1 1 1 3 rfl ?d4) ?d1 ?d2 ?d3 ?_)
          case d4 => intro u hu; simp at hu; subst hu; rfl
          case d1 => unfold maxLen; omega
          case d2 => omega
          case d3 => simp; omega
          intro v3 w3 hown3 hg3
          have HM3 : Hid (MkSt w w3 d wq.heap.size w1.heap.size ((u11, la) :: (v3, ld ++ [x]) :: rws)) := (HM2.out.alloc _).push1 rfl hg3 hown3
          have HID3 : Hid (inside 0 8 (ld ++ [x]) = true) := inside_snoc HID.out hx0 (by omega)
          clear hown3 hg3 HM2 HO2 hBs
          go_wp2_with fail
          go_loopw [15] (fun s wr => ∃ (j : Nat) (rws : List (Value × List Int)), j ≤ n ∧ s = .int .i64 (j : Int) ∧ Hid (MkSt w wr d wq.heap.size w1.heap.size ((u11, la) :: (v3, ld ++ [x]) :: rws)) ∧ Hid (Rw n i j rws) ∧ Hid (rws.length = m)) (fun s _ => n - (intOf s).toNat)
          case atStart => exact ⟨0, rws, by omega, rfl, HM3, HRW, HLR⟩
          case round =>
            clear HM3 HRW HLR
            obtain ⟨j', rws', hj', rfl, HM, HRW, HLR⟩ := hrel
            by_cases hjt : j' < n
            · obtain ⟨⟨v, lr⟩, hp⟩ : ∃ p, rws'[i]? = some p := ⟨_, List.getElem?_eq_getElem (by rw [HLR.out]; exact hit)⟩
              have HP : Hid (((u11, la) :: (v3, ld ++ [x]) :: rws')[i + 2]? = some (v, lr)) := hp
              have hlr : lr.length = j' := ((HRW.out i _ hp).2.1 rfl).1
              have hlr9 : lr.length ≤ 9 := by omega
              have HPR := Lib.hid hp
              have hc0 := HM.out.cell HP.out
              have hf0 := HM.out.frozen i
              have HN := Lib.hid (next_any d 10 wr.drew HM.out.drew.dice (by omega) (by omega))
              have HLRJ := Lib.hid hlr
              clear hp hlr
              go_wp2_with fail
              go_region_law (first
                | (refine step_call rfl 27 _ _ rfl Try.func27 (by kernel_rfl) (by kernel_rfl) #[.pointer (some ⟨d, 0, none⟩), .int .i64 10] (by simp [Act.eval, Act.put]) HN.out ?_; rintro e w4 ⟨y, rfl, hy0, hy1, hdice, hgr, hsz⟩; refine ⟨_, rfl, ?_⟩; have HM4 := Lib.hid (HM.out.drew.next hdice hgr); have hc4 := HM4.out.cell HP.out; have hB4 := HM4.out.Bs; have HO4 := Lib.hid (HM4.out.at_ HP.out); have hg4 : wq.heap.size < w4.heap.size := HM4.out.head.lt; have hwr : IntKind.i64.wrap (y - 1) = y - 1 := wrap_in (by omega) (by omega); clear hdice hgr hsz)
                | (clear hwr; refine step_append_row _ rfl (.tmp 50) (.tmp 54) 22 22 rfl w1.heap.size 3 i0 (.int .i64 0) 1 8 Try.underlying22 HI.out HZ0.out HZ1.out HZ2.out rfl (by decide) v lr.length (ints lr) (by simp [Act.eval]) (HO4.out.alloc _) (.slice (some ⟨w4.heap.size, 0, none⟩) 1 1) 1 [.int .i64 (y - 1)] (by simp [Act.eval]) (src_new w4 Try.underlying22 [.int .i64 (y - 1)] 1 1 1 3 rfl (by intro u hu; simp at hu; subst hu; rfl)) (by unfold maxLen; omega) (by omega) (by simp; omega) ?_; intro v5 w5 hown5 hg5; obtain ⟨A5, c5, rfl, -, -⟩ := reads_of_owns hown5; have hb5 := hg5.blk (HM4.out.alloc _).head (fun e => ((HM4.out.ge HP.out) _ e).2 rfl); have hf5 := hb5.frozen i; have hc5 : ∃ u, w5.cell? ⟨wq.heap.size, i, none⟩ = some u := ⟨v, by rw [hb5.cell, ← HM4.out.head.cell]; exact hc4⟩; obtain ⟨u5, hc5⟩ := hc5; have HM5 := Lib.hid ((HM4.out.alloc _).push2 HP.out hg5 hown5); clear hown5 hg5 hb5))
              all_goals
                go_wp2_with fail
                go_roundw
                case rel => exact ⟨j' + 1, rws'.set i (.slice A5 (lr.length + 1) c5, lr ++ [y - 1]), by omega, by go_num, HM5, HRW.out.push HPR.out (by omega) (by omega), by show _ = _; rw [List.length_set]; exact HLR.out⟩
                case measure => simp [intOf] <;> omega
            · have HS : Hid (Rw n (i + 1) 0 rws') := by
                have h := HRW.out
                rw [show j' = n by omega] at h
                exact h.row
              go_wp2_with fail
              go_roundw
              case rel => exact ⟨i + 1, _, _, by omega, by go_num, HM, HS, HLR, by show _ = _; rw [List.length_append, HLD.out]; rfl, HID3⟩
              case measure => simp [intOf] <;> omega
        · have HE := Lib.hid (prop_end HM.out (by omega) (by omega) (by have h := HRW.out; rw [show i = m by omega] at h; exact h) HLR.out HLN.out (by rw [HLD.out]; omega) HIA.out HID.out)
          clear HM HRW HLR
          go_wp2_with fail
          go_ret3
          exact HE.out
end Go.Proofs.Ytaadaekpmblpaaa
