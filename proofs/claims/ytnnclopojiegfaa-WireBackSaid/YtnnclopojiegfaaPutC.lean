/-
  What putCommit appends; what Commit and Commits return. No condition.
-/
import Derived.Test.YtnnclopojiegfaaPuts
namespace Go.Proofs.Ytnnclopojiegfaa
open Go.RowKit
set_option linter.unusedVariables false

/-- a value that is a commit -/
def IsCommit (w : World) (B : Nat) (v : Value) (c : WCommit) : Prop :=
  ∃ A1 c1 A2 c2 A3 c3, v = .agg #[.int .i64 c.stamp, .slice A1 c.parents.length c1, .slice A2 c.picks.length c2, .string c.note, .slice A3 c.writes.length c3] ∧
    Reads w B 1 A1 c.parents.length (c.parents.map (Value.int .i64)) ∧ Reads w B 1 A2 c.picks.length (c.picks.map (Value.int .i64)) ∧ Reads w B 6 A3 c.writes.length (c.writes.flatMap WCell.vals)

theorem flat6 (l : List WCell) : ∀ (j i : Nat) (x : WCell) (u : Value), l[j]? = some x → x.vals[i]? = some u → i < 6 → (l.flatMap WCell.vals)[j * 6 + i]? = some u := by
  induction l with
  | nil => intro j i x u h; simp at h
  | cons y l ih =>
    intro j i x u h hi h6
    have hy : y.vals.length = 6 := rfl
    rw [List.flatMap_cons]
    cases j with
    | zero =>
      simp at h
      subst h
      rw [List.getElem?_append_left (by omega)]
      simpa using hi
    | succ j =>
      rw [List.getElem?_append_right (by omega), hy]
      have := ih j i x u (by simpa using h) hi h6
      rw [show (j + 1) * 6 + i - 6 = j * 6 + i from by omega]
      exact this

theorem St.push {base k : Nat} {v : Value} {xs : List Value} {w w1 w2 : World} {pre : List Nat} {v1 v2 : Value} {x : Nat} {z : Int} {o : Obj} (h : St base k v xs w pre v1 w1) (hz : z = (x : Int))
    (hown : w2.ownsRow base 5 1 v2 (k + pre.length + 1) (xs ++ (pre.map byt ++ [.int .u8 z]))) (hg : Grows (w1.alloc o) w2 v1 v2) : St base k v xs w (pre ++ [x]) v2 w2 ∧ Grows w1 w2 v1 v2 := by
  subst hz
  have hg' : Grows w1 w2 v1 v2 := ((Grows.refl w1 v1).alloc o).trans hg
  refine ⟨⟨?_, h.2.trans hg'⟩, hg'⟩
  rw [List.length_append, List.map_append]
  exact hown
theorem enc_round {base k : Nat} {v : Value} {xs : List Value} {w w1 : World} {p5 pp : List Nat} {l l' : List WCell} {x : WCell} {fl : Bool} {v1 : Value} (hend : l' = l ++ [x])
    (hpp : p5 ++ List.flatMap encC l ++ encI x.id ++ encI x.field ++ encI x.n = pp) (hfl : x.flag = fl) (h : St base k v xs w (pp ++ [if fl then 1 else 0] ++ encT x.text ++ encI x.ref) v1 w1) :
    St base k v xs w (p5 ++ l'.flatMap encC) v1 w1 := by
  subst hend
  subst hpp
  have e : encF x.flag = [if fl then 1 else 0] := by subst hfl; unfold encF; cases x.flag <;> rfl
  have e2 : p5 ++ (l ++ [x]).flatMap encC = p5 ++ List.flatMap encC l ++ encI x.id ++ encI x.field ++ encI x.n ++ [if fl then 1 else 0] ++ encT x.text ++ encI x.ref := by
    rw [List.flatMap_append, List.flatMap_cons, List.flatMap_nil, List.append_nil]
    unfold encC
    rw [e]
    simp only [List.append_assoc]
  rw [e2]
  exact h
theorem take_len {l : List WCell} (h : ∀ x ∈ l, x.ok) (j : Nat) (hs : sumSizes l ≤ 1000000000) : ((l.take j).flatMap encC).length ≤ 60 * j + sumSizes l := by
  have e : sumSizes l = sumSizes (l.take j) + sumSizes (l.drop j) := by
    unfold sumSizes
    rw [← List.sum_append, ← List.map_append, List.take_append_drop]
  have h1 := flatC_len (l := l.take j) (fun x hx => h x (List.mem_of_mem_take hx)) (by omega)
  have h2 : (l.take j).length ≤ j := List.length_take_le _ _
  omega

set_option maxRecDepth 100000 in
set_option maxHeartbeats 1000000 in
theorem putCommit_any (base k : Nat) (v cv : Value) (xs : List Value) (c : WCommit) (w : World) (hown : w.ownsRow base 5 1 v k xs) (hbase : base ≤ w.heap.size)
    (hc : IsCommit w base cv c) (hok : c.ok) (hk : k + 100 * c.size ≤ 800000000) :
    Calls Try.prog 33 #[v, cv] w (Put base k v xs w (encCommit c)) := by
  obtain ⟨A1, c1, A2, c2, A3, c3, rfl, hr1, hr2, hr3⟩ := hc
  obtain ⟨i0, hi, hi0, hi1, hi2⟩ := info_parts u8_info
  have hst0 : St base k v xs w [] v (w.alloc (.cells #[.int .i64 c.stamp, .slice A1 c.parents.length c1, .slice A2 c.picks.length c2, .string c.note, .slice A3 c.writes.length c3] 36)) := (St.start hown).alloc _
  have hblk := Blk.new w 36 #[.int .i64 c.stamp, .slice A1 c.parents.length c1, .slice A2 c.picks.length c2, .string c.note, .slice A3 c.writes.length c3]
  have hlt := fun g hg => (hown.lt g hg).1
  have HLT := Lib.hid hlt
  have HR1 := Lib.hid hr1
  have HR2 := Lib.hid hr2
  have HR3 := Lib.hid hr3
  have HOK := Lib.hid hok
  have HB := Lib.hid hblk
  have HS := Lib.hid hst0
  have hk' : k + 100 * (c.parents.length + c.picks.length + c.note.size + c.writes.length + sumSizes c.writes) ≤ 800000000 := hk
  clear hk hr1 hr2 hr3 hok hblk hst0 hlt hown
  have l1 := encI_len' HOK.out.1
  have l2 := encL_len HOK.out.2.1 (by omega)
  have l3 := encL_len HOK.out.2.2.1 (by omega)
  have l4 := encT_len (s := c.note) (by omega)
  have l5 := encI_nat (n := c.writes.length) (by omega)
  have HP := Lib.hid (putInt_any base _ v _ c.stamp _ HS.out.1 (by simp; omega) (by simp; omega) HOK.out.1.1 HOK.out.1.2)
  go_enter Try.func33, Try.ntmps33
  go_wp2_with fail
  refine (HP.out).mono ?_
  intro e w1 h
  obtain ⟨v1, rfl, hst1, hg1⟩ := HS.out.put h
  have hb1 := hg1.blk HB.out (own_blk_ne HS.out.1 HB.out (by decide))
  clear h HP HB HS
  have HST1 := Lib.hid hst1
  have HB1 := Lib.hid hb1
  have hz1 := hst1.2.size
  clear hst1 hb1 hg1
  have cc1 := HB1.out.cell 1
  simp at cc1
  have HP := Lib.hid (putInts_any base _ v1 _ A1 _ c1 c.parents w1 HST1.out.1 (by omega) (HST1.out.2.reads HR1.out hbase HLT.out) HOK.out.2.1 (by simp only [List.length_append, List.length_nil]; omega))
  go_wp2_with fail
  refine (HP.out).mono ?_
  intro e w2 h
  obtain ⟨v2, rfl, hst2, hg2⟩ := HST1.out.put h
  have hb2 := hg2.blk HB1.out (own_blk_ne HST1.out.1 HB1.out (by decide))
  clear h HP HB1 HST1 cc1
  have HST2 := Lib.hid hst2
  have HB2 := Lib.hid hb2
  have hz2 := hst2.2.size
  clear hst2 hb2 hg2
  have cc2 := HB2.out.cell 2
  simp at cc2
  have HP := Lib.hid (putInts_any base _ v2 _ A2 _ c2 c.picks w2 HST2.out.1 (by omega) (HST2.out.2.reads HR2.out hbase HLT.out) HOK.out.2.2.1 (by simp only [List.length_append, List.length_nil]; omega))
  go_wp2_with fail
  refine (HP.out).mono ?_
  intro e w3 h
  obtain ⟨v3, rfl, hst3, hg3⟩ := HST2.out.put h
  have hb3 := hg3.blk HB2.out (own_blk_ne HST2.out.1 HB2.out (by decide))
  clear h HP HB2 HST2 cc2
  have HST3 := Lib.hid hst3
  have HB3 := Lib.hid hb3
  have hz3 := hst3.2.size
  clear hst3 hb3 hg3
  have cc3 := HB3.out.cell 3
  simp at cc3
  have HP := Lib.hid (putText_any base _ v3 _ c.note w3 HST3.out.1 (by omega) (by simp only [List.length_append, List.length_nil]; omega))
  go_wp2_with fail
  refine (HP.out).mono ?_
  intro e w4 h
  obtain ⟨v4, rfl, hst4, hg4⟩ := HST3.out.put h
  have hb4 := hg4.blk HB3.out (own_blk_ne HST3.out.1 HB3.out (by decide))
  clear h HP HB3 HST3 cc3
  have HST4 := Lib.hid hst4
  have HB4 := Lib.hid hb4
  have hz4 := hst4.2.size
  clear hst4 hb4 hg4
  have cc4 := HB4.out.cell 4
  simp at cc4
  have HP := Lib.hid (putInt_any base _ v4 _ (c.writes.length : Int) w4 HST4.out.1 (by omega) (by simp only [List.length_append, List.length_nil]; omega) (by omega) (by omega))
  go_wp2_with fail
  refine (HP.out).mono ?_
  intro e w5 h
  obtain ⟨v5, rfl, hst5, hg5⟩ := HST4.out.put h
  have hb5 := hg5.blk HB4.out (own_blk_ne HST4.out.1 HB4.out (by decide))
  clear h HP HB4 HST4 cc4
  simp only [List.nil_append] at hst5
  obtain ⟨pre5, hp5⟩ : ∃ p, p = encI c.stamp ++ encL c.parents ++ encL c.picks ++ encT c.note ++ encI c.writes.length := ⟨_, rfl⟩
  rw [← hp5] at hst5
  have lp : pre5.length ≤ 100 + 10 * c.parents.length + 10 * c.picks.length + c.note.size := by rw [hp5]; simp only [List.length_append]; omega
  have HP5 := Lib.hid hp5
  have HST5 := Lib.hid hst5
  have cc5 := hb5.cell 4
  simp at cc5
  clear hst5 hb5 hg5 hp5 l1 l2 l3 l4 l5 hz1 hz2 hz3 hz4 HR1 HR2
  go_wp2_with fail
  clear cc5
  go_loopw [0, 31] (fun v' i wr => ∃ j : Nat, j ≤ c.writes.length ∧ i = .int .i64 (j : Int) ∧ St base k v xs w (pre5 ++ (c.writes.take j).flatMap encC) v' wr) (fun _ i _ => c.writes.length - (intOf i).toNat)
  case atStart => exact ⟨0, by omega, rfl, by simpa using HST5.out⟩
  case round =>
    obtain ⟨j, hj, rfl, hst⟩ := hrel
    have hsz := hst.2.size
    by_cases hlt : j < c.writes.length
    · obtain ⟨x, hx⟩ : ∃ x, c.writes[j]? = some x := ⟨c.writes[j]'hlt, List.getElem?_eq_getElem _⟩
      have hxo := HOK.out.2.2.2 x (List.mem_of_getElem? hx)
      have hxs := sum_mem (List.mem_of_getElem? hx)
      obtain ⟨b, off, rfl, had, hcell⟩ := (hst.2.reads HR3.out hbase HLT.out).head (by omega) (by omega)
      have q0 := hcell _ _ (flat6 c.writes j 0 x (.int .i64 x.id) hx rfl (by omega))
      have q1 := hcell _ _ (flat6 c.writes j 1 x (.int .i64 x.field) hx rfl (by omega))
      have q2 := hcell _ _ (flat6 c.writes j 2 x (.int .i64 x.n) hx rfl (by omega))
      have q3 := hcell _ _ (flat6 c.writes j 3 x (.bool x.flag) hx rfl (by omega))
      have q4 := hcell _ _ (flat6 c.writes j 4 x (.string x.text) hx rfl (by omega))
      have q5 := hcell _ _ (flat6 c.writes j 5 x (.int .i64 x.ref) hx rfl (by omega))
      simp only [← Nat.add_assoc, Nat.add_zero] at q0 q1 q2 q3 q4 q5
      have HX := Lib.hid hx
      have HST2 := Lib.hid hst
      have HXO := Lib.hid hxo
      clear hst hx hxo hcell
      have hfl : ((c.writes.take j).flatMap encC).length ≤ 60 * j + sumSizes c.writes := take_len HOK.out.2.2.2 j (by omega)
      have l1 := encI_len' HXO.out.1
      have l2 := encI_len' HXO.out.2.1
      have l3 := encI_len' HXO.out.2.2.1
      have l6 := encI_len' HXO.out.2.2.2
      have l5 := encT_len (s := x.text) (by omega)
      have hblk := Blk.new wr 61 #[.int .i64 x.id, .int .i64 x.field, .int .i64 x.n, .bool x.flag, .string x.text, .int .i64 x.ref]
      have hs0 := HST2.out.alloc (.cells #[.int .i64 x.id, .int .i64 x.field, .int .i64 x.n, .bool x.flag, .string x.text, .int .i64 x.ref] 61)
      have hy0 : w.heap.size ≤ wr.heap.size + 1 := by omega
      have HS0 := Lib.hid hs0
      have HC0 := Lib.hid hblk
      clear hblk hs0
      have hend : c.writes.take (j + 1) = c.writes.take j ++ [x] := by rw [List.take_add_one, HX.out]; rfl
      have HEND := Lib.hid hend
      clear hend
      generalize hfg : x.flag = fl at *
      have HFG := Lib.hid hfg
      clear hfg
      rcases fl with _ | _
      all_goals
        have HP := Lib.hid (putInt_any base _ _ _ x.id _ HS0.out.1 (by simp; omega) (by simp only [List.length_append]; omega) HXO.out.1.1 HXO.out.1.2)
        go_wp2_with fail
        refine (HP.out).mono ?_
        intro e y1 h
        obtain ⟨b1, rfl, hst1, hg1⟩ := HS0.out.put h
        have hb1 := hg1.blk HC0.out (own_blk_ne HS0.out.1 HC0.out (by decide))
        clear h HP
        have HS1 := Lib.hid hst1
        have HC1 := Lib.hid hb1
        have hy1 := hst1.2.size
        clear hst1 hb1 hg1 HC0
        have d1 := HC1.out.cell 1
        simp at d1
        have HP := Lib.hid (putInt_any base _ _ _ x.field _ HS1.out.1 (by omega) (by simp only [List.length_append]; omega) HXO.out.2.1.1 HXO.out.2.1.2)
        go_wp2_with fail
        refine (HP.out).mono ?_
        intro e y2 h
        obtain ⟨b2, rfl, hst2, hg2⟩ := HS1.out.put h
        have hb2 := hg2.blk HC1.out (own_blk_ne HS1.out.1 HC1.out (by decide))
        clear h HP d1
        have HS2 := Lib.hid hst2
        have HC2 := Lib.hid hb2
        have hy2 := hst2.2.size
        clear hst2 hb2 hg2 HC1
        have d2 := HC2.out.cell 2
        simp at d2
        have HP := Lib.hid (putInt_any base _ _ _ x.n _ HS2.out.1 (by omega) (by simp only [List.length_append]; omega) HXO.out.2.2.1.1 HXO.out.2.2.1.2)
        go_wp2_with fail
        refine (HP.out).mono ?_
        intro e y3 h
        obtain ⟨b3, rfl, hst3, hg3⟩ := HS2.out.put h
        have hb3 := hg3.blk HC2.out (own_blk_ne HS2.out.1 HC2.out (by decide))
        clear h HP d2
        have HS3 := Lib.hid hst3
        have HC3 := Lib.hid hb3
        have hy3 := hst3.2.size
        clear hst3 hb3 hg3 HC2
        have d3 := HC3.out.cell 3
        simp at d3
        have hown3 := HS3.out.1
        have hlen3 : k + (pre5 ++ List.flatMap encC (List.take j c.writes) ++ encI x.id ++ encI x.field ++ encI x.n).length + x.text.size ≤ 850000000 := by simp only [List.length_append]; omega
        generalize hpp : (pre5 ++ List.flatMap encC (List.take j c.writes) ++ encI x.id ++ encI x.field ++ encI x.n) = pp at *
        have HPP := Lib.hid hpp
        clear hpp
      · go_wp2_with (at_builtin; refine wpList_append_row _ rfl (.tmp 54) (.tmp 55) 22 22 rfl base 5 i0 (.int .u8 0) 1 1 Try.underlying22 hi hi0 hi1 hi2 rfl (by decide) _ _ _ rfl (hown3.alloc _) _ 1 _ rfl (src_new _ Try.underlying22 [_] 1 1 1 5 rfl (fun u hu => by simp at hu; subst hu; rfl)) (by unfold maxLen; omega) (by omega) (by simp; omega) ?_)
        intro b4 y4 hown4 hg4
        obtain ⟨hst4, hgg4⟩ := HS3.out.push (x := 0) rfl hown4 hg4
        have hb4 := hgg4.blk HC3.out (own_blk_ne HS3.out.1 HC3.out (by decide))
        have HS4 := Lib.hid hst4
        have HC4 := Lib.hid hb4
        have hy4 := hst4.2.size
        clear hst4 hb4 hg4 hgg4 hown4 hown3 d3
        have d4 := HC4.out.cell 4
        simp at d4
        have HP := Lib.hid (putText_any base _ _ _ x.text _ HS4.out.1 (by omega) (by simp only [List.length_append, List.length_cons, List.length_nil]; omega))
        go_wp2_with fail
        refine (HP.out).mono ?_
        intro e y5 h
        obtain ⟨b5, rfl, hst5, hg5⟩ := HS4.out.put h
        have hb5 := hg5.blk HC4.out (own_blk_ne HS4.out.1 HC4.out (by decide))
        clear h HP d4
        have HS5 := Lib.hid hst5
        have HC5 := Lib.hid hb5
        have hy5 := hst5.2.size
        clear hst5 hb5 hg5 HC4
        have d5 := HC5.out.cell 5
        simp at d5
        have HP := Lib.hid (putInt_any base _ _ _ x.ref _ HS5.out.1 (by omega) (by simp only [List.length_append, List.length_cons, List.length_nil]; omega) HXO.out.2.2.2.1 HXO.out.2.2.2.2)
        go_wp2_with fail
        refine (HP.out).mono ?_
        intro e y6 h
        obtain ⟨b6, rfl, hst6, hg6⟩ := HS5.out.put h
        have hb6 := hg6.blk HC5.out (own_blk_ne HS5.out.1 HC5.out (by decide))
        clear h HP d5
        have HS6 := Lib.hid hst6
        have HC6 := Lib.hid hb6
        have hy6 := hst6.2.size
        clear hst6 hb6 hg6 HC5
        have R := enc_round HEND.out HPP.out HFG.out HS6.out
        clear HS6
        have HRR := Lib.hid R
        clear R
        go_wp2_with fail
        go_roundw
        case rel => exact ⟨j + 1, by omega, by go_num, HRR.out⟩
        case measure => simp [intOf]; omega
      · go_wp2_with (at_builtin; refine wpList_append_row _ rfl (.tmp 51) (.tmp 52) 22 22 rfl base 5 i0 (.int .u8 0) 1 1 Try.underlying22 hi hi0 hi1 hi2 rfl (by decide) _ _ _ rfl (hown3.alloc _) _ 1 _ rfl (src_new _ Try.underlying22 [_] 1 1 1 5 rfl (fun u hu => by simp at hu; subst hu; rfl)) (by unfold maxLen; omega) (by omega) (by simp; omega) ?_)
        intro b4 y4 hown4 hg4
        obtain ⟨hst4, hgg4⟩ := HS3.out.push (x := 1) rfl hown4 hg4
        have hb4 := hgg4.blk HC3.out (own_blk_ne HS3.out.1 HC3.out (by decide))
        have HS4 := Lib.hid hst4
        have HC4 := Lib.hid hb4
        have hy4 := hst4.2.size
        clear hst4 hb4 hg4 hgg4 hown4 hown3 d3
        have d4 := HC4.out.cell 4
        simp at d4
        have HP := Lib.hid (putText_any base _ _ _ x.text _ HS4.out.1 (by omega) (by simp only [List.length_append, List.length_cons, List.length_nil]; omega))
        go_wp2_with fail
        refine (HP.out).mono ?_
        intro e y5 h
        obtain ⟨b5, rfl, hst5, hg5⟩ := HS4.out.put h
        have hb5 := hg5.blk HC4.out (own_blk_ne HS4.out.1 HC4.out (by decide))
        clear h HP d4
        have HS5 := Lib.hid hst5
        have HC5 := Lib.hid hb5
        have hy5 := hst5.2.size
        clear hst5 hb5 hg5 HC4
        have d5 := HC5.out.cell 5
        simp at d5
        have HP := Lib.hid (putInt_any base _ _ _ x.ref _ HS5.out.1 (by omega) (by simp only [List.length_append, List.length_cons, List.length_nil]; omega) HXO.out.2.2.2.1 HXO.out.2.2.2.2)
        go_wp2_with fail
        refine (HP.out).mono ?_
        intro e y6 h
        obtain ⟨b6, rfl, hst6, hg6⟩ := HS5.out.put h
        have hb6 := hg6.blk HC5.out (own_blk_ne HS5.out.1 HC5.out (by decide))
        clear h HP d5
        have HS6 := Lib.hid hst6
        have HC6 := Lib.hid hb6
        have hy6 := hst6.2.size
        clear hst6 hb6 hg6 HC5
        have R := enc_round HEND.out HPP.out HFG.out HS6.out
        clear HS6
        have HRR := Lib.hid R
        clear R
        go_wp2_with fail
        go_roundw
        case rel => exact ⟨j + 1, by omega, by go_num, HRR.out⟩
        case measure => simp [intOf]; omega
    · have R : Put base k v xs w (encCommit c) (.returned u0) wr := by
        have h1 := hst.done
        have e1 : c.writes.take j = c.writes := List.take_of_length_le (by omega)
        rw [e1, HP5.out] at h1
        exact h1
      clear hst
      go_wp2_with fail
      go_ret
      exact R
end Go.Proofs.Ytnnclopojiegfaa
