/-
  The bytes that the reference's Commit returns. No condition.
-/
import Derived.Test.YtnnclopojiegfaaRefC
namespace Go.Proofs.Ytnnclopojiegfaa
open Go.RowKit
set_option linter.unusedVariables false

/-- bytes of the call's own, beside a block that stays -/
structure Kp (W wr : World) (bs : List Nat) (v : Value) (b : Nat) (t : TypeId) (cs : Array Value) : Prop where
  nw : Nw W wr bs v
  blk : Blk wr b t cs
section
variable {W wr w' : World} {bs : List Nat} {v : Value} {b : Nat} {t : TypeId} {cs : Array Value}
theorem Kp.new (h : Kp W wr bs v b t cs) {bs' : List Nat} {e : Ending} (hn : New wr bs' e w') : ∃ v', e = .returned v' ∧ Kp W w' bs' v' b t cs := by
  obtain ⟨v', rfl, h1⟩ := hn.nw
  exact ⟨v', rfl, h1.after h.nw.2, h.blk.below h1.2 h.blk.lt⟩
theorem Kp.drew (h : Kp W wr bs v b t cs) : Kp W wr.drew bs v b t cs := ⟨⟨h.nw.1, below_drewN h.nw.2 1⟩, h.blk⟩
theorem Kp.drewN (h : Kp W wr bs v b t cs) (n : Nat) : Kp W (wr.drewN n) bs v b t cs := ⟨⟨h.nw.1, below_drewN h.nw.2 n⟩, h.blk⟩
theorem Kp.int (h : Kp W wr bs v b t cs) (z : Int) (hz : inI64 z) (hl : bs.length ≤ 1000000000) : Calls Try.prog 13 #[v, .int .i64 z] wr fun e w' => ∃ v', e = .returned v' ∧ Kp W w' (bs ++ encI z) v' b t cs := by
  obtain ⟨A, c, rfl, hr⟩ := h.nw.reads
  exact (refInt_any A _ c bs z wr hl hr hz.1 hz.2).mono fun e w' hn => h.new hn
theorem Kp.text (h : Kp W wr bs v b t cs) (s : ByteArray) (hl : bs.length + s.size ≤ 900000000) : Calls Try.prog 22 #[v, .string s] wr fun e w' => ∃ v', e = .returned v' ∧ Kp W w' (bs ++ encT s) v' b t cs := by
  obtain ⟨A, c, rfl, hr⟩ := h.nw.reads
  exact (refText_any A _ c bs s wr hl hr).mono fun e w' hn => h.new hn
theorem Kp.ints (h : Kp W wr bs v b t cs) (A1 : Option Addr) (n1 c1 : Nat) (l : List Int) (hr1 : Reads W W.heap.size 1 A1 n1 (l.map (Value.int .i64))) (hl : ∀ x ∈ l, inI64 x) (hk : bs.length + 10 * n1 ≤ 900000000) :
    Calls Try.prog 34 #[v, .slice A1 n1 c1] wr fun e w' => ∃ v', e = .returned v' ∧ Kp W w' (bs ++ encL l) v' b t cs := by
  obtain ⟨A, c, rfl, hr⟩ := h.nw.reads
  exact (refInts_any A _ c bs A1 n1 c1 l wr hr ((hr1.below h.nw.2).more h.nw.2.size) hl hk).mono fun e w' hn => h.new hn
theorem Kp.push (h : Kp W wr bs v b t cs) (ht : 5 ≠ t) {o : Obj} {v' : Value} {x : Nat} (hown : w'.ownsRow W.heap.size 5 1 v' (bs.length + 1) (bs.map byt ++ [.int .u8 (x : Int)])) (hg : Grows (wr.alloc o) w' v v') : Kp W w' (bs ++ [x]) v' b t cs := by
  have hne := own_blk_ne h.nw.1 h.blk ht
  have hs := h.nw.2.size
  refine ⟨⟨?_, (h.nw.2.trans (((Below.refl _ wr).alloc (Nat.le_refl _) o).mono hs)).trans (hg.below (by simp; omega) (fun g hg => (h.nw.1.lt g hg).1))⟩, hg.blk (h.blk.alloc o) hne⟩
  rw [List.length_append, List.map_append]
  exact hown
end
theorem Kp.c012 {W wr : World} {bs : List Nat} {v : Value} {b : Nat} {a0 a1 a2 a3 a4 a5 : Value} (h : Kp W wr bs v b 61 #[a0, a1, a2, a3, a4, a5]) : wr.cell? ⟨b, 0, none⟩ = some a0 ∧ wr.cell? ⟨b, 1, none⟩ = some a1 ∧ wr.cell? ⟨b, 2, none⟩ = some a2 :=
  ⟨by rw [h.blk.cell]; rfl, by rw [h.blk.cell]; rfl, by rw [h.blk.cell]; rfl⟩
theorem Kp.c45 {W wr : World} {bs : List Nat} {v : Value} {b : Nat} {a0 a1 a2 a3 a4 a5 : Value} (h : Kp W wr bs v b 61 #[a0, a1, a2, a3, a4, a5]) : wr.cell? ⟨b, 4, none⟩ = some a4 ∧ wr.cell? ⟨b, 5, none⟩ = some a5 :=
  ⟨by rw [h.blk.cell]; rfl, by rw [h.blk.cell]; rfl⟩
theorem rc_round {W wr : World} {p5 pp : List Nat} {l l' : List WCell} {x : WCell} {fl : Bool} {v1 : Value} {b : Nat} {t : TypeId} {cs : Array Value} (hend : l' = l ++ [x])
    (hpp : p5 ++ List.flatMap encC l ++ encI x.id ++ encI x.field ++ encI x.n = pp) (hfl : x.flag = fl) (h : Kp W wr (pp ++ [if fl then 1 else 0] ++ encT x.text ++ encI x.ref) v1 b t cs) :
    Kp W wr (p5 ++ l'.flatMap encC) v1 b t cs := by
  subst hend
  subst hpp
  have e : encF x.flag = [if fl then 1 else 0] := by subst hfl; unfold encF; cases x.flag <;> rfl
  have e2 : p5 ++ (l ++ [x]).flatMap encC = p5 ++ List.flatMap encC l ++ encI x.id ++ encI x.field ++ encI x.n ++ [if fl then 1 else 0] ++ encT x.text ++ encI x.ref := by
    rw [List.flatMap_append, List.flatMap_cons, List.flatMap_nil, List.append_nil]
    unfold encC
    rw [e]
    simp only [List.append_assoc]
  rw [e2]
  exact h

set_option maxRecDepth 100000 in
set_option maxHeartbeats 3200000 in
theorem refCommit_any (cv : Value) (c : WCommit) (w : World) (hc : IsCommit w w.heap.size cv c) (hok : c.ok) (hk : 100 * c.size ≤ 800000000) :
    Calls Try.prog 16 #[cv] w (New w (encCommit c)) := by
  obtain ⟨A1, c1, A2, c2, A3, c3, rfl, hr1, hr2, hr3⟩ := hc
  obtain ⟨i0, hi, hi0, hi1, hi2⟩ := info_parts u8_info
  obtain ⟨W, hW⟩ : ∃ W, w.alloc (.cells #[.int .i64 c.stamp, .slice A1 c.parents.length c1, .slice A2 c.picks.length c2, .string c.note, .slice A3 c.writes.length c3] 36) = W := ⟨_, rfl⟩
  have hbw : Below w.heap.size w W := by subst hW; exact (Below.refl _ w).alloc (Nat.le_refl _) _
  have hblk : Blk W w.heap.size 36 #[.int .i64 c.stamp, .slice A1 c.parents.length c1, .slice A2 c.picks.length c2, .string c.note, .slice A3 c.writes.length c3] := by subst hW; exact Blk.new w 36 _
  have hzW : W.heap.size = w.heap.size + 1 := by subst hW; simp
  have HR1 := Lib.hid ((hr1.below hbw).more hbw.size)
  have HR2 := Lib.hid ((hr2.below hbw).more hbw.size)
  have HR3 := Lib.hid ((hr3.below hbw).more hbw.size)
  have HBW := Lib.hid hbw
  have HOK := Lib.hid hok
  have hk' : 100 * (c.parents.length + c.picks.length + c.note.size + c.writes.length + sumSizes c.writes) ≤ 800000000 := hk
  have l1 := encI_len' HOK.out.1
  have l2 := encL_len HOK.out.2.1 (by omega)
  have l3 := encL_len HOK.out.2.2.1 (by omega)
  have l4 := encT_len (s := c.note) (by omega)
  have l5 := encI_nat (n := c.writes.length) (by omega)
  have HK0 : Hid (Kp W W [] (.slice none 0 0) w.heap.size 36 #[.int .i64 c.stamp, .slice A1 c.parents.length c1, .slice A2 c.picks.length c2, .string c.note, .slice A3 c.writes.length c3]) := ⟨⟨World.ownsRow_nil _ _ _ _, Below.refl _ _⟩, hblk⟩
  have cc0 := hblk.cell 0
  simp at cc0
  have HB0 := Lib.hid hblk
  have HW := Lib.hid hW
  have HZW := Lib.hid hzW
  clear hr1 hr2 hr3 hok hk hbw hzW hblk
  have HP := Lib.hid (HK0.out.int c.stamp HOK.out.1 (by simp))
  go_enter Try.func16, Try.ntmps16
  go_wp2_with fail
  clear hW
  refine (HP.out).mono ?_
  rintro e w1 ⟨v1, rfl, k1⟩
  have HK1 := Lib.hid k1
  have cc1 := k1.blk.cell 1
  simp at cc1
  clear k1 HP HK0 cc0
  have HP := Lib.hid (HK1.out.ints A1 _ c1 c.parents HR1.out HOK.out.2.1 (by simp only [List.length_append, List.length_nil]; omega))
  go_wp2_with fail
  refine (HP.out).mono ?_
  rintro e w2 ⟨v2, rfl, k2⟩
  have HK2 := Lib.hid k2
  have cc2 := k2.blk.cell 2
  simp at cc2
  clear k2 HP HK1 cc1
  have HP := Lib.hid (HK2.out.ints A2 _ c2 c.picks HR2.out HOK.out.2.2.1 (by simp only [List.length_append, List.length_nil]; omega))
  go_wp2_with fail
  refine (HP.out).mono ?_
  rintro e w3 ⟨v3, rfl, k3⟩
  have HK3 := Lib.hid k3
  have cc3 := k3.blk.cell 3
  simp at cc3
  clear k3 HP HK2 cc2
  have HP := Lib.hid (HK3.out.text c.note (by simp only [List.length_append, List.length_nil]; omega))
  go_wp2_with fail
  refine (HP.out).mono ?_
  rintro e w4 ⟨v4, rfl, k4⟩
  have HK4 := Lib.hid k4
  have cc4 := k4.blk.cell 4
  simp at cc4
  clear k4 HP HK3 cc3
  have HP := Lib.hid (HK4.out.int (c.writes.length : Int) ⟨by omega, by omega⟩ (by simp only [List.length_append, List.length_nil]; omega))
  go_wp2_with fail
  refine (HP.out).mono ?_
  rintro e w5 ⟨v5, rfl, k5⟩
  simp only [List.nil_append] at k5
  obtain ⟨pre5, hp5⟩ : ∃ p, p = encI c.stamp ++ encL c.parents ++ encL c.picks ++ encT c.note ++ encI c.writes.length := ⟨_, rfl⟩
  rw [← hp5] at k5
  have lp : pre5.length ≤ 100 + 10 * c.parents.length + 10 * c.picks.length + c.note.size := by rw [hp5]; simp only [List.length_append]; omega
  have HP5 := Lib.hid hp5
  have HK5 := Lib.hid k5
  clear k5 HP HK4 cc4 hp5 l1 l2 l3 l4 l5 HR1 HR2
  go_wp2_with fail
  go_loopw [3, 4] (fun v' i wr => ∃ j : Nat, j ≤ c.writes.length ∧ i = .int .i64 (j : Int) ∧ Kp W wr (pre5 ++ (c.writes.take j).flatMap encC) v' w.heap.size 36 #[.int .i64 c.stamp, .slice A1 c.parents.length c1, .slice A2 c.picks.length c2, .string c.note, .slice A3 c.writes.length c3]) (fun _ i _ => c.writes.length - (intOf i).toNat)
  case atStart => exact ⟨0, by omega, rfl, by simpa using HK5.out⟩
  case round =>
    obtain ⟨j, hj, rfl, hst⟩ := hrel
    have cc4 := hst.blk.cell 4
    simp at cc4
    have hsz := hst.nw.2.size
    by_cases hlt : j < c.writes.length
    · obtain ⟨x, hx⟩ : ∃ x, c.writes[j]? = some x := ⟨c.writes[j]'hlt, List.getElem?_eq_getElem _⟩
      have hxo := HOK.out.2.2.2 x (List.mem_of_getElem? hx)
      have hxs := sum_mem (List.mem_of_getElem? hx)
      obtain ⟨b, off, rfl, had, hcell⟩ := (HR3.out.below hst.nw.2).head (by omega) (by omega)
      have q0 := hcell _ _ (flat6 c.writes j 0 x (.int .i64 x.id) hx rfl (by omega))
      have q1 := hcell _ _ (flat6 c.writes j 1 x (.int .i64 x.field) hx rfl (by omega))
      have q2 := hcell _ _ (flat6 c.writes j 2 x (.int .i64 x.n) hx rfl (by omega))
      have q3 := hcell _ _ (flat6 c.writes j 3 x (.bool x.flag) hx rfl (by omega))
      have q4 := hcell _ _ (flat6 c.writes j 4 x (.string x.text) hx rfl (by omega))
      have q5 := hcell _ _ (flat6 c.writes j 5 x (.int .i64 x.ref) hx rfl (by omega))
      simp only [← Nat.add_assoc, Nat.add_zero] at q0 q1 q2 q3 q4 q5
      have hend : c.writes.take (j + 1) = c.writes.take j ++ [x] := by rw [List.take_add_one, hx]; rfl
      have HEND := Lib.hid hend
      have HXO := Lib.hid hxo
      have hfl : ((c.writes.take j).flatMap encC).length ≤ 60 * j + sumSizes c.writes := take_len HOK.out.2.2.2 j (by omega)
      have l1 := encI_len' HXO.out.1
      have l2 := encI_len' HXO.out.2.1
      have l3 := encI_len' HXO.out.2.2.1
      have l6 := encI_len' HXO.out.2.2.2
      have l5 := encT_len (s := x.text) (by omega)
      obtain ⟨wc, hwc⟩ : ∃ wc, wr.alloc (.cells #[.int .i64 x.id, .int .i64 x.field, .int .i64 x.n, .bool x.flag, .string x.text, .int .i64 x.ref] 61) = wc := ⟨_, rfl⟩
      obtain ⟨bb, hbb⟩ : ∃ bb, wr.heap.size = bb := ⟨_, rfl⟩
      have HC0 : Hid (Kp W wc (pre5 ++ (c.writes.take j).flatMap encC) u3 bb 61 #[.int .i64 x.id, .int .i64 x.field, .int .i64 x.n, .bool x.flag, .string x.text, .int .i64 x.ref]) := by
        subst hwc hbb
        exact ⟨⟨hst.nw.1.alloc _, hst.nw.2.trans (((Below.refl _ wr).alloc (Nat.le_refl _) _).mono hsz)⟩, Blk.new wr 61 _⟩
      have HBX : Hid (Blk wc w.heap.size 36 #[.int .i64 c.stamp, .slice A1 c.parents.length c1, .slice A2 c.picks.length c2, .string c.note, .slice (some ⟨b, off, none⟩) c.writes.length c3]) := by
        subst hwc
        exact hst.blk.alloc _
      have HST := Lib.hid hst
      clear hst hx hxo hcell hend
      go_wp2_with fail
      have m0 : Hid ((pre5 ++ (c.writes.take j).flatMap encC).length ≤ 1000000000) := by unfold Hid; simp only [List.length_append]; omega
      have m1 : Hid ((pre5 ++ (c.writes.take j).flatMap encC ++ encI x.id).length ≤ 1000000000) := by unfold Hid; simp only [List.length_append]; omega
      have m2 : Hid ((pre5 ++ (c.writes.take j).flatMap encC ++ encI x.id ++ encI x.field).length ≤ 1000000000) := by unfold Hid; simp only [List.length_append]; omega
      go_region_held3 (fun w' => w'.cell? ⟨bb, 0, none⟩ = some (.int .i64 x.id) ∧ w'.cell? ⟨bb, 1, none⟩ = some (.int .i64 x.field) ∧ w'.cell? ⟨bb, 2, none⟩ = some (.int .i64 x.n))
        (first | exact HC0.out.drew.c012 | exact G3.out.c012 | exact G2.out.c012 | exact G1.out.c012)
        (first | (go_at_call 13; refine (G2.out.int x.n HXO.out.2.2.1 m2.out).mono ?_; rintro e y3 ⟨b3, rfl, g3⟩; have G3 := Lib.hid g3; clear g3) | (go_at_call 13; refine (G1.out.int x.field HXO.out.2.1 m1.out).mono ?_; rintro e y2 ⟨b2, rfl, g2⟩; have G2 := Lib.hid g2; clear g2) | (go_at_call 13; refine (HC0.out.drew.int x.id HXO.out.1 m0.out).mono ?_; rintro e y1 ⟨b1, rfl, g1⟩; have G1 := Lib.hid g1; clear g1))
      have d3 := G3.out.blk.cell 3
      simp at d3
      generalize hfg : x.flag = fl at *
      have HFG := Lib.hid hfg
      have hown3 := G3.out.nw.1
      have hz3 := G3.out.nw.2.size
      have hlen3 : (pre5 ++ List.flatMap encC (List.take j c.writes) ++ encI x.id ++ encI x.field ++ encI x.n).length + x.text.size ≤ 850000000 := by simp only [List.length_append]; omega
      generalize hpp : (pre5 ++ List.flatMap encC (List.take j c.writes) ++ encI x.id ++ encI x.field ++ encI x.n) = pp at *
      have HPP := Lib.hid hpp
      clear hpp hfg m0 m1 m2 l1 l2 l3 l6 hfl
      rcases fl with _ | _
      · go_wp2_with (at_builtin; refine wpList_append_row _ rfl (.tmp 55) (.tmp 56) 22 22 rfl W.heap.size 5 i0 (.int .u8 0) 1 1 Try.underlying22 hi hi0 hi1 hi2 rfl (by decide) _ _ _ rfl (hown3.alloc _) _ 1 _ rfl (src_new _ Try.underlying22 [_] 1 1 1 5 rfl (fun u hu => by simp at hu; subst hu; rfl)) (by unfold maxLen; omega) (by omega) (by simp; omega) ?_)
        intro b4 y4 hown4 hg4
        have G4 := Lib.hid (G3.out.push (by decide) (x := 0) hown4 hg4)
        clear hown4 hg4 hown3 d3
        have n4 : Hid ((pp ++ [if false then 1 else 0]).length + x.text.size ≤ 900000000) := by unfold Hid; simp only [List.length_append, List.length_cons, List.length_nil]; omega
        have n5 : Hid ((pp ++ [if false then 1 else 0] ++ encT x.text).length ≤ 1000000000) := by unfold Hid; simp only [List.length_append, List.length_cons, List.length_nil]; omega
        go_wp2_with fail
        go_region_held3 (fun w' => w'.cell? ⟨bb, 4, none⟩ = some (.string x.text) ∧ w'.cell? ⟨bb, 5, none⟩ = some (.int .i64 x.ref))
          (first | exact G4.out.drew.c45 | exact G6.out.c45 | exact G5.out.c45)
          (first | (go_at_call 13; refine (G5.out.int x.ref HXO.out.2.2.2 n5.out).mono ?_; rintro e y6 ⟨b6, rfl, g6⟩; have G6 := Lib.hid g6; clear g6) | (go_at_call 22; refine (G4.out.drew.text x.text n4.out).mono ?_; rintro e y5 ⟨b5, rfl, g5⟩; have G5 := Lib.hid g5; clear g5))
        have R := rc_round HEND.out HPP.out HFG.out G6.out
        have HRR : Hid (Kp W y6 (pre5 ++ (c.writes.take (j + 1)).flatMap encC) b6 w.heap.size 36 #[.int .i64 c.stamp, .slice A1 c.parents.length c1, .slice A2 c.picks.length c2, .string c.note, .slice (some ⟨b, off, none⟩) c.writes.length c3]) := ⟨R.nw, HB0.out.below R.nw.2 (by rw [HZW.out]; omega)⟩
        clear R n4 n5
        go_wp2_with fail
        go_roundw
        case rel => exact ⟨j + 1, by omega, by go_num, HRR.out⟩
        case measure => simp [intOf]; omega
      · go_wp2_with (at_builtin; refine wpList_append_row _ rfl (.tmp 52) (.tmp 53) 22 22 rfl W.heap.size 5 i0 (.int .u8 0) 1 1 Try.underlying22 hi hi0 hi1 hi2 rfl (by decide) _ _ _ rfl (hown3.alloc _) _ 1 _ rfl (src_new _ Try.underlying22 [_] 1 1 1 5 rfl (fun u hu => by simp at hu; subst hu; rfl)) (by unfold maxLen; omega) (by omega) (by simp; omega) ?_)
        intro b4 y4 hown4 hg4
        have G4 := Lib.hid (G3.out.push (by decide) (x := 1) hown4 hg4)
        clear hown4 hg4 hown3 d3
        have n4 : Hid ((pp ++ [if true then 1 else 0]).length + x.text.size ≤ 900000000) := by unfold Hid; simp only [List.length_append, List.length_cons, List.length_nil]; omega
        have n5 : Hid ((pp ++ [if true then 1 else 0] ++ encT x.text).length ≤ 1000000000) := by unfold Hid; simp only [List.length_append, List.length_cons, List.length_nil]; omega
        go_wp2_with fail
        go_region_held3 (fun w' => w'.cell? ⟨bb, 4, none⟩ = some (.string x.text) ∧ w'.cell? ⟨bb, 5, none⟩ = some (.int .i64 x.ref))
          (first | exact G4.out.drew.c45 | exact G6.out.c45 | exact G5.out.c45)
          (first | (go_at_call 13; refine (G5.out.int x.ref HXO.out.2.2.2 n5.out).mono ?_; rintro e y6 ⟨b6, rfl, g6⟩; have G6 := Lib.hid g6; clear g6) | (go_at_call 22; refine (G4.out.drew.text x.text n4.out).mono ?_; rintro e y5 ⟨b5, rfl, g5⟩; have G5 := Lib.hid g5; clear g5))
        have R := rc_round HEND.out HPP.out HFG.out G6.out
        have HRR : Hid (Kp W y6 (pre5 ++ (c.writes.take (j + 1)).flatMap encC) b6 w.heap.size 36 #[.int .i64 c.stamp, .slice A1 c.parents.length c1, .slice A2 c.picks.length c2, .string c.note, .slice (some ⟨b, off, none⟩) c.writes.length c3]) := ⟨R.nw, HB0.out.below R.nw.2 (by rw [HZW.out]; omega)⟩
        clear R n4 n5
        go_wp2_with fail
        go_roundw
        case rel => exact ⟨j + 1, by omega, by go_num, HRR.out⟩
        case measure => simp [intOf]; omega
    · have R : New w (encCommit c) (.returned u3) wr := by
        have h1 := (hst.nw.after HBW.out).mk
        have e1 : c.writes.take j = c.writes := List.take_of_length_le (by omega)
        rw [e1, HP5.out] at h1
        exact h1
      clear hst
      go_wp2_with fail
      go_ret
      exact R
end Go.Proofs.Ytnnclopojiegfaa
