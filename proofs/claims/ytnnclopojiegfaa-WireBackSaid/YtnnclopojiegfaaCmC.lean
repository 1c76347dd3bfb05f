/-
  The bytes that the two Commits return. No condition.
-/
import Derived.Test.YtnnclopojiegfaaCmB
namespace Go.Proofs.Ytnnclopojiegfaa
open Go.RowKit
set_option linter.unusedVariables false

def encX (l : List CX) : List Nat := l.flatMap fun x => encCommit x.c
def encXs (l : List CX) : List Nat := encI l.length ++ encX l
theorem encX_take {l : List CX} {k : Nat} {x : CX} (h : l[k]? = some x) : encX (l.take (k + 1)) = encX (l.take k) ++ encCommit x.c := by
  unfold encX
  rw [List.take_add_one, h]
  simp
theorem encCommit_len {c : WCommit} (h : c.ok) (hs : c.size ≤ 8000000) : (encCommit c).length ≤ 60 + 100 * c.size := by
  have hs' : c.parents.length + c.picks.length + c.note.size + c.writes.length + sumSizes c.writes ≤ 8000000 := hs
  have l1 := encI_len' h.1
  have l2 := encL_len h.2.1 (by omega)
  have l3 := encL_len h.2.2.1 (by omega)
  have l4 := encT_len (s := c.note) (by omega)
  have l5 := encI_nat (n := c.writes.length) (by omega)
  have l6 := flatC_len h.2.2.2 (by omega)
  have e : c.size = c.parents.length + c.picks.length + c.note.size + c.writes.length + sumSizes c.writes := rfl
  unfold encCommit
  simp only [List.length_append]
  omega
theorem encX_len {w : World} : ∀ {l : List CX}, (∀ x ∈ l, GoodC w x) → sumC l ≤ 8000000 → (encX l).length ≤ 60 * l.length + 100 * sumC l
  | [], _, _ => by simp [encX]
  | x :: l, h, hs => by
    have e : sumC (x :: l) = x.c.size + sumC l := by unfold sumC; simp
    have h1 := encCommit_len (h x List.mem_cons_self).ok (by omega)
    have h2 := encX_len (l := l) (fun y hy => h y (List.mem_cons_of_mem _ hy)) (by omega)
    have e2 : encX (x :: l) = encCommit x.c ++ encX l := by unfold encX; simp
    rw [e2, List.length_append, List.length_cons]
    omega
theorem encXt_len {w : World} {l : List CX} (h : ∀ x ∈ l, GoodC w x) (hs : sumC l ≤ 8000000) (k : Nat) : (encX (l.take k)).length ≤ 60 * k + 100 * sumC l := by
  have h1 := sumC_le l k
  have h2 := encX_len (l := l.take k) (fun x hx => h x (List.mem_of_mem_take hx)) (by omega)
  have h3 : (l.take k).length ≤ k := List.length_take_le _ _
  omega

set_option maxRecDepth 100000 in
set_option maxHeartbeats 1600000 in
theorem commits_any (A : Option Addr) (n cp : Nat) (xs : List CX) (w : World) (h : Coms w A n xs) (hn : n + sumC xs ≤ 1000000) :
    Calls Try.prog 17 #[.slice A n cp] w (New w (encXs xs)) := by
  have HL := Lib.hid h.len
  have HH := Lib.hid h
  clear h
  have HS : Hid (St w.heap.size 0 (.slice none 0 0) [] w [] (.slice none 0 0) w) := St.start (World.ownsRow_nil _ _ _ _)
  have HP := Lib.hid (putInt_any w.heap.size 0 (.slice none 0 0) [] (n : Int) w HS.out.1 (Nat.le_refl _) (by omega) (by omega) (by omega))
  have l1 := encI_nat (n := n) (by omega)
  go_enter Try.func17, Try.ntmps17
  go_wp2_with fail
  refine (HP.out).mono ?_
  intro e w1 h
  obtain ⟨v1, rfl, hst1, hg1⟩ := HS.out.put h
  simp only [List.nil_append] at hst1
  have HST1 := Lib.hid hst1
  clear h hst1 hg1 HP HS
  go_wp2_with fail
  go_loopw [3, 11] (fun v' i wr => ∃ j : Nat, j ≤ n ∧ i = .int .i64 (j : Int) ∧ St w.heap.size 0 (.slice none 0 0) [] w (encI (n : Int) ++ encX (xs.take j)) v' wr) (fun _ i _ => n - (intOf i).toNat)
  case atStart => exact ⟨0, by omega, rfl, by simpa [encX] using HST1.out⟩
  case round =>
    obtain ⟨j, hj, rfl, hst⟩ := hrel
    have hsz := hst.2.size
    by_cases hlt : j < n
    · obtain ⟨x, hx⟩ : ∃ x, xs[j]? = some x := ⟨_, List.getElem?_eq_getElem (by rw [HL.out]; exact hlt)⟩
      have hbl : Below w.heap.size w wr := hst.2.below (Nat.le_refl _) (fun g hg => by simp [Value.ownBlock] at hg)
      obtain ⟨ab, ao, rfl, hab, c0, c1, c2, c3, c4⟩ := coms_at HH.out hx
      have hgd := HH.out.good x (List.mem_of_getElem? hx)
      have hsx := sumC_mem (List.mem_of_getElem? hx)
      have k0 := (hbl.cell (p := ⟨ab, ao + j * 5, none⟩) hab).trans c0
      have k1 := (hbl.cell (p := ⟨ab, ao + j * 5 + 1, none⟩) hab).trans c1
      have k2 := (hbl.cell (p := ⟨ab, ao + j * 5 + 2, none⟩) hab).trans c2
      have k3 := (hbl.cell (p := ⟨ab, ao + j * 5 + 3, none⟩) hab).trans c3
      have k4 := (hbl.cell (p := ⟨ab, ao + j * 5 + 4, none⟩) hab).trans c4
      have hlen := encXt_len (w := w) HH.out.good (by omega) j
      have HS0 := Lib.hid (hst.alloc (.cells #[.int .i64 x.c.stamp, .slice x.A1 x.c.parents.length x.c1, .slice x.A2 x.c.picks.length x.c2, .string x.c.note, .slice x.A3 x.c.writes.length x.c3] 36))
      have HP := Lib.hid (putCommit_any w.heap.size _ _ (.agg #[.int .i64 x.c.stamp, .slice x.A1 x.c.parents.length x.c1, .slice x.A2 x.c.picks.length x.c2, .string x.c.note, .slice x.A3 x.c.writes.length x.c3]) _ x.c _ HS0.out.1 (by simp; omega)
        ⟨_, _, _, _, _, _, rfl, (hgd.r1.below hbl).alloc hsz _, (hgd.r2.below hbl).alloc hsz _, (hgd.r3.below hbl).alloc hsz _⟩ hgd.ok (by simp only [List.length_append]; omega))
      have HE := Lib.hid (encX_take hx)
      clear hst hx hgd hbl c0 c1 c2 c3 c4 hlen
      go_wp2_with fail
      refine (HP.out).mono ?_
      intro e w2 h
      obtain ⟨v2, rfl, hst2, hg2⟩ := HS0.out.put h
      rw [List.append_assoc, ← HE.out] at hst2
      have HST2 := Lib.hid hst2
      clear h hst2 hg2 HP HS0
      go_wp2_with fail
      go_roundw
      case rel => exact ⟨j + 1, by omega, by go_num, HST2.out⟩
      case measure => simp [intOf]; omega
    · have R : New w (encXs xs) (.returned u3) wr := by
        have e1 : xs.take j = xs := List.take_of_length_le (by rw [HL.out]; omega)
        rw [e1] at hst
        refine ⟨u3, rfl, ?_, hst.2.below (Nat.le_refl _) (fun g hg => by simp [Value.ownBlock] at hg)⟩
        have h1 := hst.1
        unfold encXs
        rw [HL.out]
        simpa using h1
      clear hst
      go_wp2_with fail
      go_ret
      exact R

set_option maxRecDepth 100000 in
set_option maxHeartbeats 1600000 in
theorem refCommits_any (A : Option Addr) (n cp : Nat) (xs : List CX) (w : World) (h : Coms w A n xs) (hn : n + sumC xs ≤ 1000000) :
    Calls Try.prog 18 #[.slice A n cp] w (New w (encXs xs)) := by
  obtain ⟨i0, hi, hi0, hi1, hi2⟩ := info_parts u8_info
  have HL := Lib.hid h.len
  have HH := Lib.hid h
  clear h
  have HP := Lib.hid (refInt_any none 0 0 [] (n : Int) w (by omega) Reads.none_ (by omega) (by omega))
  have l1 := encI_nat (n := n) (by omega)
  go_enter Try.func18, Try.ntmps18
  go_wp2_with fail
  refine (HP.out).mono ?_
  intro e w1 h
  obtain ⟨v1, rfl, hst1⟩ := h.nw
  simp only [List.nil_append] at hst1
  have HST1 := Lib.hid hst1
  clear h hst1 HP
  go_wp2_with fail
  go_loopw [3, 4] (fun v' i wr => ∃ j : Nat, j ≤ n ∧ i = .int .i64 (j : Int) ∧ Nw w wr (encI (n : Int) ++ encX (xs.take j)) v') (fun _ i _ => n - (intOf i).toNat)
  case atStart => exact ⟨0, by omega, rfl, by simpa [encX] using HST1.out⟩
  case round =>
    obtain ⟨j, hj, rfl, hst⟩ := hrel
    have hsz := hst.2.size
    by_cases hlt : j < n
    · obtain ⟨x, hx⟩ : ∃ x, xs[j]? = some x := ⟨_, List.getElem?_eq_getElem (by rw [HL.out]; exact hlt)⟩
      have hbl := hst.2
      obtain ⟨ab, ao, rfl, hab, c0, c1, c2, c3, c4⟩ := coms_at HH.out hx
      have hgd := HH.out.good x (List.mem_of_getElem? hx)
      have hsx := sumC_mem (List.mem_of_getElem? hx)
      have k0 := (hbl.cell (p := ⟨ab, ao + j * 5, none⟩) hab).trans c0
      have k1 := (hbl.cell (p := ⟨ab, ao + j * 5 + 1, none⟩) hab).trans c1
      have k2 := (hbl.cell (p := ⟨ab, ao + j * 5 + 2, none⟩) hab).trans c2
      have k3 := (hbl.cell (p := ⟨ab, ao + j * 5 + 3, none⟩) hab).trans c3
      have k4 := (hbl.cell (p := ⟨ab, ao + j * 5 + 4, none⟩) hab).trans c4
      have hlen := encXt_len (w := w) HH.out.good (by omega) j
      have hcl := encCommit_len hgd.ok (by omega)
      have HP := Lib.hid (refCommit_any (.agg #[.int .i64 x.c.stamp, .slice x.A1 x.c.parents.length x.c1, .slice x.A2 x.c.picks.length x.c2, .string x.c.note, .slice x.A3 x.c.writes.length x.c3]) x.c wr (hgd.up hbl).is hgd.ok (by omega))
      have HE := Lib.hid (encX_take hx)
      have HST := Lib.hid hst
      clear hst hx hgd hbl c0 c1 c2 c3 c4
      go_wp2_with fail
      refine (HP.out).mono ?_
      intro e w2 h
      obtain ⟨v2, rfl, hst2⟩ := h.nw
      obtain ⟨A2, c2, rfl, hr2⟩ := hst2.reads
      have hown := owns_below HST.out.1 hst2.2 (fun g hg => (HST.out.1.lt g hg).2)
      have hsrc : Src Try.prog 1 22 (.slice A2 (encCommit x.c).length c2) (encCommit x.c).length ((encCommit x.c).map byt) w2 := src_reads _ Try.underlying22 c2 hr2 (byt_one _)
      have hz2 := hst2.2.size
      have HB2 := Lib.hid (HST.out.2.trans (hst2.2.mono hsz))
      obtain ⟨pre, hpre⟩ : ∃ pre, pre = encI (n : Int) ++ encX (xs.take j) := ⟨_, rfl⟩
      have hpl : pre.length ≤ 10 + 60 * j + 100 * sumC xs := by rw [hpre, List.length_append]; omega
      rw [← hpre] at hown
      obtain ⟨ne, hne⟩ : ∃ ne, ne = encCommit x.c := ⟨_, rfl⟩
      rw [← hne] at hsrc hcl ⊢
      have HPRE := Lib.hid hpre
      have HNE := Lib.hid hne
      have HO := Lib.hid hown
      have HSRC := Lib.hid hsrc
      clear h hst2 hr2 HP hpre hne hlen hsrc
      go_wp2_with (at_builtin; refine wpList_append_row _ rfl (.tmp 14) (.tmp 19) 22 22 rfl w.heap.size 5 i0 (.int .u8 0) 1 1 Try.underlying22 hi hi0 hi1 hi2 rfl (by decide) _ _ _ rfl hown _ ne.length (ne.map byt) rfl HSRC.out (by unfold maxLen; omega) (by omega) (by omega) ?_)
      intro v3 w3 hown3 hg3
      have HST3 : Hid (Nw w w3 (encI (n : Int) ++ encX (xs.take (j + 1))) v3) := by
        refine ⟨?_, HB2.out.trans (hg3.below HB2.out.size (fun g hg => (HO.out.lt g hg).1))⟩
        rw [HE.out, ← List.append_assoc, ← HPRE.out, ← HNE.out, List.length_append, List.map_append]
        exact hown3
      clear hown3 hg3 hown
      go_wp2_with fail
      go_roundw
      case rel => exact ⟨j + 1, by omega, by go_num, HST3.out⟩
      case measure => simp [intOf]; omega
    · have R : New w (encXs xs) (.returned u3) wr := by
        have e1 : xs.take j = xs := List.take_of_length_le (by rw [HL.out]; omega)
        rw [e1] at hst
        have h1 := hst.mk
        unfold encXs
        rw [HL.out]
        exact h1
      clear hst
      go_wp2_with fail
      go_ret
      exact R
end Go.Proofs.Ytnnclopojiegfaa
