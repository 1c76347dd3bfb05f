/-
  Number, the program's. No condition.
-/
import Derived.Test.YthaepakpeamajaaTrF
namespace Go.Proofs.Ythaepakpeamajaa
open Go.RowKit
set_option linter.unusedVariables false

/-- the number of the node at a path that there is -/
def TX.num : TX → List Int → Int
  | _, [] => 0
  | t, i :: p => 1 + (szs t i.toNat : Int) + match t.kids[i.toNat]? with
    | none => 0
    | some k => TX.num k p
def TX.numW (t : TX) (p : List Int) : Int := match t.find p with
  | none => -1
  | some _ => wrap64 (t.num p)
theorem num_step {s k : TX} {p : List Int} {j m : Nat} (hx : p[j]? = some (m : Int)) (hk : s.kids[m]? = some k) : s.num (p.drop j) = 1 + (szs s m : Int) + k.num (p.drop (j + 1)) := by
  obtain ⟨hj, he⟩ := List.getElem?_eq_some_iff.1 hx
  rw [List.drop_eq_getElem_cons hj, he, TX.num]
  simp [hk]
theorem numW_none {t : TX} {p : List Int} (h : t.find p = none) : t.numW p = -1 := by unfold TX.numW; rw [h]
theorem numW_some {t s : TX} {p : List Int} (h : t.find p = some s) : t.numW p = wrap64 (t.num p) := by unfold TX.numW; rw [h]
theorem find_none {t : TX} {A : Option Addr} {c : Nat} {p : List Int} {w : World} (h : Tr w w.heap.size t) (hp : Reads w w.heap.size 1 A p.length (p.map (Value.int .i64))) (hl : p.length ≤ 140737488351232) (hb : ∀ x ∈ p, -9223372036854775808 ≤ x ∧ x ≤ 9223372036854775807) (hf : t.find p = none) :
    Calls Try.prog 30 #[t.val, .slice A p.length c] w (Ret w (.tuple #[.agg zeroArr, .bool false])) :=
  (find_any t A c p w h hp hl hb).mono fun e w' hq => by unfold FindPost at hq; rw [hf] at hq; exact ⟨hq.2, hq.1⟩
theorem find_some {t s : TX} {A : Option Addr} {c : Nat} {p : List Int} {w : World} (h : Tr w w.heap.size t) (hp : Reads w w.heap.size 1 A p.length (p.map (Value.int .i64))) (hl : p.length ≤ 140737488351232) (hb : ∀ x ∈ p, -9223372036854775808 ≤ x ∧ x ≤ 9223372036854775807) (hf : t.find p = some s) :
    Calls Try.prog 30 #[t.val, .slice A p.length c] w (Ret w (.tuple #[s.val, .bool true])) :=
  (find_any t A c p w h hp hl hb).mono fun e w' hq => by unfold FindPost at hq; rw [hf] at hq; exact ⟨hq.2, hq.1⟩
theorem find_tr {w : World} {B : Nat} : ∀ (p : List Int) (t s : TX), Tr w B t → t.find p = some s → Tr w B s
  | [], t, s, h, hf => by rw [TX.find] at hf; injection hf with hf; subst hf; exact h
  | i :: p, t, s, h, hf => by
    rw [TX.find] at hf
    split at hf
    · cases hf
    · split at hf
      · cases hf
      · rename_i k hk
        exact find_tr p k s (h.sub k (List.mem_of_getElem? hk)) hf
theorem wrap_one (a : Int) : wrap64 (wrap64 a + 1) = wrap64 (a + 1) := by unfold wrap64; omega

set_option maxRecDepth 100000 in
set_option maxHeartbeats 1600000 in
theorem number_any (t : TX) (A : Option Addr) (c : Nat) (p : List Int) (w : World) (h : Tr w w.heap.size t) (hp : Reads w w.heap.size 1 A p.length (p.map (Value.int .i64))) (hl : p.length ≤ 140737488351232) (hb : ∀ x ∈ p, -9223372036854775808 ≤ x ∧ x ≤ 9223372036854775807) :
    Calls Try.prog 14 #[t.val, .slice A p.length c] w (Ret w (.int .i64 (t.numW p))) := by
  have HW0 : Hid (Below w.heap.size w (w.alloc (.cells t.arr 25))) := (Below.refl _ w).alloc (Nat.le_refl _) _
  have HX0 : Hid (Blk (w.alloc (.cells t.arr 25)) w.heap.size 25 t.arr) := Blk.new w 25 _
  have ht0 : Tr (w.alloc (.cells t.arr 25)) (w.alloc (.cells t.arr 25)).heap.size t := h.up (Nat.le_refl _) HW0.out
  have hp0 : Reads (w.alloc (.cells t.arr 25)) (w.alloc (.cells t.arr 25)).heap.size 1 A p.length (p.map (Value.int .i64)) := (hp.below HW0.out).more HW0.out.size
  cases hf : t.find p with
  | none =>
    have HC := Lib.hid (find_none (c := c) ht0 hp0 hl hb hf)
    have HE := Lib.hid (numW_none hf)
    unfold TX.val TX.arr at HC
    unfold TX.val
    clear h hp hb ht0 hp0 hf
    go_enter Try.func14, Try.ntmps14
    go_wp2_with fail
    refine (HC.out).mono ?_
    rintro e w1 ⟨rfl, hb1⟩
    have HB1 := Lib.hid hb1
    clear hb1
    unfold zeroArr
    go_wp2_with fail
    go_ret
    exact ⟨by rw [HE.out]; rfl, (HW0.out.trans (HB1.out.mono HW0.out.size)).alloc (HW0.out.trans (HB1.out.mono HW0.out.size)).size _⟩
  | some r =>
    have HC := Lib.hid (find_some (c := c) ht0 hp0 hl hb hf)
    have HE := Lib.hid (numW_some hf)
    have HFR := Lib.hid hf
    have HP := Lib.hid hp
    have H := Lib.hid h
    unfold TX.val TX.arr at HC
    unfold TX.val
    clear h hp hb ht0 hp0 hf
    go_enter Try.func14, Try.ntmps14
    go_wp2_with fail
    refine (HC.out).mono ?_
    rintro e w1 ⟨rfl, hb1⟩
    have HB1 := Lib.hid (HW0.out.trans (hb1.mono HW0.out.size))
    have HX1 := Lib.hid ((HX0.out.below hb1 HX0.out.lt).alloc (.cells r.arr 25))
    clear hb1
    go_wp2_with fail
    go_loopw [7, 22] (fun n i wr => ∃ (j : Nat) (s : TX) (acc : Int), j ≤ p.length ∧ i = .int .i64 (j : Int) ∧ n = .int .i64 (wrap64 acc) ∧ Hid (t.num p = acc + s.num (p.drop j)) ∧ Hid (t.find p = s.find (p.drop j)) ∧ Hid (Tr w w.heap.size s) ∧ Hid (Below w.heap.size w wr) ∧ Hid (Blk wr w.heap.size 25 s.arr)) (fun _ i _ => p.length - (intOf i).toNat)
    case atStart => exact ⟨0, t, 0, by omega, rfl, congrArg _ (IntWalk.wrap64_in 0 (by simp)).symm, by simp [Hid], rfl, H, HB1.out.alloc HB1.out.size _, HX1⟩
    case round =>
      obtain ⟨j, s, acc, hj, rfl, rfl, HN, HF, HS, HB, HX⟩ := hrel
      have c3 := HX.out.cell 3
      simp [TX.arr] at c3
      by_cases hlt : j < p.length
      · obtain ⟨x, hx⟩ : ∃ x, p[j]? = some x := ⟨_, List.getElem?_eq_getElem hlt⟩
        obtain ⟨b1, o1, u1, rfl, -, hu1, g1⟩ := (HP.out.below HB.out).at1 hlt
        obtain rfl : u1 = .int .i64 x := by rw [List.getElem?_map, hx] at hu1; simpa using hu1.symm
        by_cases hin : 0 ≤ x ∧ x < s.kids.length
        rotate_left
        · have := HF.out.trans (find_out hx (s := s) (by omega))
          rw [HFR.out] at this
          cases this
        obtain ⟨h0, h1⟩ := hin
        obtain ⟨m, rfl⟩ : ∃ m : Nat, x = m := ⟨x.toNat, by omega⟩
        have hkc := HS.out.kcap
        have hkb := HS.out.kb
        obtain ⟨k, hk⟩ : ∃ k, s.kids[m]? = some k := ⟨_, List.getElem?_eq_getElem (by omega)⟩
        obtain ⟨ab, ao, hA, hab, -⟩ := (HS.out.low HB.out).at_ hk
        rw [hA] at c3
        have HA := Lib.hid hA
        have HNK : Hid (t.num p = acc + 1 + (szs s m : Int) + k.num (p.drop (j + 1))) := by have := HN.out; rw [num_step hx hk] at this; unfold Hid; omega
        have HFK := Lib.hid (HF.out.trans (find_step hx hk))
        have HSK := Lib.hid (HS.out.sub k (List.mem_of_getElem? hk))
        have HK := Lib.hid hk
        clear hu1 hx hA hk
        go_wp2_with fail
        go_loopw [7, 33] (fun n i wr => ∃ i' : Nat, i' ≤ m ∧ i = .int .i64 (i' : Int) ∧ n = .int .i64 (wrap64 (acc + 1 + (szs s i' : Int))) ∧ Hid (Below w.heap.size w wr) ∧ Hid (Blk wr w.heap.size 25 s.arr)) (fun _ i _ => m - (intOf i).toNat)
        case atStart => exact ⟨0, by omega, rfl, by rw [szs_zero]; exact congrArg _ (by rw [wrap_one]; simp), HB, HX⟩
        case round =>
          obtain ⟨i, hi, rfl, rfl, HB2, HX2⟩ := hrel
          clear c3 g1
          have c3 := HX2.out.cell 3
          simp [TX.arr] at c3
          rw [HA.out] at c3
          by_cases hlt2 : i < m
          · obtain ⟨l, hl'⟩ : ∃ l, s.kids[i]? = some l := ⟨_, List.getElem?_eq_getElem (by omega)⟩
            obtain ⟨e0, e1, e2, e3⟩ := (HS.out.low HB2.out).c4 hl' HA.out
            have HZ := Lib.hid (szs_succ hl')
            obtain ⟨wk, hwk⟩ : ∃ wk, wr.alloc (.cells #[.int .i64 l.kind, .string l.text, .slice l.lA l.leads.length l.lc, .slice l.kA l.kids.length l.kc] 25) = wk := ⟨_, rfl⟩
            have hbk : Blk wk wr.heap.size 25 #[.int .i64 l.kind, .string l.text, .slice l.lA l.leads.length l.lc, .slice l.kA l.kids.length l.kc] := by subst hwk; exact Blk.new wr 25 _
            have f0 := hbk.cell 0
            have f1 := hbk.cell 1
            have f2 := hbk.cell 2
            have f3 := hbk.cell 3
            simp at f0 f1 f2 f3
            clear hbk
            have HBK : Hid (Below w.heap.size w wk) := by subst hwk; exact HB2.out.alloc HB2.out.size _
            have HXK : Hid (Blk wk w.heap.size 25 s.arr) := by subst hwk; exact HX2.out.alloc _
            have HC2 := Lib.hid (size_any l wk ((HS.out.sub l (List.mem_of_getElem? hl')).up (Nat.le_refl _) HBK.out))
            unfold SizeAt TX.val at HC2
            clear hl'
            go_wp2_with fail
            refine (HC2.out).mono ?_
            rintro e w2 ⟨rfl, hb2⟩
            have HB3 := Lib.hid (HBK.out.trans (hb2.mono HBK.out.size))
            have HX3 := Lib.hid (HXK.out.below hb2 HXK.out.lt)
            clear hb2
            go_wp2_with fail
            go_roundw
            case rel => exact ⟨i + 1, by omega, by go_num, by rw [HZ.out]; exact congrArg _ ((wrap_add _ _).trans (congrArg _ (by omega))), HB3, HX3⟩
            case measure => simp [intOf]; omega
          · obtain rfl : i = m := by omega
            obtain ⟨e0, e1, e2, e3⟩ := (HS.out.low HB2.out).c4 HK.out HA.out
            have hf0 := HX2.out.frozen 0
            have hf1 := HX2.out.frozen 1
            have hf2 := HX2.out.frozen 2
            have hf3 := HX2.out.frozen 3
            have b0 := HX2.out.cell 0
            have b1' := HX2.out.cell 1
            have b2 := HX2.out.cell 2
            simp [TX.arr] at b0 b1' b2
            have HBK := Lib.hid (below_put4 HB2.out (Nat.le_refl _) k)
            have HXK := Lib.hid (blk_put4 HX2.out k)
            go_wp2_with fail
            go_roundw
            case rel => exact ⟨j + 1, k, acc + 1 + (szs s i : Int), by omega, by go_num, rfl, HNK, HFK, HSK, HBK, HXK⟩
            case measure => simp [intOf]; omega
      · have HN2 : Hid (t.num p = acc) := by
          have h := HN.out
          rw [List.drop_eq_nil_of_le (by omega), TX.num] at h
          unfold Hid; omega
        go_wp2_with fail
        go_ret
        exact ⟨by rw [HE.out, HN2.out]; rfl, HB.out⟩
end Go.Proofs.Ythaepakpeamajaa
