/-
  The law's trees: the walk. No condition.
-/
import Derived.Test.YtdabmjcpiblofaaDoorPkRa
namespace Go.Proofs.YtdabmjcpiblofaaDoor
open Go.RowKit
set_option linter.unusedVariables false

theorem gRes_eq {l : List ND} {x : ND} {a : Nat} (hx : l[a]? = some x) : ∀ d, gRes (match d with | 0 => fun _ => (T0, 0) | d + 1 => growP l d) l.length a d x = growP l d a
  | 0 => by
    have e : l.getD a (0, 0, 0) = x := by simp [List.getD, hx]
    unfold gRes gCnt
    rw [growP, e]
    rfl
  | d + 1 => by
    have e : l.getD a (0, 0, 0) = x := by simp [List.getD, hx]
    unfold gRes gCnt
    rw [growP, e]
    rfl
theorem grow_any (A : Option Addr) (c : Nat) (l : List ND) (hl60 : l.length ≤ 60) (hli : ∀ x ∈ l, i64 x.1 ∧ i64 x.2.1 ∧ i64 x.2.2) : ∀ (d : Nat), d ≤ 5 → ∀ (a : Nat) (w : World), a < l.length → Reads w w.heap.size 3 A l.length (l.flatMap ndCells) →
    Calls Tryd.prog 35 #[.slice A l.length c, .int .i64 (a : Int), .int .i64 (d : Int)] w (GrowPost w (growP l d a))
  | 0, hd, a, w, ha, hr => by
    have h := grow_core A c l hl60 hli 0 hd (growP l 0) (growP_inv l 0) (fun h => absurd h (by omega)) a w ha hr l[a] (List.getElem?_eq_getElem ha)
    have e := gRes_eq (List.getElem?_eq_getElem ha) 0
    have e2 : gRes (growP l 0) l.length a 0 l[a] = growP l 0 a := e
    rw [e2] at h
    exact h
  | d + 1, hd, a, w, ha, hr => by
    have h := grow_core A c l hl60 hli (d + 1) hd (growP l d) (growP_inv l d) (fun _ a w h1 h2 => by
      have := grow_any A c l hl60 hli d (by omega) a w h1 h2
      have e : (((d + 1 : Nat) : Int) - 1) = (d : Int) := by omega
      rw [e]
      exact this) a w ha hr l[a] (List.getElem?_eq_getElem ha)
    have e2 : gRes (growP l d) l.length a (d + 1) l[a] = growP l (d + 1) a := gRes_eq (List.getElem?_eq_getElem ha) (d + 1)
    rw [e2] at h
    exact h
/-- the law's trees -/
def treesL (l : List ND) : List T := (kst (growP l 5) l.length 0 l.length).1
theorem treesL_inv (l : List ND) (h60 : l.length ≤ 60) : T.sizes (treesL l) ≤ 60 ∧ ∀ t ∈ treesL l, tiny t := by
  obtain ⟨-, h1, h2, h3⟩ := kst_inv (growP_inv l 5) 0 (Nat.zero_le _) l.length
  exact ⟨by unfold treesL; omega, h3⟩
def TLPost (w : World) (ts : List T) (e : Ending) (w' : World) : Prop :=
  ∃ (A : Option Addr) (c : Nat) (rs : List TX), e = .returned (.slice A rs.length c) ∧ rs.map TX.plain = ts ∧ TL w' w.heap.size w.heap.size (.slice A rs.length c) rs ∧ Below w.heap.size w w'
theorem reads_take {w : World} {B n m : Nat} {A : Option Addr} {l : List ND} (h : Reads w B 3 A n (l.flatMap ndCells)) (hm : m ≤ n) (hl : l.length = n) : Reads w B 3 A m ((l.take m).flatMap ndCells) := by
  have e : (l.take m).flatMap ndCells = (l.flatMap ndCells).take (m * 3) := by
    have h1 : l.flatMap ndCells = (l.take m).flatMap ndCells ++ (l.drop m).flatMap ndCells := by rw [← List.flatMap_append, List.take_append_drop]
    have h2 : ((l.take m).flatMap ndCells).length = m * 3 := by rw [flat_len ndCells_len, List.length_take]; congr 1; omega
    rw [h1, ← h2, List.take_left]
  rw [e]
  refine ⟨by rw [List.length_take, h.1]; omega, fun hn => ?_⟩
  obtain ⟨ad, e1, hb, hc⟩ := h.2 (by omega)
  refine ⟨ad, e1, hb, fun j u hu => hc j u ?_⟩
  rw [List.getElem?_take] at hu
  split at hu
  · exact hu
  · cases hu
set_option maxRecDepth 100000 in
set_option maxHeartbeats 3200000 in
theorem lawTrees_any (A : Option Addr) (c n : Nat) (l : List ND) (hnl : l.length = n) (hnc : n ≤ c) (hcm : n ≤ 140737488351232) (hli : ∀ x ∈ l, i64 x.1 ∧ i64 x.2.1 ∧ i64 x.2.2) (w : World) (hr : Reads w w.heap.size 3 A n (l.flatMap ndCells)) :
    Calls Tryd.prog 11 #[.slice A n c] w (TLPost w (treesL (l.take 60))) := by
  obtain ⟨m, hm⟩ : ∃ m, min n 60 = m := ⟨_, rfl⟩
  obtain ⟨l6, hl6⟩ : ∃ l6, l.take 60 = l6 := ⟨_, rfl⟩
  have hll : l6.length = m := by rw [← hl6, List.length_take, hnl]; omega
  have hm60 : m ≤ 60 := by omega
  have hmn : m ≤ n := by omega
  have hr6 : Reads w w.heap.size 3 A m (l6.flatMap ndCells) := by
    have h1 : l.take 60 = l.take m := by
      by_cases h : n ≤ 60
      · have : m = n := by omega
        rw [this, List.take_of_length_le (by omega), List.take_of_length_le (by omega)]
      · have : m = 60 := by omega
        rw [this]
    rw [← hl6, h1]
    exact reads_take hr hmn hnl
  have hli6 : ∀ x ∈ l6, i64 x.1 ∧ i64 x.2.1 ∧ i64 x.2.2 := fun x hx => hli x (by rw [← hl6] at hx; exact List.mem_of_mem_take hx)
  rw [hl6]
  have HGI := Lib.hid (growP_inv l6 5)
  have HKI := Lib.hid (kst_inv (growP_inv l6 5) 0 (Nat.zero_le _))
  have HR := Lib.hid hr6
  have HLI := Lib.hid hli6
  have HLL := Lib.hid hll
  have HM := Lib.hid hm
  obtain ⟨i0', hi', hz0, hz1, hz2⟩ := info_parts tree_info
  have HI := Lib.hid hi'
  have HZ0 := Lib.hid hz0
  have HZ1 := Lib.hid hz1
  have HZ2 := Lib.hid hz2
  clear hr hr6 hli hli6 hl6 hnl hll hi' hz0 hz1 hz2
  have E1 : Hid (min (n : Int) 60 = (m : Int)) := by unfold Hid; omega
  clear hm
  go_enter Tryd.func11, Tryd.ntmps11
  go_wp2_with fail
  rw [E1.out, Int.toNat_natCast]
  go_loopw [3, 4] (fun o av wr => ∃ (k at_ : Nat) (oA : Option Addr) (oc : Nat) (rs : List TX), k ≤ at_ ∧ at_ ≤ m ∧ av = .int .i64 (at_ : Int) ∧ o = .slice oA rs.length oc ∧ Hid (at_ = (kst (growP l6 5) m 0 k).2) ∧ Hid (rs.map TX.plain = (kst (growP l6 5) m 0 k).1) ∧ Hid (TL wr w.heap.size w.heap.size (.slice oA rs.length oc) rs) ∧ Hid (Below w.heap.size w wr)) (fun _ a _ => m - (intOf a).toNat)
  case atStart => exact ⟨0, 0, none, 0, [], by omega, by omega, rfl, rfl, rfl, rfl, TL.nil _ _ _, Below.refl _ _⟩
  case round =>
    obtain ⟨k, at_, oA, oc, rs, hk, hat, rfl, rfl, HAT, HPL, HTL, HB⟩ := hrel
    have hzr := HB.out.size
    by_cases hlt : at_ < m
    · have hgi := HGI.out at_ (by rw [HLL.out]; exact hlt)
      rw [HLL.out] at hgi
      have hrl : rs.length ≤ 60 := by
        have h1 := HPL.out
        have hki := HKI.out k
        rw [HLL.out] at hki
        obtain ⟨-, k2, k3, -⟩ := hki
        have h2 := len_sizes (kst (growP l6 5) m 0 k).1
        rw [← h1, List.length_map] at h2
        rw [h1] at h2
        omega
      obtain ⟨wz, hwz⟩ : ∃ wz, wr.alloc (.cells #[.int .i64 0, .string ⟨#[]⟩, .slice none 0 0, .slice none 0 0] 42) = wz := ⟨_, rfl⟩
      have HBZ : Hid (Below wr.heap.size wr wz) := by subst hwz; exact bal (Below.refl _ _) _
      have HZB : Hid (Blk wz wr.heap.size 42 zeroT) := by subst hwz; exact Blk.new _ _ _
      have hzz : wr.heap.size < wz.heap.size := HZB.out.lt
      have hC := grow_any A c l6 (by rw [HLL.out]; exact hm60) HLI.out 5 (by omega) at_ wz (by rw [HLL.out]; exact hlt) (by rw [HLL.out]; exact (HR.out.below (HB.out.trans (HBZ.out.mono hzr))).more (by omega))
      rw [HLL.out] at hC
      have HC := Lib.hid hC
      have HNX : Hid (kst (growP l6 5) m 0 (k + 1) = ((kst (growP l6 5) m 0 k).1 ++ [(growP l6 5 at_).1], (growP l6 5 at_).2)) := by
        unfold Hid
        rw [kst]
        rw [← HAT.out]
        exact if_pos hlt
      obtain ⟨fa, hfa⟩ : ∃ fa, (growP l6 5 at_).2 = fa := ⟨_, rfl⟩
      have hf1 : at_ < fa := by have := hgi.1; omega
      have hf2 : fa ≤ m := by have := hgi.2.1; omega
      have HFA := Lib.hid hfa
      clear hgi hfa hC
      go_wp2_with fail
      refine (HC.out).mono ?_
      rintro e w5 ⟨r5, rfl, hp5, ht5, hi5, hf5, hb5⟩
      rw [HFA.out]
      unfold TX.val
      have hzb5 := HZB.out.below hb5 HZB.out.lt
      have hz5 := hb5.size
      have y0 := hzb5.cell 0
      have y1 := hzb5.cell 1
      have y2 := hzb5.cell 2
      have y3 := hzb5.cell 3
      simp [zeroT] at y0 y1 y2 y3
      have z0 := hzb5.frozen 0
      have z1 := hzb5.frozen 1
      have z2 := hzb5.frozen 2
      have z3 := hzb5.frozen 3
      have hblk := put4_blk hzb5 (.int .i64 r5.kind) (.string r5.text) (.slice r5.lA r5.leads.length r5.lc) (.slice r5.kA r5.kids.length r5.kc)
      have hch := put4_chg w5 wr.heap.size (.int .i64 r5.kind) (.string r5.text) (.slice r5.lA r5.leads.length r5.lc) (.slice r5.kA r5.kids.length r5.kc)
      obtain ⟨wS, hwS⟩ : ∃ wS, ((((w5.setCell ⟨wr.heap.size, 0, none⟩ (.int .i64 r5.kind)).setCell ⟨wr.heap.size, 1, none⟩ (.string r5.text)).setCell ⟨wr.heap.size, 2, none⟩ (.slice r5.lA r5.leads.length r5.lc)).setCell ⟨wr.heap.size, 3, none⟩ (.slice r5.kA r5.kids.length r5.kc)) = wS := ⟨_, rfl⟩
      rw [hwS] at hblk hch
      have HBS : Hid (Below wr.heap.size wr wS) := (HBZ.out.trans (hb5.mono HBZ.out.size)).trans (hch.below (by omega) (fun i hi => by omega))
      have HTS : Hid (Tr wS wS.heap.size r5) := (ht5.chgS hi5 hch (Nat.le_refl _) (fun i hi e => by omega)).more hch.size
      have HIS : Hid (InS (wr.heap.size ≤ ·) r5) := hi5.mono (fun b hb => by omega)
      have HFS := Lib.hid hf5
      have HPS := Lib.hid hp5
      have u0 := hblk.cell 0
      have u1 := hblk.cell 1
      have u2 := hblk.cell 2
      have u3 := hblk.cell 3
      simp at u0 u1 u2 u3
      have HOW : Hid (wS.ownsRow w.heap.size 42 4 (.slice oA rs.length oc) rs.length (rs.flatMap TX.cells)) := owns_below HTL.out.row HBS.out (own_lt HTL.out.row)
      have hzS := HBS.out.size
      clear hp5 ht5 hi5 hf5 hb5 hzb5 hblk hch hwz
      go_wp2_with (at_builtin; refine wpList_append_row _ rfl (.tmp 21) (.tmp 23) 23 23 rfl w.heap.size 42 i0' (.agg #[.int .i64 0, .string ⟨#[]⟩, .slice none 0 0, .slice none 0 0]) 4 72 Tryd.underlying23 HI.out HZ0.out HZ1.out HZ2.out rfl (by decide) (.slice oA rs.length oc) rs.length (rs.flatMap TX.cells) rfl (HOW.out.alloc _) (.slice (some ⟨wS.heap.size, 0, none⟩) 1 1) 1 r5.cells rfl (src_new wS Tryd.underlying23 r5.cells 4 1 1 42 rfl (tree_one r5)) ?c1 ?c2 ?c3 ?_)
      case c1 => unfold maxLen; omega
      case c2 => omega
      case c3 => simp; omega
      intro v6 w6 ho6 hg6
      obtain ⟨A6, c6, rfl, -, -⟩ := reads_of_owns ho6
      have hln2 : (rs ++ [r5]).length = rs.length + 1 := by simp
      have HTLN : Hid (TL w6 w.heap.size w.heap.size (.slice A6 (rs ++ [r5]).length c6) (rs ++ [r5])) := by
        have h1 := (HTL.out.below HBS.out).step (r := r5) HTS.out (HIS.out.mono (fun b hb => ⟨by omega, fun e => by have := own_lt HTL.out.row b e; omega⟩)) HFS.out _ ho6 hg6
        unfold Hid
        rw [hln2]
        exact h1
      have HBN : Hid (Below w.heap.size w w6) := ((HB.out.trans (HBS.out.mono hzr)).trans ((bal (Below.refl _ wS) _).mono (by omega))).grown hg6.grown (by simp; omega) (fun g hg => own_from HOW.out g hg)
      have HATN : Hid (fa = (kst (growP l6 5) m 0 (k + 1)).2) := by unfold Hid; rw [HNX.out]; exact HFA.out.symm
      have HPLN : Hid ((rs ++ [r5]).map TX.plain = (kst (growP l6 5) m 0 (k + 1)).1) := by
        unfold Hid
        rw [HNX.out, List.map_append, HPL.out, List.map_cons, List.map_nil, HPS.out]
      have HL2 := Lib.hid hln2
      clear ho6 hg6 hln2
      go_wp2_with fail
      go_roundw
      case rel => exact ⟨k + 1, fa, A6, c6, rs ++ [r5], by omega, by omega, rfl, by rw [HL2.out], HATN, HPLN, HTLN, HBN⟩
      case measure => simp [intOf]; omega
    · obtain rfl : at_ = m := by omega
      have HE : Hid (TLPost w (treesL l6) (.returned (.slice oA rs.length oc)) wr) := by
        refine ⟨oA, oc, rs, rfl, ?_, HTL.out, HB.out⟩
        rw [HPL.out]
        unfold treesL
        rw [HLL.out, kst_stop (c := k) (c' := at_) hk (by rw [← HAT.out]; omega)]
      go_wp2_with fail
      go_ret
      exact HE.out
end Go.Proofs.YtdabmjcpiblofaaDoor
