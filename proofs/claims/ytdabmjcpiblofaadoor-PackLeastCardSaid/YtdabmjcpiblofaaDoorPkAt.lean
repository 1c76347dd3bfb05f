/-
  At, the reference's. No condition.
-/
import Derived.Test.YtdabmjcpiblofaaDoorPkSa
namespace Go.Proofs.YtdabmjcpiblofaaDoor
open Go.RowKit
set_option linter.unusedVariables false


/-- the node at a path -/
def TX.find : TX → List Int → Option TX
  | t, [] => some t
  | t, i :: p => if i < 0 ∨ (t.kids.length : Int) ≤ i then none else match t.kids[i.toNat]? with
    | none => none
    | some k => TX.find k p
def zeroArr : Array Value := #[.int .i64 0, .string ByteArray.empty, .slice none 0 0, .slice none 0 0]
/-- the node, or an empty one -/
def FindPost (w : World) (o : Option TX) (e : Ending) (w' : World) : Prop :=
  Below w.heap.size w w' ∧ match o with
  | none => e = .returned (.tuple #[.agg zeroArr, .bool false])
  | some t => e = .returned (.tuple #[t.val, .bool true])

/-- a node stored over a node -/
theorem blk_put4 {w : World} {b : Nat} {s : TX} (h : Blk w b 42 s.arr) (k : TX) : Blk ((((w.setCell ⟨b, 0, none⟩ (.int .i64 k.kind)).setCell ⟨b, 1, none⟩ (.string k.text)).setCell ⟨b, 2, none⟩ (.slice k.lA k.leads.length k.lc)).setCell ⟨b, 3, none⟩ (.slice k.kA k.kids.length k.kc)) b 42 k.arr :=
  (((h.set_ 0 _).set_ 1 _).set_ 2 _).set_ 3 _
theorem far_put4 {w : World} {b g : Nat} {t : TypeId} {cs : Array Value} (h : Blk w g t cs) (hne : g ≠ b) (k : TX) : Blk ((((w.setCell ⟨b, 0, none⟩ (.int .i64 k.kind)).setCell ⟨b, 1, none⟩ (.string k.text)).setCell ⟨b, 2, none⟩ (.slice k.lA k.leads.length k.lc)).setCell ⟨b, 3, none⟩ (.slice k.kA k.kids.length k.kc)) g t cs :=
  (((h.far hne _).far hne _).far hne _).far hne _
theorem below_put4 {w0 w : World} {B b : Nat} (h : Below B w0 w) (hb : B ≤ b) (k : TX) : Below B w0 ((((w.setCell ⟨b, 0, none⟩ (.int .i64 k.kind)).setCell ⟨b, 1, none⟩ (.string k.text)).setCell ⟨b, 2, none⟩ (.slice k.lA k.leads.length k.lc)).setCell ⟨b, 3, none⟩ (.slice k.kA k.kids.length k.kc)) :=
  (((h.setCell hb _).setCell hb _).setCell hb _).setCell hb _
theorem find_step {s k : TX} {p : List Int} {j m : Nat} (hx : p[j]? = some (m : Int)) (hk : s.kids[m]? = some k) : s.find (p.drop j) = k.find (p.drop (j + 1)) := by
  have hlt := (List.getElem?_eq_some_iff.1 hk).1
  obtain ⟨hj, he⟩ := List.getElem?_eq_some_iff.1 hx
  rw [List.drop_eq_getElem_cons hj, he, TX.find, if_neg (by omega)]
  simp [hk]
theorem find_out {s : TX} {p : List Int} {j : Nat} {x : Int} (hx : p[j]? = some x) (h : x < 0 ∨ (s.kids.length : Int) ≤ x) : s.find (p.drop j) = none := by
  obtain ⟨hj, he⟩ := List.getElem?_eq_some_iff.1 hx
  rw [List.drop_eq_getElem_cons hj, he, TX.find, if_pos h]


set_option maxRecDepth 100000 in
set_option maxHeartbeats 1600000 in
theorem rat_any (t : TX) (A : Option Addr) (c : Nat) (p : List Int) (w : World) (h : Tr w w.heap.size t) (hp : Reads w w.heap.size 1 A p.length (p.map (Value.int .i64))) (hl : p.length ≤ 140737488351232) :
    Calls Tryd.prog 24 #[t.val, .slice A p.length c] w (FindPost w (t.find p)) := by
  unfold TX.val
  have HP := Lib.hid hp
  have H := Lib.hid h
  clear h hp
  go_enter Tryd.func24, Tryd.ntmps24
  go_wp2_with fail
  go_loopw [6] (fun i wr => ∃ (j : Nat) (s : TX), j ≤ p.length ∧ i = .int .i64 (j : Int) ∧ Hid (t.find p = s.find (p.drop j)) ∧ Hid (Tr w w.heap.size s) ∧ Hid (Below w.heap.size w wr) ∧ Hid (Blk wr w.heap.size 42 s.arr) ∧ Hid (Blk wr (w.heap.size + 1) 42 zeroArr)) (fun i _ => p.length - (intOf i).toNat)
  case atStart =>
    refine ⟨0, t, by omega, rfl, rfl, H, ?_, ?_, ?_⟩
    · exact ((Below.refl _ w).alloc (Nat.le_refl _) _).alloc (by simp) _
    · exact (Blk.new w 42 _).alloc _
    · have := Blk.new (w.alloc (.cells t.arr 42)) 42 zeroArr
      have e : (w.alloc (.cells t.arr 42)).heap.size = w.heap.size + 1 := by simp
      rw [e] at this
      exact this
  case round =>
    obtain ⟨j, s, hj, rfl, HF, HS, HB, HX, HZ⟩ := hrel
    have c3 := HX.out.cell 3
    simp [TX.arr] at c3
    by_cases hlt : j < p.length
    · obtain ⟨x, hx⟩ : ∃ x, p[j]? = some x := ⟨_, List.getElem?_eq_getElem hlt⟩
      obtain ⟨b1, o1, u1, rfl, -, hu1, g1⟩ := (HP.out.below HB.out).at1 hlt
      obtain rfl : u1 = .int .i64 x := by rw [List.getElem?_map, hx] at hu1; simpa using hu1.symm
      have i0 : (0 : Int) ≤ (j : Int) := by omega
      have i1 : (j : Int) < (p.length : Int) := by omega
      by_cases hin : 0 ≤ x ∧ x < s.kids.length
      · obtain ⟨h0, h1⟩ := hin
        obtain ⟨m, rfl⟩ : ∃ m : Nat, x = m := ⟨x.toNat, by omega⟩
        have n1 : decide ((m : Int) < 0) = false := by simp
        have n2 : decide (s.kids.length ≤ m) = false := by simp; omega
        have n3 : decide ((s.kids.length : Int) ≤ (m : Int)) = false := by simp; omega
        obtain ⟨k, hk⟩ : ∃ k, s.kids[m]? = some k := ⟨_, List.getElem?_eq_getElem (by omega)⟩
        obtain ⟨ab, ao, hA, hab, e0, e1, e2, e3⟩ := (HS.out.low HB.out).at_ hk
        rw [hA] at c3
        have hf0 := HX.out.frozen 0
        have hf1 := HX.out.frozen 1
        have hf2 := HX.out.frozen 2
        have hf3 := HX.out.frozen 3
        have b0 := HX.out.cell 0
        have b1' := HX.out.cell 1
        have b2 := HX.out.cell 2
        simp [TX.arr] at b0 b1' b2
        have HFK := Lib.hid (HF.out.trans (find_step hx hk))
        have HSK := Lib.hid (HS.out.sub k (List.mem_of_getElem? hk))
        have HBK := Lib.hid (fun q => below_put4 (below_drewN HB.out q) (Nat.le_refl _) k)
        have HXK := Lib.hid (fun q => blk_put4 (HX.out.drewN q) k)
        have HZK := Lib.hid (fun q => far_put4 (HZ.out.drewN q) (b := w.heap.size) (by omega) k)
        clear hu1 hx hA hk
        go_wp2_with fail
        go_quiet (fail)
        go_wp2_with fail
        refine region_tail 8 (by kernel_rfl) (by kernel_rfl) _ rfl ?_
        simp only [List.take_succ_cons, List.take_zero, List.drop_succ_cons, List.drop_zero]
        repeat (go_big_quiet_step (fail))
        refine wpQuiet_nil ?_
        go_wp2_with fail
        go_roundw
        case rel => exact ⟨j + 1, k, by omega, by go_num, HFK, HSK, HBK.out (nq + 1), HXK.out (nq + 1), HZK.out (nq + 1)⟩
        case measure => simp [intOf]; omega
      · have HFN := Lib.hid (HF.out.trans (find_out hx (s := s) (by omega)))
        have HD : Hid (decide (x < 0) = true ∨ (decide (x < 0) = false ∧ decide ((s.kids.length : Int) ≤ x) = true)) := by unfold Hid; simp; omega
        have z0 := HZ.out.frozen 0
        have z1 := HZ.out.frozen 1
        have z2 := HZ.out.frozen 2
        have z3 := HZ.out.frozen 3
        have y0 := HZ.out.cell 0
        have y1 := HZ.out.cell 1
        have y2 := HZ.out.cell 2
        have y3 := HZ.out.cell 3
        simp [zeroArr] at y0 y1 y2 y3
        have HBE := Lib.hid (fun q => below_put4 (below_drewN HB.out q) (b := w.heap.size + 1) (by omega) (.node 0 ByteArray.empty none [] 0 none [] 0))
        have HXE := Lib.hid (fun q => blk_put4 (s := .node 0 ByteArray.empty none [] 0 none [] 0) (HZ.out.drewN q) (.node 0 ByteArray.empty none [] 0 none [] 0))
        clear hu1 hx hin
        rcases HD.out with q1 | ⟨q1, q2⟩
        all_goals
          go_wp2_with fail
          go_quiet (fail)
          have x0 := (HXE.out nq).cell 0
          have x1 := (HXE.out nq).cell 1
          have x2 := (HXE.out nq).cell 2
          have x3 := (HXE.out nq).cell 3
          simp [TX.arr, TX.kind, TX.text, TX.lA, TX.leads, TX.lc, TX.kA, TX.kids, TX.kc] at x0 x1 x2 x3
          have he : ByteArray.empty = (⟨#[]⟩ : ByteArray) := rfl
          rw [he] at x0 x1 x2 x3
          go_wp2_with fail
          refine bodyPost_ret (v := .tuple #[.agg zeroArr, .bool false]) (by simp [results, Tryd.results24, go_sem, x0, x1, x2, x3, zeroArr]; rfl) rfl ?_
          rw [HFN.out]
          exact ⟨HBE.out nq, rfl⟩
    · have HFN : Hid (t.find p = some s) := by
        have h := HF.out
        rw [List.drop_eq_nil_of_le (by omega)] at h
        exact h
      have b0 := HX.out.cell 0
      have b1' := HX.out.cell 1
      have b2 := HX.out.cell 2
      simp [TX.arr] at b0 b1' b2
      have z0 := HZ.out.frozen 0
      have z1 := HZ.out.frozen 1
      have z2 := HZ.out.frozen 2
      have z3 := HZ.out.frozen 3
      have y0 := HZ.out.cell 0
      have y1 := HZ.out.cell 1
      have y2 := HZ.out.cell 2
      have y3 := HZ.out.cell 3
      simp [zeroArr] at y0 y1 y2 y3
      have HBE := Lib.hid (below_put4 HB.out (b := w.heap.size + 1) (by omega) s)
      have hxe := blk_put4 (s := .node 0 ByteArray.empty none [] 0 none [] 0) HZ.out s
      have x0 := hxe.cell 0
      have x1 := hxe.cell 1
      have x2 := hxe.cell 2
      have x3 := hxe.cell 3
      simp [TX.arr] at x0 x1 x2 x3
      clear hxe
      go_wp2_with fail
      refine bodyPost_ret (v := .tuple #[s.val, .bool true]) (by simp [results, Tryd.results24, go_sem, x0, x1, x2, x3, TX.val]) rfl ?_
      rw [HFN.out]
      exact ⟨HBE.out, rfl⟩
end Go.Proofs.YtdabmjcpiblofaaDoor
