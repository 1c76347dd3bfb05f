/-
  slices.Repeat of one number; math/bits.Mul by the library's contract. No condition.
-/
import Derived.Test.YtgmhinmakomabaaAsE
import Derived.Shelf.Bits.Mul64
namespace Go.Proofs
open Go.Shelf
def Try.lays212_ren : Go.Shelf.Ren := ⟨fun | 212 => 31 | 263 => 37 | 264 => 38 | n => n, fun | 46 => 56 | 109 => 57 | 51 => 65 | 146 => 66 | 53 => 68 | 148 => 69 | n => n, fun | n => n⟩
theorem Try.lays212 : Go.Proofs.Lays.n212 Try.prog Try.lays212_ren := {
  mixed := by kernel_rfl
  f212 := Try.func31.trans (congrArg some (by kernel_rfl))
  f263 := Try.func37.trans (congrArg some (by kernel_rfl))
  f264 := Try.func38.trans (congrArg some (by kernel_rfl))
  t46 := Try.underlying56
  a46 := Try.isAgg56
  z46 := Try.sizeOf56
  v46 := Try.zeroValue56
  t51 := Try.underlying65
  a51 := Try.isAgg65
  z51 := Try.sizeOf65
  v51 := Try.zeroValue65
  t146 := Try.underlying66
  a146 := Try.isAgg66
  z146 := Try.sizeOf66
  v146 := Try.zeroValue66
  t148 := Try.underlying69
  a148 := Try.isAgg69
  z148 := Try.sizeOf69
  v148 := Try.zeroValue69
  t53 := Try.underlying68
  a53 := Try.isAgg68
  z53 := Try.sizeOf68
  v53 := Try.zeroValue68 }
end Go.Proofs
namespace Go.Proofs.Ytgmhinmakomabaa
open Go.RowKit
set_option linter.unusedVariables false

theorem mul_one_any (n : Nat) (hn : n ≤ 1000) (w : World) : Calls Try.prog 31 #[.int .u64 1, .int .u64 (n : Int)] w fun e w' => e = .returned (.tuple #[.int .u64 0, .int .u64 (n : Int)]) ∧ w = w' := by
  refine (Go.Proofs.Any.bits_Mul Try.lays212 1 n (by omega) (by omega) w).mono ?_
  rintro e w' ⟨rfl, rfl⟩
  refine ⟨?_, rfl⟩
  rw [Nat.one_mul, Nat.div_eq_of_lt (by omega), Nat.mod_eq_of_lt (by omega)]
  rfl

theorem put_some (a : Act) (d : Nat) (v : Value) : a.put (some d) v = { a with tmps := a.tmps.setIfInBounds d v } := rfl
/-- the first p numbers are written -/
def repF (p : Nat) (i : Nat) : Int := if i < p then -1 else 0
theorem rep_splice (n p m : Nat) (h : p + m ≤ n) : splice ((List.range n).map (iv (repF p))) p (List.replicate m (.int .i64 (-1))) = (List.range n).map (iv (repF (p + m))) := by
  apply List.ext_getElem
  · rw [length_splice _ _ _ (by simp; omega)]; simp
  · intro i h1 h2
    have hi : i < n := by simpa using h2
    simp only [splice, List.getElem_append, List.getElem_take, List.getElem_drop, List.getElem_map, List.getElem_range, List.getElem_replicate, List.length_take, List.length_map, List.length_range, List.length_replicate, iv, repF, Nat.min_eq_left (show p ≤ n by omega)]
    by_cases e1 : i < p
    · simp [e1, show i < p + m by omega]
    · by_cases e2 : i < p + m
      · simp [e1, e2, show i - p < m by omega]
      · simp [e1, e2, show ¬ i - p < m by omega]
        omega
def RepPost (w : World) (n : Nat) (e : Ending) (w' : World) : Prop :=
  ∃ g, e = .returned (.slice (some ⟨g, 0, none⟩) n n) ∧ IVec w' g n (fun _ => -1) ∧ w.heap.size ≤ g ∧ Below w.heap.size w w'

theorem ints_size : (Try.prog.info? 3).map (·.size) = some 1 := by kernel_rfl
/-- where the numbers come from and go to -/
def CopyI (w : World) (dp sp : Option Addr) (g p m : Nat) : Prop := 0 < m → dp = some ⟨g, p, none⟩ ∧ ∃ ad, sp = some ad ∧ ∀ j, j < m → w.cell? (ad.add j) = some (.int .i64 (-1))
/-- numbers are written over an array's cells -/
theorem wpList_copy_iv {ops : Array Oper} {rest : List Oper} {o : Oper} {a : Act} {w w0 : World} {Q : Exit → Act → World → Prop} (hgd : o.guard = none) (d s : Operand) (ho : o.op = .call { callee := .builtin .copy, args := #[d, s], argTypes := #[25, 25] })
    {g off n m p dLen dCap sLen sCap : Nat} {dp sp : Option Addr} (hd : a.eval d = .slice dp dLen dCap) (hs : a.eval s = .slice sp sLen sCap) (hv : Hid (IVec w g n (repF p))) (hm : m = Nat.min sLen dLen) (hpm : p + m ≤ n)
    (hpos : CopyI w dp sp g p m) (hb : Hid (Below w0.heap.size w0 w)) (hg : w0.heap.size ≤ g)
    (h : ∀ w', Hid (IVec w' g n (repF (p + m))) → Hid (Below w0.heap.size w0 w') → wpList Try.prog ops Q rest (a.put o.dst (.int .i64 (m : Int))) w') : wpList Try.prog ops Q (o :: rest) a w := by
  refine Go.wpList_copy_splice hgd d s _ _ ho 3 Try.underlying25 ints_size dp sp dLen dCap sLen sCap hd hs g p _ 3 (show _ = _ from hv.out) (List.replicate m (.int .i64 (-1))) (by simpa using hm) (fun hp => ?_) (by simpa using hpm) (fun v hv => by rw [List.eq_of_mem_replicate hv]; rfl) w0.heap.size w0 hb.out hg (fun w' h1 h2 => ?_)
  · obtain ⟨e1, ad, e2, h3⟩ := hpos (by simpa using hp)
    refine ⟨e1, ad, e2, fun j v hj => ?_⟩
    have hj' := (List.getElem?_eq_some_iff.1 hj).1
    rw [h3 j (by simpa using hj')]
    rw [List.getElem?_replicate] at hj
    split at hj
    · exact hj
    · cases hj
  · have h1' := h1.out
    rw [rep_splice n p m hpm] at h1'
    have := h w' h1' h2
    simpa [goInt] using this

theorem step_copy_iv {ops : Array Oper} {o : Oper} {a : Act} {w w0 : World} {K : Act → World → Prop} {E : Prop} {Q : Exit → Act → World → Prop} (hgd : o.guard = none) (d s : Operand) (ho : o.op = .call { callee := .builtin .copy, args := #[d, s], argTypes := #[25, 25] })
    {g off n m p dLen dCap sLen sCap : Nat} {dp sp : Option Addr} (hd : a.eval d = .slice dp dLen dCap) (hs : a.eval s = .slice sp sLen sCap) (hv : Hid (IVec w g n (repF p))) (hm : m = Nat.min sLen dLen) (hpm : p + m ≤ n)
    (hpos : CopyI w dp sp g p m) (hb : Hid (Below w0.heap.size w0 w)) (hg : w0.heap.size ≤ g)
    (h : ∀ w', Hid (IVec w' g n (repF (p + m))) → Hid (Below w0.heap.size w0 w') → K (a.put o.dst (.int .i64 (m : Int))) w') : if Region.wanted o (yielded ops a.tmps) = true then Oper.wp Try.prog o a w K Q else E := by
  refine Go.step_copy_splice hgd d s _ _ ho 3 Try.underlying25 ints_size dp sp dLen dCap sLen sCap hd hs g p _ 3 (show _ = _ from hv.out) (List.replicate m (.int .i64 (-1))) (by simpa using hm) (fun hp => ?_) (by simpa using hpm) (fun v hv => by rw [List.eq_of_mem_replicate hv]; rfl) w0.heap.size w0 hb.out hg (fun w' h1 h2 => ?_)
  · obtain ⟨e1, ad, e2, h3⟩ := hpos (by simpa using hp)
    refine ⟨e1, ad, e2, fun j v hj => ?_⟩
    have hj' := (List.getElem?_eq_some_iff.1 hj).1
    rw [h3 j (by simpa using hj')]
    rw [List.getElem?_replicate] at hj
    split at hj
    · exact hj
    · cases hj
  · have h1' := h1.out
    rw [rep_splice n p m hpm] at h1'
    have := h w' h1' h2
    simpa [goInt] using this

set_option maxRecDepth 100000 in
set_option maxHeartbeats 4000000 in
theorem repeat_any (w : World) (n : Nat) (hn : n ≤ 40) (gb : Nat) (hg : w.cell? ⟨gb, 0, none⟩ = some (.int .i64 (-1))) :
    Calls Try.prog 21 #[.slice (some ⟨gb, 0, none⟩) 1 1, .int .i64 (n : Int)] w (RepPost w n) := by
  have mk1 := make_ints n (by omega)
  have HM := Lib.hid (mul_one_any n (by omega) w)
  have hlt := World.block_lt_of_cell? w _ hg
  simp only at hlt
  have c0 := hg
  clear hg
  go_enter Try.func21, Try.ntmps21
  go_wp2_with fail
  refine (HM.out).mono ?_
  rintro e w1 ⟨rfl, rfl⟩
  have HV : Hid (IVec (w.alloc (Obj.cells (Array.replicate n (Value.int IntKind.i64 0)) 3)) w.heap.size n (repF 0)) := IVec.congr (Vec.new w 3 n (.int .i64 0)) (fun i _ => by unfold repF; simp)
  have HB : Hid (Below w.heap.size w (w.alloc (Obj.cells (Array.replicate n (Value.int IntKind.i64 0)) 3))) := (Below.refl _ w).alloc (Nat.le_refl _) _
  obtain ⟨p0, hp0⟩ : ∃ p0, p0 = Nat.min 1 n := ⟨_, rfl⟩
  have hp1 : p0 ≤ n := by rw [hp0]; exact Nat.min_le_right _ _
  have hp2 : 0 < n → 0 < p0 := fun h => by rw [hp0]; exact Nat.lt_min.2 ⟨by omega, h⟩
  have HPOS : CopyI (w.alloc (Obj.cells (Array.replicate n (Value.int IntKind.i64 0)) 3)) (some ⟨w.heap.size, 0, none⟩) (some ⟨gb, 0, none⟩) w.heap.size 0 p0 :=
    fun _ => ⟨rfl, _, rfl, fun j hj => by
      have : p0 ≤ 1 := by rw [hp0]; exact Nat.min_le_left _ _
      obtain rfl : j = 0 := by omega
      rw [Addr.add_lit, World.cell?_alloc_lt _ _ _ hlt]
      exact c0⟩
  have HP0 := Lib.hid hp0
  have HP3 : Hid (0 + p0 ≤ n) := by show 0 + p0 ≤ n; omega
  have HP2 := Lib.hid hp2
  clear hp0 hp2
  go_wp2_with (refine wpList_copy_iv (g := w.heap.size) (off := 0) (n := n) (p := 0) (m := p0) (w0 := w) (dp := some ⟨w.heap.size, 0, none⟩) (dLen := n) (dCap := n) (sp := some ⟨gb, 0, none⟩) (sLen := 1) (sCap := 1) rfl (.tmp 31) (.tmp 32) rfl rfl rfl HV HP0.out HP3.out HPOS HB (Nat.le_refl _) ?_; intro w2 hv2 hb2)
  have HV2 : Hid (IVec w2 w.heap.size n (repF p0)) := IVec.congr hv2.out (fun i _ => by rw [Nat.zero_add])
  have HP4 : Hid (n ≠ 0 → 0 < p0) := fun h => HP2.out (by omega)
  clear hv2 HPOS HP0 HP3 HP2 HV HB c0
  go_loopw [8] (fun s wr => ∃ p : Nat, p ≤ n ∧ s = .int .i64 (p : Int) ∧ Hid (n ≠ 0 → 0 < p) ∧ Hid (IVec wr w.heap.size n (repF p)) ∧ Hid (Below w.heap.size w wr)) (fun s _ => n - (intOf s).toNat)
  case atStart => exact ⟨p0, hp1, rfl, HP4, HV2, hb2⟩
  case round =>
    clear HV2 hb2 HP4 hp1
    obtain ⟨w3, rfl⟩ : ∃ w3 : World, w3 = wr := ⟨_, rfl⟩
    obtain ⟨p, hp, rfl, HP, HV, HB⟩ := hrel
    by_cases hpt : p < n
    · have hp0 : 0 < p := HP.out (by omega)
      have hcap : ¬ n = p := by omega
      obtain ⟨m, hm⟩ : ∃ m, m = Nat.min p (n - p) := ⟨_, rfl⟩
      have hm1 : m ≤ n - p := by rw [hm]; exact Nat.min_le_right _ _
      have hm2 : 0 < m := by rw [hm]; exact Nat.lt_min.2 ⟨hp0, by omega⟩
      have hm3 : m ≤ p := by rw [hm]; exact Nat.min_le_left _ _
      have HM1 := Lib.hid hm
      have HM2 : Hid (p + m ≤ n) := by show p + m ≤ n; omega
      have HPOS : Hid (∀ e, CopyI (w3.drewN e) (some ⟨w.heap.size, p, none⟩) (some ⟨w.heap.size, 0, none⟩) w.heap.size p m) := fun e _ => ⟨rfl, _, rfl, fun j hj => by
        rw [Addr.add_lit, Nat.zero_add]
        refine (HV.out.at_ (show j < n by omega)).trans ?_
        unfold repF
        rw [if_pos (by omega)]⟩
      have HP1 := HPOS.out 1
      have HV1 : Hid (IVec w3.drew w.heap.size n (repF p)) := HV.out
      have HB1 : Hid (Below w.heap.size w w3.drew) := below_drewN HB.out 1
      have hwr : IntKind.i64.wrap ((p : Int) + (m : Int)) = ((p + m : Nat) : Int) := by rw [IntWalk.i64_in _ (by omega)]; omega
      clear hm HPOS HP HV HB
      go_wp2_with fail
      go_region_law (refine step_copy_iv (g := w.heap.size) (off := 0) (n := n) (p := p) (m := m) (w0 := w) (dp := some ⟨w.heap.size, p, none⟩) (dLen := n - p) (dCap := n - p) (sp := some ⟨w.heap.size, 0, none⟩) (sLen := p) (sCap := n) rfl (.tmp 41) (.tmp 44) rfl (by first | rfl | (simp [Act.eval, Act.put]; done)) (by first | rfl | (simp [Act.eval, Act.put]; done)) HV1 HM1.out HM2.out HP1 HB1 (Nat.le_refl _) ?_; intro w5 hv5 hb5; clear HV1 HB1 HP1)
      all_goals
        simp only [List.getElem_toArray, List.getElem_cons_succ, List.getElem_cons_zero, put_some, List.setIfInBounds_toArray, List.set_cons_zero, List.set_cons_succ]
        go_wp2_with fail
        go_roundw
        case rel => exact ⟨p + m, HM2.out, by go_num, fun _ => by omega, hv5, hb5⟩
        case measure => simp [intOf] <;> omega
    · obtain rfl : p = n := by omega
      have HE : Hid (RepPost w p (.returned (.slice (some ⟨w.heap.size, 0, none⟩) p p)) w3) := ⟨w.heap.size, rfl, IVec.congr HV.out (fun i hi => by unfold repF; rw [if_pos hi]), Nat.le_refl _, HB.out⟩
      clear HP HV HB
      go_wp2_with fail
      go_ret
      exact HE.out
end Go.Proofs.Ytgmhinmakomabaa
