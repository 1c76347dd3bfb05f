/-
  Records: copies of all records. No condition.
-/
import Derived.Test.YtnjafhlpnoikcaaLgI
namespace Go.Proofs.Ytnjafhlpnoikcaa
open Go.RowKit
set_option linter.unusedVariables false

theorem make_recs (n : Nat) (hn : n ≤ 1000000) (w : World) : (Instr.makeSlice 35 (.int .i64 (n : Int)) (.int .i64 (n : Int))).run Try.prog w = .ok (.slice (some ⟨w.heap.size, 0, none⟩) n n) (w.alloc (.cells (Array.replicate n (Value.slice none 0 0)) 32)) := by
  obtain ⟨i, hi, hz0, hz1, hz2⟩ := info_parts slices_info
  have h := run_make (P := Try.prog) w 35 32 i (.slice none 0 0) Try.underlying35 hi hz0 .i64 .i64 (n : Int) (n : Int) (by omega) (Int.le_refl _) (by rw [hz2]; omega) (by omega)
  rw [hz1] at h
  simp only [Int.toNat_natCast, Nat.mul_one] at h
  rw [h]
  congr 3
  apply Array.ext
  · simp [madeCells]
  · intro j h1 h2
    have h0 : j % 1 = 0 := Nat.mod_one j
    simp [madeCells, Value.cells, h0]

/-- the copies made so far -/
structure CpR (w wr : World) (rs rs' : List Rc) (i : Nat) : Prop where
  len : rs'.length = i
  le : i ≤ rs.length
  same : rs'.map (·.b) = (rs.map (·.b)).take i
  blk : Blk wr w.heap.size 32 (rs'.flatMap rcell ++ List.replicate (rs.length - i) (Value.slice none 0 0)).toArray
  good : ∀ r ∈ rs', Reads wr wr.heap.size 1 r.A r.b.length (r.b.map byt) ∧ (0 < r.b.length → ∀ ad, r.A = some ad → w.heap.size < ad.block)
  bel : Below w.heap.size w wr
theorem rcell_len (rs : List Rc) : (rs.flatMap rcell).length = rs.length := by
  induction rs with
  | nil => rfl
  | cons x r ih => rw [List.flatMap_cons, List.length_append, ih]; simp [rcell]; omega
theorem CpR.step {w wr w2 : World} {rs rs' : List Rc} {i : Nat} {r : Rc} {A2 : Option Addr} {q2 : Nat} (h : CpR w wr rs rs' i) (hr : rs[i]? = some r) (hb : Below wr.heap.size wr w2) (h2 : Reads w2 w2.heap.size 1 A2 r.b.length (r.b.map byt)) (hA : ∀ ad, A2 = some ad → wr.heap.size ≤ ad.block) :
    CpR w (w2.setCell ⟨w.heap.size, i, none⟩ (.slice A2 r.b.length q2)) rs (rs' ++ [⟨A2, q2, r.b⟩]) (i + 1) := by
  have hi := (List.getElem?_eq_some_iff.1 hr).1
  have hc : Chg w2 (w2.setCell ⟨w.heap.size, i, none⟩ (.slice A2 r.b.length q2)) (fun b => b = w.heap.size) := (Chg.refl w2 (fun b => b = w.heap.size)).setCell (p := ⟨w.heap.size, i, none⟩) (.inl rfl) _
  have hwl := h.blk.lt
  refine ⟨by simp [h.len], hi, ?_, ?_, fun x hx => ?_, (h.bel.trans (hb.mono h.bel.size)).setCell (Nat.le_refl _) _⟩
  · rw [List.map_append, h.same, List.take_add_one, List.getElem?_map, hr]; rfl
  · have h3 := (h.blk.below hb hwl).set_ i (.slice A2 r.b.length q2)
    refine Eq.trans h3 ?_
    congr 2
    apply Array.ext'
    simp only [Array.toList_setIfInBounds]
    have hl : (rs'.flatMap rcell).length = i := by rw [rcell_len, h.len]
    have hrep : List.replicate (rs.length - i) (Value.slice none 0 0) = Value.slice none 0 0 :: List.replicate (rs.length - (i + 1)) (Value.slice none 0 0) := by
      rw [← List.replicate_succ]; congr 1; omega
    rw [hrep, List.set_append_right _ _ (by omega), hl, Nat.sub_self, List.set_cons_zero, List.flatMap_append, List.append_assoc]
    rfl
  · rcases List.mem_append.1 hx with hx | hx
    · obtain ⟨g1, g2⟩ := h.good x hx
      exact ⟨(((g1.below hb).more hb.size).chg0 hc (Nat.le_refl _) (fun hn ad ha he => by have := g2 hn ad ha; omega)).more hc.size, g2⟩
    · obtain rfl : x = ⟨A2, q2, r.b⟩ := by simpa using hx
      refine ⟨(h2.chg0 hc (Nat.le_refl _) (fun hn ad ha he => by have := hA ad ha; omega)).more hc.size, fun hn ad ha => ?_⟩
      have := hA ad ha
      omega
theorem rcell_at {rs : List Rc} {i : Nat} {r : Rc} (h : rs[i]? = some r) : (rs.flatMap rcell)[i]? = some (.slice r.A r.b.length r.c) := by
  have e : rs.flatMap rcell = rs.map (fun r => Value.slice r.A r.b.length r.c) := by
    clear h
    induction rs with
    | nil => rfl
    | cons x l ih => rw [List.flatMap_cons, ih]; rfl
  rw [e, List.getElem?_map, h]
  rfl
def CopPost (w : World) (rs : List Rc) (e : Ending) (w' : World) : Prop :=
  ∃ rs', e = .returned (.slice (some ⟨w.heap.size, 0, none⟩) rs.length rs.length) ∧ CpR w w' rs rs' rs.length

set_option maxRecDepth 100000 in
set_option maxHeartbeats 1000000 in
theorem copied_any {w : World} {A : Option Addr} {c : Nat} {rs : List Rc} (hn : rs.length ≤ 1000000) (hr : Reads w w.heap.size 1 A rs.length (rs.flatMap rcell)) (hg : ∀ r ∈ rs, r.b.length ≤ 1000000000 ∧ Reads w w.heap.size 1 r.A r.b.length (r.b.map byt)) :
    Calls Try.prog 39 #[.slice A rs.length c] w (CopPost w rs) := by
  have R0 : Hid (CpR w (w.alloc (.cells (Array.replicate rs.length (Value.slice none 0 0)) 32)) rs [] 0) := by
    refine ⟨rfl, Nat.zero_le _, rfl, ?_, (fun r hr => by cases hr), (Below.refl _ w).alloc (Nat.le_refl _) _⟩
    have := Blk.new w 32 (Array.replicate rs.length (Value.slice none 0 0))
    simpa using this
  obtain ⟨n, hnn⟩ : ∃ n, rs.length = n := ⟨_, rfl⟩
  have HRR := Lib.hid hr
  have HG := Lib.hid hg
  have HNN := Lib.hid hnn
  rw [hnn] at hn R0
  have hmk := make_recs n hn
  rw [hnn]
  clear hr hg hnn
  go_enter Try.func39, Try.ntmps39
  go_wp2_with fail
  go_loopw [11] (fun jv wr => ∃ (i : Nat) (rs' : List Rc), jv = .int .i64 (i : Int) ∧ CpR w wr rs rs' i) (fun jv _ => ((n : Int) - intOf jv).toNat)
  case atStart => exact ⟨0, [], rfl, R0.out⟩
  case round =>
    obtain ⟨i, rs', rfl, hC⟩ := hrel
    have CC := Lib.hid hC
    have hle := hC.le
    rw [HNN.out] at hle
    clear hC R0
    by_cases hlt : i < n
    · have dim : decide ((i : Int) < (n : Int)) = true := by simp; omega
      obtain ⟨r, hr⟩ : ∃ r, rs[i]? = some r := ⟨rs[i]'(by rw [HNN.out]; exact hlt), List.getElem?_eq_getElem _⟩
      have hrd := (HRR.out).below (CC.out).bel
      rw [HNN.out] at hrd
      obtain ⟨ab, ao, u, rfl, hab, hu, hcell⟩ := hrd.at1 hlt
      obtain rfl : u = .slice r.A r.b.length r.c := by rw [rcell_at hr] at hu; injection hu with hu; exact hu.symm
      obtain ⟨g1, g2⟩ := (HG.out) r (List.mem_of_getElem? hr)
      have HCL := Lib.hid (clone_any r.A r.c w.heap.size r.b wr g1 (g2.below (CC.out).bel) (CC.out).bel.size)
      have HRi := Lib.hid hr
      have hne : ¬ n ≤ i := by omega
      clear hrd hu hr g1 g2
      go_wp2_with fail
      refine (HCL.out).mono ?_
      rintro e w2 ⟨A2, q2, rfl, hr2, hA2, -, hb2⟩
      have HB2 := Lib.hid hb2
      have C2 := Lib.hid ((CC.out).step (q2 := q2) (HRi.out) hb2 hr2 (fun ad ha => (hA2 ad ha).1))
      have hbk := (CC.out).blk.below hb2 (CC.out).blk.lt
      have fk := hbk.frozen i
      have ck : w2.cell? ⟨w.heap.size, i, none⟩ = some (.slice none 0 0) := by
        rw [hbk.cell]
        have hl : (rs'.flatMap rcell).length = i := by rw [rcell_len, (CC.out).len]
        have hrl : rs.length - i = (rs.length - (i + 1)) + 1 := by rw [HNN.out]; omega
        rw [List.getElem?_toArray, List.getElem?_append_right (by omega), hl, Nat.sub_self, hrl, List.replicate_succ]
        rfl
      clear hbk hr2 hA2 hb2 HCL
      go_wp2_with fail
      go_roundw
      case rel => exact ⟨i + 1, _, by go_num, C2.out⟩
      case measure => simp [intOf]; omega
    · have dim : decide ((i : Int) < (n : Int)) = false := by simp; omega
      obtain rfl : i = n := by omega
      go_wp2_with fail
      go_ret
      have h1 := (CC.out)
      unfold CopPost
      rw [HNN.out]
      exact ⟨rs', rfl, h1⟩

set_option maxRecDepth 100000 in
set_option maxHeartbeats 400000 in
theorem records_any {w : World} {g d : Nat} {l : LS} {K : Nat → Prop} (h : LogAt w g d l K) : Calls Try.prog 16 #[.pointer (some ⟨g, 0, none⟩)] w fun e w' => ∃ rs : List Rc, rs.map (·.b) = l.recs ∧ CopPost w rs e w' := by
  obtain ⟨v, rs, hx⟩ := h
  obtain ⟨A, c, rfl⟩ := hx.slice
  have c4 := hx.blk.cell 4
  simp at c4
  have hn : rs.length ≤ 1000000 := by have h1 := hx.few; have h2 := hx.fin; have h3 := hx.half; have h4 := hx.len; omega
  have HC := Lib.hid (copied_any (c := c) hn (Reads.of_own hx.own) (fun r hr => ⟨by
    have h1 : r.b ∈ l.recs := by rw [← hx.rsb]; exact List.mem_map.2 ⟨r, hr, rfl⟩
    have := hx.small r.b h1; omega, (hx.good r hr).1⟩))
  have HR := Lib.hid hx.rsb
  clear hx
  go_enter Try.func16, Try.ntmps16
  go_wp2_with fail
  refine (HC.out).mono ?_
  rintro e w2 ⟨rs', rfl, hC⟩
  have CC := Lib.hid hC
  clear hC HC
  go_wp2_with fail
  go_ret
  exact ⟨rs, HR.out, rs', rfl, CC.out⟩
end Go.Proofs.Ytnjafhlpnoikcaa
