/-
  potentials: the least costs. No condition.
-/
import Derived.Test.YtaadaekpmblpaaaSqA
import Derived.Test.YtaadaekpmblpaaaTail
import Derived.BigRegion
namespace Go.Proofs.Ytaadaekpmblpaaa
open Go.RowKit
set_option linter.unusedVariables false

/-- the least costs as a matrix of one's own -/
def PotPost (w : World) (m n : Nat) (p : Nat → Nat → Int) (e : Ending) (w' : World) : Prop :=
  ∃ g bs, e = .returned (.slice (some ⟨g, 0, none⟩) m m) ∧ Made w' g m n bs p ∧ bs.length = m ∧ Below w.heap.size w w' ∧ w.heap.size ≤ g
def PotSt (w wr : World) (m n : Nat) (f : Nat → Nat → Int) (k : Nat) (bs : List Nat) : Prop := Made wr w.heap.size m n bs f ∧ bs.length = k ∧ Below w.heap.size w wr
theorem PotSt.drewN {w wr : World} {m n : Nat} {f : Nat → Nat → Int} {k : Nat} {bs : List Nat} (h : PotSt w wr m n f k bs) (d : Nat) : PotSt w (wr.drewN d) m n f k bs := ⟨h.1.drewN d, h.2.1, below_drewN h.2.2 d⟩
theorem PotSt.drew {w wr : World} {m n : Nat} {f : Nat → Nat → Int} {k : Nat} {bs : List Nat} (h : PotSt w wr m n f k bs) : PotSt w wr.drew m n f k bs := ⟨h.1.drew, h.2.1, below_drewN h.2.2 1⟩
theorem PotSt.start (w : World) (m n : Nat) (p : Nat → Nat → Int) : PotSt w (w.alloc (.cells (Array.replicate m (Value.slice none 0 0)) 22)) m n (fillF p 0 0) 0 [] :=
  ⟨by simpa using Made.start w m n _, rfl, (Below.refl _ w).alloc (Nat.le_refl _) _⟩
theorem PotSt.push {w wr : World} {m n : Nat} {p : Nat → Nat → Int} {k : Nat} {bs : List Nat} (h : PotSt w wr m n (fillF p k 0) k bs) (hk : k < m) :
    PotSt w ((wr.setCell ⟨w.heap.size, k, none⟩ (.slice (some ⟨wr.heap.size, 0, none⟩) n n)).alloc (.cells (Array.replicate n (Value.int .i64 0)) 3)) m n (fillF p k 0) (k + 1) (bs ++ [wr.heap.size]) := by
  obtain ⟨h1, h2, h3⟩ := h
  subst h2
  rw [← World.setCell_alloc_past _ _ _ _ h1.head.lt]
  exact ⟨by simpa using h1.push hk (fun j hj => fill_new p (by omega)), by simp, (h3.alloc h3.size _).setCell (by simp) _⟩
theorem PotSt.set_ {w wr : World} {m n : Nat} {p : Nat → Nat → Int} {i j b : Nat} {bs : List Nat} (h : PotSt w wr m n (fillF p i j) (i + 1) bs) (hb : bs[i]? = some b) (hj : j < n) {x : Int} (hx : x = p i j) :
    PotSt w (wr.setCell ⟨b, j, none⟩ (.int .i64 x)) m n (fillF p i (j + 1)) (i + 1) bs := by
  obtain ⟨h1, h2, h3⟩ := h
  subst hx
  refine ⟨(h1.set_ hb (p i j) hj).congr fun k l _ _ => fill_next p i j k l, h2, h3.setCell ?_ _⟩
  have := h1.up b (List.mem_of_getElem? hb)
  exact Nat.le_of_lt this
theorem PotSt.skip {w wr : World} {m n : Nat} {p : Nat → Nat → Int} {bs : List Nat} (h : PotSt w wr m n (fillF p 0 0) 1 bs) (h0 : p 0 0 = 0) : PotSt w wr m n (fillF p 0 1) 1 bs :=
  ⟨h.1.congr fun k l _ _ => by
    unfold fillF
    by_cases e : k < 0 ∨ k = 0 ∧ l < 1
    · obtain ⟨rfl, rfl⟩ : k = 0 ∧ l = 0 := by omega
      simp [h0]
    · rw [if_neg e, if_neg (by omega)], h.2⟩
theorem PotSt.row {w wr : World} {m n : Nat} {p : Nat → Nat → Int} {i : Nat} {bs : List Nat} (h : PotSt w wr m n (fillF p i n) (i + 1) bs) : PotSt w wr m n (fillF p (i + 1) 0) (i + 1) bs :=
  ⟨h.1.congr fun k l hk hl => fill_row p i n k l (by rw [h.2.1] at hk; omega) hl, h.2⟩
theorem PotSt.done {w wr : World} {m n : Nat} {p : Nat → Nat → Int} {bs : List Nat} (h : PotSt w wr m n (fillF p m 0) m bs) : PotPost w m n p (.returned (.slice (some ⟨w.heap.size, 0, none⟩) m m)) wr :=
  ⟨_, bs, rfl, h.1.congr fun k l hk hl => fill_old p (by rw [h.2.1] at hk; omega), h.2.1, h.2.2, Nat.le_refl _⟩
/-- the cells of row k, place j -/
theorem PotSt.cell {w wr : World} {m n : Nat} {f : Nat → Nat → Int} {i k j : Nat} {bs : List Nat} (h : PotSt w wr m n f i bs) (hk : k < i) (hj : j < n) :
    ∃ b, wr.cell? ⟨w.heap.size, k, none⟩ = some (.slice (some ⟨b, 0, none⟩) n n) ∧ wr.cell? ⟨b, j, none⟩ = some (.int .i64 (f k j)) ∧ bs[k]? = some b := h.1.cells (by rw [h.2.1]; exact hk) hj
theorem PotSt.rowAt {w wr : World} {m n : Nat} {f : Nat → Nat → Int} {i k : Nat} {bs : List Nat} (h : PotSt w wr m n f i bs) (hk : k < i) :
    ∃ b, wr.cell? ⟨w.heap.size, k, none⟩ = some (.slice (some ⟨b, 0, none⟩) n n) ∧ bs[k]? = some b := ⟨_, h.1.rowAt (by rw [h.2.1]; exact hk), List.getElem?_eq_getElem _⟩
theorem PotSt.lt {w wr : World} {m n : Nat} {f : Nat → Nat → Int} {i : Nat} {bs : List Nat} (h : PotSt w wr m n f i bs) : w.heap.size < wr.heap.size := h.1.head.lt
theorem PotSt.frozen {w wr : World} {m n : Nat} {f : Nat → Nat → Int} {i k b : Nat} {bs : List Nat} (h : PotSt w wr m n f i bs) (hk : bs[k]? = some b) (j : Nat) : wr.frozen? ⟨b, j, none⟩ = false := h.1.frozen hk j
theorem PotSt.empty {w wr : World} {m n : Nat} {f : Nat → Nat → Int} {i k : Nat} {bs : List Nat} (h : PotSt w wr m n f i bs) (hk : k < m) : (∃ u, wr.cell? ⟨w.heap.size, k, none⟩ = some u) ∧ wr.frozen? ⟨w.heap.size, k, none⟩ = false := by
  refine ⟨?_, h.1.head.frozen k⟩
  rw [h.1.head.cell]
  have hl := h.1.le
  simp only [List.getElem?_toArray]
  rw [List.getElem?_eq_getElem (by simp; omega)]
  exact ⟨_, rfl⟩

set_option maxRecDepth 100000 in
set_option maxHeartbeats 4000000 in
theorem potentials_any (A1 : Option Addr) (n1 c1 : Nat) (A2 : Option Addr) (n2 c2 : Nat) (A3 : Option Addr) (n3 c3 : Nat) (drop add : List Int) (cost : List (List Int)) (w : World)
    (h : Three w w.heap.size A1 n1 A2 n2 A3 n3 drop add cost) (hp : properL drop add cost = true) :
    Calls Try.prog 22 #[.slice A1 n1 c1, .slice A2 n2 c2, .slice A3 n3 c3] w (PotPost w (n1 + 1) (n2 + 1) (potF drop add cost)) := by
  obtain ⟨p1, p2, p3, p4, p5, p6⟩ := proper_parts hp
  have e1 := h.d.len
  have e2 := h.a.len
  have e3 := h.c.len
  rw [e1] at p1
  rw [e2] at p2
  have hn3 : n3 = n1 := by omega
  subst hn3
  have HB := Lib.hid (potF_bounds p4 p5 (proper_le hp))
  have HT := Lib.hid h
  have HP4 := Lib.hid p4
  have HP5 := Lib.hid p5
  have HP6 := Lib.hid p6
  have HE1 := Lib.hid e1
  have HE2 := Lib.hid e2
  have mk1 := make_rows (n3 + 1) (by omega)
  have mk2 := make_row (n2 + 1) (by omega)
  rw [show ((n3 + 1 : Nat) : Int) = (n3 : Int) + 1 by omega] at mk1
  rw [show ((n2 + 1 : Nat) : Int) = (n2 : Int) + 1 by omega] at mk2
  obtain ⟨p, hpp⟩ : ∃ p, p = potF drop add cost := ⟨_, rfl⟩
  rw [← hpp]
  have HPP := Lib.hid hpp
  rw [← hpp] at HB
  clear h hp p3 p4 p5 p6 e1 e2 e3 hpp
  go_enter Try.func22, Try.ntmps22
  go_wp2_with fail
  go_loopw [18] (fun s wr => ∃ (k : Nat) (bs : List Nat), k ≤ n3 + 1 ∧ s = .int .i64 (k : Int) ∧ Hid (PotSt w wr (n3 + 1) (n2 + 1) (fillF p k 0) k bs)) (fun s _ => n3 + 1 - (intOf s).toNat)
  case atStart => exact ⟨0, [], by omega, rfl, PotSt.start w _ _ p⟩
  case round =>
    obtain ⟨i, bs, hi, rfl, HS⟩ := hrel
    by_cases hlt : i < n3 + 1
    · obtain ⟨⟨u0, hu0⟩, hfr⟩ := HS.out.empty hlt
      have hsz := HS.out.lt
      go_wp2_with fail
      go_loopw [33] (fun s wr => ∃ (j : Nat) (bs : List Nat), j ≤ n2 + 1 ∧ s = .int .i64 (j : Int) ∧ Hid (PotSt w wr (n3 + 1) (n2 + 1) (fillF p i j) (i + 1) bs)) (fun s _ => n2 + 1 - (intOf s).toNat)
      case atStart => exact ⟨0, _, by omega, rfl, HS.out.push hlt⟩
      case round =>
        clear HS hu0 hfr hsz
        obtain ⟨wo, rfl⟩ : ∃ wo : World, wo = wr := ⟨_, rfl⟩
        obtain ⟨j, bs', hj, rfl, HS⟩ := hrel
        have hsz := HS.out.lt
        by_cases hjt : j < n2 + 1
        · rcases Nat.eq_zero_or_pos i with h0 | h0
          · subst h0
            rcases Nat.eq_zero_or_pos j with h1 | h1
            · subst h1
              have HS2 := Lib.hid (HS.out.skip (by rw [HPP.out, potF]))
              clear HS
              go_wp2_with fail
              go_roundw
              case rel => exact ⟨1, _, by omega, rfl, HS2⟩
              case measure => simp [intOf] <;> omega
            · obtain ⟨j', rfl⟩ : ∃ j', j = j' + 1 := ⟨j - 1, by omega⟩
              obtain ⟨b0, r0, c0, k0⟩ := HS.out.cell (k := 0) (j := j') (by omega) (by omega)
              rw [fill_old p (by omega)] at c0
              obtain ⟨b0', r0', d0, k0'⟩ := HS.out.cell (k := 0) (j := j' + 1) (by omega) hjt
              obtain rfl : b0 = b0' := by rw [k0] at k0'; injection k0'
              have fz := HS.out.frozen k0 (j' + 1)
              obtain ⟨ba, oa, xa, rfl, hba, hxa, hca⟩ := Ints.at_ (k := j') (HT.out.a.below HS.out.2.2) (by omega)
              have bx := inside_at HP5.out hxa
              have bp := HB.out 0 j' (by omega) (by have := HE2.out; omega)
              obtain ⟨y, hy⟩ : ∃ y, p 0 j' = y := ⟨_, rfl⟩
              have HS2 := Lib.hid (HS.out.set_ k0 hjt (x := y + xa) (by rw [← hy, HPP.out, potF.eq_2, getD_of hxa]))
              have hne : (((j' : Int) + 1) == 0) = false := by simp; omega
              rw [hy] at c0 bp
              obtain ⟨bx1, bx2⟩ := bx
              obtain ⟨bp1, bp2⟩ := bp
              have bp3 : y ≤ 1000000000 := by omega
              clear HS hy hxa k0 k0' r0' bp2 h1
              go_wp2_with fail
              refine region_tail 20 (by kernel_rfl) (by kernel_rfl) _ rfl ?_
              simp only [List.take_succ_cons, List.take_zero, List.drop_succ_cons, List.drop_zero]
              repeat (go_big_quiet_step (fail))
              refine wpQuiet_nil ?_
              go_wp2_with fail
              go_roundw
              case rel => exact ⟨j' + 1 + 1, _, by omega, by go_num, HS2.out.drew⟩
              case measure => simp [intOf] <;> omega
          · obtain ⟨i', rfl⟩ : ∃ i', i = i' + 1 := ⟨i - 1, by omega⟩
            have hnei : (((i' : Int) + 1) == 0) = false := by simp; omega
            obtain ⟨bd, od, xd, rfl, hbd, hxd, hcd⟩ := Ints.at_ (k := i') (HT.out.d.below HS.out.2.2) (by omega)
            have bx := inside_at HP4.out hxd
            obtain ⟨bd1, bd2⟩ := bx
            rcases Nat.eq_zero_or_pos j with h1 | h1
            · subst h1
              obtain ⟨b0, r0, c0, k0⟩ := HS.out.cell (k := i') (j := 0) (by omega) (by omega)
              rw [fill_old p (by omega)] at c0
              obtain ⟨b1, r1, d0, k1⟩ := HS.out.cell (k := i' + 1) (j := 0) (by omega) hjt
              have fz := HS.out.frozen k1 0
              have bp := HB.out i' 0 (by have := HE1.out; omega) (by omega)
              obtain ⟨y, hy⟩ : ∃ y, p i' 0 = y := ⟨_, rfl⟩
              have HS2 := Lib.hid (HS.out.set_ k1 hjt (x := y + xd) (by rw [← hy, HPP.out, potF.eq_3, getD_of hxd]))
              rw [hy] at c0 bp
              obtain ⟨bp1, bp2⟩ := bp
              have bp3 : y ≤ 1000000000 := by omega
              clear HS hy hxd k0 k1 bp2 h0
              go_wp2_with fail
              refine region_tail 20 (by kernel_rfl) (by kernel_rfl) _ rfl ?_
              simp only [List.take_succ_cons, List.take_zero, List.drop_succ_cons, List.drop_zero]
              repeat (go_big_quiet_step (fail))
              refine wpQuiet_nil ?_
              go_wp2_with fail
              go_roundw
              case rel => exact ⟨0 + 1, _, by omega, by go_num, HS2.out.drew⟩
              case measure => simp [intOf] <;> omega
            · obtain ⟨j', rfl⟩ : ∃ j', j = j' + 1 := ⟨j - 1, by omega⟩
              have hnej : (((j' : Int) + 1) == 0) = false := by simp; omega
              obtain ⟨ba, oa, xa, rfl, hba, hxa, hca⟩ := Ints.at_ (k := j') (HT.out.a.below HS.out.2.2) (by omega)
              have bx := inside_at HP5.out hxa
              obtain ⟨ba1, ba2⟩ := bx
              obtain ⟨bc, oc, Ac, nc, cc, rc, hAc, hbc, hxc, hcc, hrowc⟩ := (HT.out.c.below HS.out.2.2).row (k := i') (by omega)
              subst hAc
              have hrc := HP6.out rc (List.mem_of_getElem? hxc)
              have hrn := hrowc.len
              obtain rfl : nc = n2 := by have := HE2.out; omega
              obtain ⟨be, oe, xe, hAe, hbe, hxe, hce⟩ := Ints.at_ (k := j') hrowc (by omega)
              subst hAe
              obtain ⟨be1, be2⟩ := inside_at hrc.2 hxe
              obtain ⟨b0, r0, c0, k0⟩ := HS.out.cell (k := i') (j := j') (by omega) (by omega)
              rw [fill_old p (by omega)] at c0
              obtain ⟨b0', r0', c1, k0'⟩ := HS.out.cell (k := i') (j := j' + 1) (by omega) (by omega)
              rw [fill_old p (by omega)] at c1
              obtain rfl : b0 = b0' := by rw [k0] at k0'; injection k0'
              obtain ⟨b1, r1, c2, k1⟩ := HS.out.cell (k := i' + 1) (j := j') (by omega) (by omega)
              rw [fill_old p (by omega)] at c2
              obtain ⟨b1', r1', d0, k1'⟩ := HS.out.cell (k := i' + 1) (j := j' + 1) (by omega) hjt
              obtain rfl : b1 = b1' := by rw [k1] at k1'; injection k1'
              have fz := HS.out.frozen k1 (j' + 1)
              have bp := HB.out i' j' (by have := HE1.out; omega) (by have := HE2.out; omega)
              have bq := HB.out i' (j' + 1) (by have := HE1.out; omega) (by have := HE2.out; omega)
              have br := HB.out (i' + 1) j' (by have := HE1.out; omega) (by have := HE2.out; omega)
              have heq : p (i' + 1) (j' + 1) = if 0 ≤ xe then min (min (p i' (j' + 1) + xd) (p (i' + 1) j' + xa)) (p i' j' + xe) else min (p i' (j' + 1) + xd) (p (i' + 1) j' + xa) := by
                rw [HPP.out, potF.eq_4, getD_of hxa, getD_of hxd, pget_of hxc hxe]
              have HS2 := Lib.hid (fun d x hx => (HS.out.drewN d).set_ k1 hjt (x := x) hx)
              obtain ⟨y0, hy0⟩ : ∃ y, p i' j' = y := ⟨_, rfl⟩
              obtain ⟨y1, hy1⟩ : ∃ y, p i' (j' + 1) = y := ⟨_, rfl⟩
              obtain ⟨y2, hy2⟩ : ∃ y, p (i' + 1) j' = y := ⟨_, rfl⟩
              rw [hy0] at c0 bp heq
              rw [hy1] at c1 bq heq
              rw [hy2] at c2 br heq
              have bp1 := bp.1
              have bq1 := bq.1
              have br1 := br.1
              have bp3 : y0 ≤ 1000000000 := by omega
              have bq3 : y1 ≤ 1000000000 := by omega
              have br3 : y2 ≤ 1000000000 := by omega
              have HEQ := Lib.hid heq
              clear HS hy0 hy1 hy2 heq hxd hxa hxe hxc hrc hrn hrowc k0 k1 k0' k1' r0' r1' bp bq br h0 h1
              go_wp2_with fail
              go_quiet (fail)
              go_wp2_with fail
              all_goals
                go_roundw
                case rel => exact ⟨j' + 1 + 1, _, by omega, by go_num, HS2.out _ _ (by rw [HEQ.out]; (repeat' split) <;> omega)⟩
                case measure => simp [intOf] <;> omega
        · obtain rfl : j = n2 + 1 := by omega
          have HS2 := Lib.hid HS.out.row
          clear HS
          go_wp2_with fail
          go_roundw
          case rel => exact ⟨i + 1, _, by omega, by go_num, HS2⟩
          case measure => simp [intOf] <;> omega
    · obtain rfl : i = n3 + 1 := by omega
      go_wp2_with fail
      go_ret
      exact HS.out.done
end Go.Proofs.Ytaadaekpmblpaaa
