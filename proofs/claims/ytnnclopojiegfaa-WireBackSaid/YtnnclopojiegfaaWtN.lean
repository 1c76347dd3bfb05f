/-
  The reference's getCell. No condition.
-/
import Derived.Test.YtnnclopojiegfaaWtM
namespace Go.Proofs.Ytnnclopojiegfaa
open Go.RowKit
set_option linter.unusedVariables false

def RCPost (w : World) (o : Option (WCell × Nat)) (e : Ending) (w' : World) : Prop :=
  ∃ y : WCell, e = .returned (.tuple #[.agg #[.int .i64 y.id, .int .i64 y.field, .int .i64 y.n, .bool y.flag, .string y.text, .int .i64 y.ref], pv (o.map (·.2)), ev (o.map (·.2))]) ∧ (∀ z, o = some z → z.1 = y) ∧ Below w.heap.size w w'
theorem getT_st {bs : List Nat} {n p : Nat} (hl : bs.length = n) (hp : p ≤ n) : resT (getT bs (p : Int)) = .returned (.tuple #[.string (((textP bs p).map (·.1)).getD ByteArray.empty), pv ((textP bs p).map (·.2)), ev ((textP bs p).map (·.2))]) := by
  rw [getT_ok hl hp]
  cases textP bs p <;> rfl
theorem textP_le {bs : List Nat} {p q : Nat} {t : ByteArray} (hp : p ≤ bs.length) (h : textP bs p = some (t, q)) : q ≤ bs.length := by
  unfold textP at h
  split at h
  · cases h
  · rename_i n q1 hn
    have := numP_le hp hn
    split at h
    · cases h
    · injection h with h
      injection h with h1 h2
      omega

set_option maxRecDepth 100000 in
set_option maxHeartbeats 2000000 in
theorem refCell_any {w : World} {p n c : Nat} {A : Option Addr} {bs : List Nat} (hn : n ≤ 1000000000) (hnc : n ≤ c) (hp : p ≤ n) (hr : Reads w w.heap.size 1 A n (bs.map byt)) (hbs : ∀ x ∈ bs, x < 256) :
    Calls Try.prog 42 #[.slice A n c, .int .i64 (p : Int)] w (RCPost w (cellP bs p)) := by
  have hl : bs.length = n := by have := hr.1; simpa using this
  have HR := Lib.hid hr
  have HI : Hid (∀ (q : Nat) (w' : World), q ≤ n → Below w.heap.size w w' → Calls Try.prog 10 #[.slice A n c, .int .i64 (q : Int)] w' fun e w2 => e = .returned (.tuple #[.int .i64 (((numP bs q).map (·.1)).getD 0), pv ((numP bs q).map (·.2)), ev ((numP bs q).map (·.2))]) ∧ w' = w2) := fun q w' hq hb => by
    have := refGetInt_any A n c (q : Int) bs w' hn w.heap.size (hr.below hb) hbs
    rwa [getI_st hl hq] at this
  have HT : Hid (∀ (q : Nat) (w' : World), q ≤ n → Below w.heap.size w w' → Calls Try.prog 20 #[.slice A n c, .int .i64 (q : Int)] w' fun e w2 => e = .returned (.tuple #[.string (((textP bs q).map (·.1)).getD ByteArray.empty), pv ((textP bs q).map (·.2)), ev ((textP bs q).map (·.2))]) ∧ w' = w2) := fun q w' hq hb => by
    have := refGetText_any A n c (q : Int) bs w' hn hnc w.heap.size (hr.below hb) hbs
    rwa [getT_st hl hq] at this
  have HN : Hid (∀ (q : Nat) x q2, q ≤ n → numP bs q = some (x, q2) → q2 ≤ n) := fun q x q2 hq h => by have := numP_le (by omega) h; omega
  have HX : Hid (∀ (q : Nat) x q2, q ≤ n → textP bs q = some (x, q2) → q2 ≤ n) := fun q x q2 hq h => by have := textP_le (by omega) h; omega
  have HL := Lib.hid hl
  have HBS := Lib.hid hbs
  have hch : cellP bs p = (numP bs p).bind fun a => (numP bs a.2).bind fun b => (numP bs b.2).bind fun c => (flagP bs c.2).bind fun d => (textP bs d.2).bind fun e => (numP bs e.2).map fun f => (⟨a.1, b.1, c.1, d.1, e.1, f.1⟩, f.2) := rfl
  replace hch := Lib.hid hch
  have HP := Lib.hid hp
  clear hr hbs hl hp
  go_enter Try.func42, Try.ntmps42
  go_wp2_with fail
  refine (HI.out p _ (HP.out) (by repeat (first | exact Below.refl _ _ | refine Below.alloc ?_ (by simp) _ | refine Below.setCell ?_ (by simp) _))).mono ?_
  rintro e w1 ⟨rfl, rfl⟩
  rcases e1 : numP bs p with _ | ⟨a, q1⟩
  · have ho : cellP bs p = none := by rw [hch.out, e1]; rfl
    replace ho := Lib.hid ho
    clear hch e1
    simp only [Option.map_none, Option.getD_none, pv, ev]
    go_wp2_with fail
    refine bodyPost_ret (results_cell_row3 (P := Try.prog) rfl _ _ w.heap.size 61 #[.int .i64 0, .int .i64 0, .int .i64 0, .bool false, .string ⟨#[]⟩, .int .i64 0] (0, 0) _ rfl (by first | exact (Blk.new _ _ _).alloc _ | exact Blk.new _ _ _) Try.underlying61 rfl (by kernel_rfl)) rfl ?_
    rw [ho.out]
    exact ⟨⟨0, 0, 0, false, ⟨#[]⟩, 0⟩, rfl, (fun z hz => by cases hz), (by repeat (first | exact Below.refl _ _ | refine Below.alloc ?_ (by simp) _ | refine Below.setCell ?_ (by simp) _))⟩
  · have hq1 : Hid (q1 ≤ n) := HN.out p a q1 (HP.out) e1
    simp only [Option.map_some, Option.getD_some, pv, ev]
    replace e1 := Lib.hid e1
    go_wp2_with fail
    refine (HI.out q1 _ (hq1.out) (by repeat (first | exact Below.refl _ _ | refine Below.alloc ?_ (by simp) _ | refine Below.setCell ?_ (by simp) _))).mono ?_
    rintro e w2 ⟨rfl, rfl⟩
    rcases e2 : numP bs q1 with _ | ⟨b, q2⟩
    · have ho : cellP bs p = none := by rw [hch.out, e1.out, Option.bind_some, e2]; rfl
      replace ho := Lib.hid ho
      clear hch e1 e2
      simp only [Option.map_none, Option.getD_none, pv, ev]
      go_wp2_with fail
      refine bodyPost_ret (results_cell_row3 (P := Try.prog) rfl _ _ w.heap.size 61 #[.int .i64 a, .int .i64 0, .int .i64 0, .bool false, .string ⟨#[]⟩, .int .i64 0] (0, 0) _ rfl (by first | exact (Blk.new _ _ _).alloc _ | exact Blk.new _ _ _) Try.underlying61 rfl (by kernel_rfl)) rfl ?_
      rw [ho.out]
      exact ⟨⟨a, 0, 0, false, ⟨#[]⟩, 0⟩, rfl, (fun z hz => by cases hz), (by repeat (first | exact Below.refl _ _ | refine Below.alloc ?_ (by simp) _ | refine Below.setCell ?_ (by simp) _))⟩
    · have hq2 : Hid (q2 ≤ n) := HN.out q1 b q2 (hq1.out) e2
      simp only [Option.map_some, Option.getD_some, pv, ev]
      replace e2 := Lib.hid e2
      go_wp2_with fail
      refine (HI.out q2 _ (hq2.out) (by repeat (first | exact Below.refl _ _ | refine Below.alloc ?_ (by simp) _ | refine Below.setCell ?_ (by simp) _))).mono ?_
      rintro e w3 ⟨rfl, rfl⟩
      rcases e3 : numP bs q2 with _ | ⟨d, q3⟩
      · have ho : cellP bs p = none := by rw [hch.out, e1.out, Option.bind_some, e2.out, Option.bind_some, e3]; rfl
        replace ho := Lib.hid ho
        clear hch e1 e2 e3
        simp only [Option.map_none, Option.getD_none, pv, ev]
        go_wp2_with fail
        refine bodyPost_ret (results_cell_row3 (P := Try.prog) rfl _ _ w.heap.size 61 #[.int .i64 a, .int .i64 b, .int .i64 0, .bool false, .string ⟨#[]⟩, .int .i64 0] (0, 0) _ rfl (by first | exact (Blk.new _ _ _).alloc _ | exact Blk.new _ _ _) Try.underlying61 rfl (by kernel_rfl)) rfl ?_
        rw [ho.out]
        exact ⟨⟨a, b, 0, false, ⟨#[]⟩, 0⟩, rfl, (fun z hz => by cases hz), (by repeat (first | exact Below.refl _ _ | refine Below.alloc ?_ (by simp) _ | refine Below.setCell ?_ (by simp) _))⟩
      · have hq3 : Hid (q3 ≤ n) := HN.out q2 d q3 (hq2.out) e3
        simp only [Option.map_some, Option.getD_some, pv, ev]
        replace e3 := Lib.hid e3
        by_cases hlt : q3 < n
        · obtain ⟨ab, ao, u, rfl, hab, hu, hcell⟩ := (HR.out).at1 hlt
          obtain ⟨x0, hx0⟩ : ∃ x0, bs[q3]? = some x0 := ⟨bs[q3]'(by have := HL.out; omega), List.getElem?_eq_getElem _⟩
          obtain rfl : u = .int .u8 (x0 : Int) := by rw [List.getElem?_map, hx0] at hu; simpa [byt] using hu.symm
          have dge : decide (n ≤ q3) = false := by simp; omega
          have hnle : ¬ n ≤ q3 := by omega
          have hx256 := HBS.out x0 (List.mem_of_getElem? hx0)
          have hfp : flagP bs q3 = if 1 < x0 then none else some (x0 == 1, q3 + 1) := by unfold flagP; rw [hx0]; rfl
          clear hu
          by_cases h1 : 1 < x0
          · have d1 : decide ((1 : Int) < (x0 : Int)) = true := by simp; omega
            rw [if_pos h1] at hfp
            have ho : cellP bs p = none := by rw [hch.out, e1.out, Option.bind_some, e2.out, Option.bind_some, e3.out, Option.bind_some, hfp]; rfl
            replace ho := Lib.hid ho
            clear hch hfp h1 hx0
            go_wp2_with fail
            refine bodyPost_ret (results_cell_row3 (P := Try.prog) rfl _ _ w.heap.size 61 #[.int .i64 a, .int .i64 b, .int .i64 d, .bool false, .string ⟨#[]⟩, .int .i64 0] (0, 0) _ rfl (by first | exact (Blk.new _ _ _).alloc _ | exact Blk.new _ _ _) Try.underlying61 rfl (by kernel_rfl)) rfl ?_
            rw [ho.out]
            exact ⟨⟨a, b, d, false, ⟨#[]⟩, 0⟩, rfl, (fun z hz => by cases hz), (by repeat (first | exact Below.refl _ _ | refine Below.alloc ?_ (by simp) _ | refine Below.setCell ?_ (by simp) _))⟩
          · have d1 : decide ((1 : Int) < (x0 : Int)) = false := by simp; omega
            rw [if_neg h1] at hfp
            have hf2 : (x0 == 1) = ((x0 : Int) == 1) := by
              rcases (show x0 = 0 ∨ x0 = 1 by omega) with rfl | rfl <;> rfl
            rw [hf2] at hfp
            have e4 := Lib.hid hfp
            have hq4 : Hid (q3 + 1 ≤ n) := hlt
            clear hfp h1 hx0 hf2
            go_wp2_with fail
            refine (HT.out (q3 + 1) _ (hq4.out) (by repeat (first | exact Below.refl _ _ | refine Below.alloc ?_ (by simp) _ | refine Below.setCell ?_ (by simp) _))).mono ?_
            rintro e w5 ⟨rfl, rfl⟩
            rcases e5 : textP bs (q3 + 1) with _ | ⟨t, q5⟩
            · have ho : cellP bs p = none := by rw [hch.out, e1.out, Option.bind_some, e2.out, Option.bind_some, e3.out, Option.bind_some, e4.out, Option.bind_some, e5]; rfl
              replace ho := Lib.hid ho
              clear hch e1 e2 e3 e4 e5
              simp only [Option.map_none, Option.getD_none, pv, ev]
              go_wp2_with fail
              refine bodyPost_ret (results_cell_row3 (P := Try.prog) rfl _ _ w.heap.size 61 #[.int .i64 a, .int .i64 b, .int .i64 d, .bool ((x0 : Int) == 1), .string ⟨#[]⟩, .int .i64 0] (0, 0) _ rfl (by first | exact (Blk.new _ _ _).alloc _ | exact Blk.new _ _ _) Try.underlying61 rfl (by kernel_rfl)) rfl ?_
              rw [ho.out]
              exact ⟨⟨a, b, d, ((x0 : Int) == 1), ⟨#[]⟩, 0⟩, rfl, (fun z hz => by cases hz), (by repeat (first | exact Below.refl _ _ | refine Below.alloc ?_ (by simp) _ | refine Below.setCell ?_ (by simp) _))⟩
            · have hq5 : Hid (q5 ≤ n) := HX.out (q3 + 1) t q5 (hq4.out) e5
              simp only [Option.map_some, Option.getD_some, pv, ev]
              replace e5 := Lib.hid e5
              go_wp2_with fail
              refine (HI.out q5 _ (hq5.out) (by repeat (first | exact Below.refl _ _ | refine Below.alloc ?_ (by simp) _ | refine Below.setCell ?_ (by simp) _))).mono ?_
              rintro e w6 ⟨rfl, rfl⟩
              rcases e6 : numP bs q5 with _ | ⟨x, q6⟩
              · have ho : cellP bs p = none := by rw [hch.out, e1.out, Option.bind_some, e2.out, Option.bind_some, e3.out, Option.bind_some, e4.out, Option.bind_some, e5.out, Option.bind_some, e6]; rfl
                replace ho := Lib.hid ho
                clear hch e6
                simp only [Option.map_none, Option.getD_none, pv, ev]
                go_wp2_with fail
                refine bodyPost_ret (results_cell_row3 (P := Try.prog) rfl _ _ w.heap.size 61 #[.int .i64 a, .int .i64 b, .int .i64 d, .bool ((x0 : Int) == 1), .string t, .int .i64 0] (0, 0) _ rfl (by first | exact (Blk.new _ _ _).alloc _ | exact Blk.new _ _ _) Try.underlying61 rfl (by kernel_rfl)) rfl ?_
                rw [ho.out]
                exact ⟨⟨a, b, d, ((x0 : Int) == 1), t, 0⟩, rfl, (fun z hz => by cases hz), (by repeat (first | exact Below.refl _ _ | refine Below.alloc ?_ (by simp) _ | refine Below.setCell ?_ (by simp) _))⟩
              · have ho : cellP bs p = some (⟨a, b, d, ((x0 : Int) == 1), t, x⟩, q6) := by rw [hch.out, e1.out, Option.bind_some, e2.out, Option.bind_some, e3.out, Option.bind_some, e4.out, Option.bind_some, e5.out, Option.bind_some, e6]; rfl
                replace ho := Lib.hid ho
                clear hch e6
                simp only [Option.map_some, Option.getD_some, pv, ev]
                go_wp2_with fail
                refine bodyPost_ret (results_cell_row3 (P := Try.prog) rfl _ _ w.heap.size 61 #[.int .i64 a, .int .i64 b, .int .i64 d, .bool ((x0 : Int) == 1), .string t, .int .i64 x] (0, 0) _ rfl (by first | exact (Blk.new _ _ _).alloc _ | exact Blk.new _ _ _) Try.underlying61 rfl (by kernel_rfl)) rfl ?_
                rw [ho.out]
                exact ⟨⟨a, b, d, ((x0 : Int) == 1), t, x⟩, rfl, (fun z hz => by injection hz with hz; rw [← hz]), (by repeat (first | exact Below.refl _ _ | refine Below.alloc ?_ (by simp) _ | refine Below.setCell ?_ (by simp) _))⟩
        · have dge : decide (n ≤ q3) = true := by simp; omega
          have hfp : flagP bs q3 = none := by unfold flagP; rw [List.getElem?_eq_none (by have := HL.out; omega)]; rfl
          have ho : cellP bs p = none := by rw [hch.out, e1.out, Option.bind_some, e2.out, Option.bind_some, e3.out, Option.bind_some, hfp]; rfl
          replace ho := Lib.hid ho
          clear hch hfp
          go_wp2_with fail
          refine bodyPost_ret (results_cell_row3 (P := Try.prog) rfl _ _ w.heap.size 61 #[.int .i64 a, .int .i64 b, .int .i64 d, .bool false, .string ⟨#[]⟩, .int .i64 0] (0, 0) _ rfl (by first | exact (Blk.new _ _ _).alloc _ | exact Blk.new _ _ _) Try.underlying61 rfl (by kernel_rfl)) rfl ?_
          rw [ho.out]
          exact ⟨⟨a, b, d, false, ⟨#[]⟩, 0⟩, rfl, (fun z hz => by cases hz), (by repeat (first | exact Below.refl _ _ | refine Below.alloc ?_ (by simp) _ | refine Below.setCell ?_ (by simp) _))⟩
end Go.Proofs.Ytnnclopojiegfaa
