/-
  The reference's GetCommit. No condition.
-/
import Derived.Test.YtnnclopojiegfaaWtOa
namespace Go.Proofs.Ytnnclopojiegfaa
open Go.RowKit
set_option linter.unusedVariables false

theorem countP_fit {bs : List Nat} {p m q n : Nat} (hl : bs.length = n) (hp : p ≤ n) (h : countP bs p = some (m, q)) : m ≤ n ∧ q ≤ n := by
  unfold countP at h
  obtain ⟨⟨z, q2⟩, hz, hc⟩ := Option.bind_eq_some_iff.1 h
  split at hc
  · cases hc
  · injection hc with hc
    injection hc with c1 c2
    have c1' : z.toNat = m := c1
    have c2' : q2 = q := c2
    have := numP_le (by omega) hz
    omega
theorem listP_le {α : Type} {f : Nat → Option (α × Nat)} {bs : List Nat} {n : Nat} (hl : bs.length = n) (hf : ∀ p x q, p ≤ n → f p = some (x, q) → q ≤ n) {p q : Nat} {l : List α} (hp : p ≤ n) (h : listP f bs p = some (l, q)) : q ≤ n := by
  unfold listP at h
  obtain ⟨⟨m, q1⟩, hc, h⟩ := Option.bind_eq_some_iff.1 h
  exact manyP_le hf m q1 l q (countP_fit hl hp hc).2 h
theorem resC_st {bs : List Nat} {n p : Nat} (hl : bs.length = n) (hp : p ≤ n) : resC (getC bs (p : Int)) = .returned (.tuple #[.int .i64 ((((countP bs p).map (·.1)).getD 0 : Nat) : Int), pv ((countP bs p).map (·.2)), ev ((countP bs p).map (·.2))]) := by
  rw [getC_ok hl hp]
  cases countP bs p <;> rfl
theorem cellP_le {bs : List Nat} {n : Nat} (hl : bs.length = n) : ∀ p x q, p ≤ n → cellP bs p = some (x, q) → q ≤ n := fun p x q hp h => by
  unfold cellP at h
  obtain ⟨⟨x1, q1⟩, h1, h⟩ := Option.bind_eq_some_iff.1 h
  obtain ⟨⟨x2, q2⟩, h2, h⟩ := Option.bind_eq_some_iff.1 h
  obtain ⟨⟨x3, q3⟩, h3, h⟩ := Option.bind_eq_some_iff.1 h
  obtain ⟨⟨x4, q4⟩, h4, h⟩ := Option.bind_eq_some_iff.1 h
  obtain ⟨⟨x5, q5⟩, h5, h⟩ := Option.bind_eq_some_iff.1 h
  obtain ⟨⟨x6, q6⟩, h6, e⟩ := Option.map_eq_some_iff.1 h
  injection e with e1 e2
  have a1 := numP_le (by omega) h1
  have a2 := numP_le a1 h2
  have a3 := numP_le a2 h3
  have a4 : q4 ≤ bs.length := by
    unfold flagP at h4
    obtain ⟨y, hy, h4⟩ := Option.bind_eq_some_iff.1 h4
    have hlt := (List.getElem?_eq_some_iff.1 hy).1
    split at h4
    · cases h4
    · injection h4 with h4
      injection h4 with _ h4
      have hlt' : q3 < bs.length := hlt
      omega
  have a5 := textP_le a4 h5
  have a6 := numP_le a5 h6
  have e2' : q6 = q := e2
  omega

set_option maxRecDepth 100000 in
set_option maxHeartbeats 4000000 in
theorem refCommit_nat {w : World} {p n c : Nat} {A : Option Addr} {bs : List Nat} (hn : n ≤ 1000000000) (hnc : n ≤ c) (hp : p ≤ n) (hr : Reads w w.heap.size 1 A n (bs.map byt)) (hbs : ∀ x ∈ bs, x < 256) :
    Calls Try.prog 26 #[.slice A n c, .int .i64 (p : Int)] w (MPost w (commitP bs p)) := by
  have hl : bs.length = n := by have := hr.1; simpa using this
  have HR := Lib.hid hr
  have HI : Hid (∀ (q : Nat) (w' : World), q ≤ n → Below w.heap.size w w' → Calls Try.prog 10 #[.slice A n c, .int .i64 (q : Int)] w' fun e w2 => e = .returned (.tuple #[.int .i64 (((numP bs q).map (·.1)).getD 0), pv ((numP bs q).map (·.2)), ev ((numP bs q).map (·.2))]) ∧ w' = w2) := fun q w' hq hb => by
    have := refGetInt_any A n c (q : Int) bs w' hn w.heap.size (hr.below hb) hbs
    rwa [getI_st hl hq] at this
  have HT : Hid (∀ (q : Nat) (w' : World), q ≤ n → Below w.heap.size w w' → Calls Try.prog 20 #[.slice A n c, .int .i64 (q : Int)] w' fun e w2 => e = .returned (.tuple #[.string (((textP bs q).map (·.1)).getD ByteArray.empty), pv ((textP bs q).map (·.2)), ev ((textP bs q).map (·.2))]) ∧ w' = w2) := fun q w' hq hb => by
    have := refGetText_any A n c (q : Int) bs w' hn hnc w.heap.size (hr.below hb) hbs
    rwa [getT_st hl hq] at this
  have HC : Hid (∀ (q : Nat) (w' : World), q ≤ n → Below w.heap.size w w' → Calls Try.prog 41 #[.slice A n c, .int .i64 (q : Int)] w' fun e w2 => e = .returned (.tuple #[.int .i64 ((((countP bs q).map (·.1)).getD 0 : Nat) : Int), pv ((countP bs q).map (·.2)), ev ((countP bs q).map (·.2))]) ∧ w' = w2) := fun q w' hq hb => by
    have := refCount_any A n c (q : Int) bs w' hn w.heap.size (hr.below hb) hbs
    rwa [resC_st hl hq] at this
  have HM : Hid (∀ (q : Nat) (w' : World), q ≤ n → Below w.heap.size w w' → Calls Try.prog 40 #[.slice A n c, .int .i64 (q : Int)] w' (RIPost w' (listP (numP bs) bs q))) := fun q w' hq hb => refGetInts_any hn hq ((hr.below hb).more hb.size) hbs
  have HW : Hid (∀ (q : Nat) (w' : World), q ≤ n → Below w.heap.size w w' → Calls Try.prog 42 #[.slice A n c, .int .i64 (q : Int)] w' (RCPost w' (cellP bs q))) := fun q w' hq hb => refCell_any hn hnc hq ((hr.below hb).more hb.size) hbs
  have HN : Hid (∀ (q : Nat) x q2, q ≤ n → numP bs q = some (x, q2) → q2 ≤ n) := fun q x q2 hq h => by have := numP_le (by omega) h; omega
  have HX : Hid (∀ (q : Nat) x q2, q ≤ n → textP bs q = some (x, q2) → q2 ≤ n) := fun q x q2 hq h => by have := textP_le (by omega) h; omega
  have HL2 : Hid (∀ (q : Nat) x q2, q ≤ n → listP (numP bs) bs q = some (x, q2) → q2 ≤ n) := fun q x q2 hq h => listP_le hl (fun p x q hp h => by have := numP_le (by omega) h; omega) hq h
  have HC2 : Hid (∀ (q : Nat) m q2, q ≤ n → countP bs q = some (m, q2) → m ≤ n ∧ q2 ≤ n) := fun q m q2 hq h => countP_fit hl hq h
  have HW2 := Lib.hid (cellP_le hl)
  have HLEN := Lib.hid hl
  have hch : commitP bs p = (numP bs p).bind fun a => (listP (numP bs) bs a.2).bind fun b => (listP (numP bs) bs b.2).bind fun c => (textP bs c.2).bind fun d => ((countP bs d.2).bind fun y => manyP (cellP bs) y.1 y.2).map fun e => (⟨a.1, b.1, c.1, d.1, e.1⟩, e.2) := rfl
  replace hch := Lib.hid hch
  have HP := Lib.hid hp
  have M0 := Lib.hid (FillR.start w 36 #[.int .i64 0, .slice none 0 0, .slice none 0 0, .string ⟨#[]⟩, .slice none 0 0])
  clear hr hbs hl hp
  go_enter Try.func26, Try.ntmps26
  go_wp2_with fail
  refine (HI.out p _ (HP.out) (M0.out).bel).mono ?_
  rintro e w1 ⟨rfl, hw⟩
  have N1 := Lib.hid ((M0.out).next (below_eq hw))
  clear hw
  clear M0
  have ck := (N1.out).box.cell 0
  have fk := (N1.out).box.frozen 0
  simp at ck
  rcases e1 : numP bs p with _ | ⟨v1, q1⟩
  · have ho : commitP bs p = none := by rw [hch.out, e1]; rfl
    replace ho := Lib.hid ho
    clear hch e1
    have o0 := (N1.out).out.cell 0
    have f0 := (N1.out).out.frozen 0
    have o1 := (N1.out).out.cell 1
    have f1 := (N1.out).out.frozen 1
    have o2 := (N1.out).out.cell 2
    have f2 := (N1.out).out.frozen 2
    have o3 := (N1.out).out.cell 3
    have f3 := (N1.out).out.frozen 3
    have o4 := (N1.out).out.cell 4
    have f4 := (N1.out).out.frozen 4
    simp at o0 o1 o2 o3 o4
    simp only [Option.map_none, Option.getD_none, pv, ev]
    go_wp2_with fail
    clear o0 o1 o2 o3 o4 f0 f1 f2 f3 f4 ck fk
    have FM := (((((((N1.out).put 0 (.int .i64 0)).give 0 (.int .i64 0)).give 1 (.slice none 0 0)).give 2 (.slice none 0 0)).give 3 (.string ⟨#[]⟩)).give 4 (.slice none 0 0))
    refine bodyPost_ret (results_cell_row3 (P := Try.prog) rfl _ _ w.heap.size 36 #[.int .i64 0, .slice none 0 0, .slice none 0 0, .string ⟨#[]⟩, .slice none 0 0] (0, 0) _ rfl FM.out Try.underlying36 rfl (by kernel_rfl)) rfl ?_
    unfold MPost
    rw [ho.out]
    exact ⟨rfl, FM.bel⟩
  · have hq1 : Hid (q1 ≤ n) := (HN.out p v1 q1 (HP.out) e1)
    simp only [Option.map_some, Option.getD_some, pv, ev]
    replace e1 := Lib.hid e1
    have M1 : Hid (FillR w (w1.setCell ⟨w.heap.size + 1, 0, none⟩ (.int .i64 v1)) w.heap.size 36 #[.int .i64 0, .slice none 0 0, .slice none 0 0, .string ⟨#[]⟩, .slice none 0 0] #[.int .i64 v1, .slice none 0 0, .slice none 0 0, .string ⟨#[]⟩, .slice none 0 0]) := (N1.out).put 0 (.int .i64 v1)
    clear N1
    go_wp2_with fail
    clear ck fk
    refine (HM.out q1 _ (hq1.out) (M1.out).bel).mono ?_
    rintro e w2 ⟨B1, c1, ps, rfl, K2, hH, hbel⟩
    have N2 := Lib.hid ((M1.out).next hbel)
    have H1 := Lib.hid (Held.low hH (M1.out).size)
    clear hH hbel
    clear M1
    have ck := (N2.out).box.cell 1
    have fk := (N2.out).box.frozen 1
    simp at ck
    rcases e2 : listP (numP bs) bs q1 with _ | ⟨v2, q2⟩
    · have ho : commitP bs p = none := by rw [hch.out, e1.out, Option.bind_some, e2]; rfl
      replace ho := Lib.hid ho
      clear hch e2
      have o0 := (N2.out).out.cell 0
      have f0 := (N2.out).out.frozen 0
      have o1 := (N2.out).out.cell 1
      have f1 := (N2.out).out.frozen 1
      have o2 := (N2.out).out.cell 2
      have f2 := (N2.out).out.frozen 2
      have o3 := (N2.out).out.cell 3
      have f3 := (N2.out).out.frozen 3
      have o4 := (N2.out).out.cell 4
      have f4 := (N2.out).out.frozen 4
      simp at o0 o1 o2 o3 o4
      simp only [Option.map_none, pv, ev]
      go_wp2_with fail
      clear o0 o1 o2 o3 o4 f0 f1 f2 f3 f4 ck fk
      have FM := (((((((N2.out).put 1 (.slice B1 ps.length c1)).give 0 (.int .i64 0)).give 1 (.slice none 0 0)).give 2 (.slice none 0 0)).give 3 (.string ⟨#[]⟩)).give 4 (.slice none 0 0))
      refine bodyPost_ret (results_cell_row3 (P := Try.prog) rfl _ _ w.heap.size 36 #[.int .i64 0, .slice none 0 0, .slice none 0 0, .string ⟨#[]⟩, .slice none 0 0] (0, 0) _ rfl FM.out Try.underlying36 rfl (by kernel_rfl)) rfl ?_
      unfold MPost
      rw [ho.out]
      exact ⟨rfl, FM.bel⟩
    · have hq2 : Hid (q2 ≤ n) := (HL2.out q1 v2 q2 (hq1.out) e2)
      obtain rfl : v2 = ps := K2 _ e2
      simp only [Option.map_some, pv, ev]
      replace e2 := Lib.hid e2
      have M2 : Hid (FillR w (w2.setCell ⟨w.heap.size + 1, 1, none⟩ (.slice B1 v2.length c1)) w.heap.size 36 #[.int .i64 0, .slice none 0 0, .slice none 0 0, .string ⟨#[]⟩, .slice none 0 0] #[.int .i64 v1, .slice B1 v2.length c1, .slice none 0 0, .string ⟨#[]⟩, .slice none 0 0]) := (N2.out).put 1 (.slice B1 v2.length c1)
      replace H1 := Lib.hid (Held.setCell H1.out (p := ⟨w.heap.size + 1, 1, none⟩) (by show w.heap.size + 1 < w.heap.size + 2; omega) (.slice B1 v2.length c1))
      clear N2
      go_wp2_with fail
      clear ck fk
      refine (HM.out q2 _ (hq2.out) (M2.out).bel).mono ?_
      rintro e w3 ⟨B2, c2, ks, rfl, K3, hH, hbel⟩
      have N3 := Lib.hid ((M2.out).next hbel)
      replace H1 := Lib.hid (Held.keep H1.out hbel.size (fun i h1 h2 => hbel.block i h2))
      have H2 := Lib.hid (Held.low hH (M2.out).size)
      clear hH hbel
      clear M2
      have ck := (N3.out).box.cell 2
      have fk := (N3.out).box.frozen 2
      simp at ck
      rcases e3 : listP (numP bs) bs q2 with _ | ⟨v3, q3⟩
      · have ho : commitP bs p = none := by rw [hch.out, e1.out, Option.bind_some, e2.out, Option.bind_some, e3]; rfl
        replace ho := Lib.hid ho
        clear hch e3
        have o0 := (N3.out).out.cell 0
        have f0 := (N3.out).out.frozen 0
        have o1 := (N3.out).out.cell 1
        have f1 := (N3.out).out.frozen 1
        have o2 := (N3.out).out.cell 2
        have f2 := (N3.out).out.frozen 2
        have o3 := (N3.out).out.cell 3
        have f3 := (N3.out).out.frozen 3
        have o4 := (N3.out).out.cell 4
        have f4 := (N3.out).out.frozen 4
        simp at o0 o1 o2 o3 o4
        simp only [Option.map_none, pv, ev]
        go_wp2_with fail
        clear o0 o1 o2 o3 o4 f0 f1 f2 f3 f4 ck fk
        have FM := (((((((N3.out).put 2 (.slice B2 ks.length c2)).give 0 (.int .i64 0)).give 1 (.slice none 0 0)).give 2 (.slice none 0 0)).give 3 (.string ⟨#[]⟩)).give 4 (.slice none 0 0))
        refine bodyPost_ret (results_cell_row3 (P := Try.prog) rfl _ _ w.heap.size 36 #[.int .i64 0, .slice none 0 0, .slice none 0 0, .string ⟨#[]⟩, .slice none 0 0] (0, 0) _ rfl FM.out Try.underlying36 rfl (by kernel_rfl)) rfl ?_
        unfold MPost
        rw [ho.out]
        exact ⟨rfl, FM.bel⟩
      · have hq3 : Hid (q3 ≤ n) := (HL2.out q2 v3 q3 (hq2.out) e3)
        obtain rfl : v3 = ks := K3 _ e3
        simp only [Option.map_some, pv, ev]
        replace e3 := Lib.hid e3
        have M3 : Hid (FillR w (w3.setCell ⟨w.heap.size + 1, 2, none⟩ (.slice B2 v3.length c2)) w.heap.size 36 #[.int .i64 0, .slice none 0 0, .slice none 0 0, .string ⟨#[]⟩, .slice none 0 0] #[.int .i64 v1, .slice B1 v2.length c1, .slice B2 v3.length c2, .string ⟨#[]⟩, .slice none 0 0]) := (N3.out).put 2 (.slice B2 v3.length c2)
        replace H1 := Lib.hid (Held.setCell H1.out (p := ⟨w.heap.size + 1, 2, none⟩) (by show w.heap.size + 1 < w.heap.size + 2; omega) (.slice B2 v3.length c2))
        replace H2 := Lib.hid (Held.setCell H2.out (p := ⟨w.heap.size + 1, 2, none⟩) (by show w.heap.size + 1 < w.heap.size + 2; omega) (.slice B2 v3.length c2))
        clear N3
        go_wp2_with fail
        clear ck fk
        refine (HT.out q3 _ (hq3.out) (M3.out).bel).mono ?_
        rintro e w4 ⟨rfl, hw⟩
        have N4 := Lib.hid ((M3.out).next (below_eq hw))
        replace H1 := Lib.hid (Held.keep H1.out (Nat.le_of_eq (by rw [hw])) (fun i h1 h2 => by rw [hw]))
        replace H2 := Lib.hid (Held.keep H2.out (Nat.le_of_eq (by rw [hw])) (fun i h1 h2 => by rw [hw]))
        clear hw
        clear M3
        have ck := (N4.out).box.cell 3
        have fk := (N4.out).box.frozen 3
        simp at ck
        rcases e4 : textP bs q3 with _ | ⟨v4, q4⟩
        · have ho : commitP bs p = none := by rw [hch.out, e1.out, Option.bind_some, e2.out, Option.bind_some, e3.out, Option.bind_some, e4]; rfl
          replace ho := Lib.hid ho
          clear hch e4
          have o0 := (N4.out).out.cell 0
          have f0 := (N4.out).out.frozen 0
          have o1 := (N4.out).out.cell 1
          have f1 := (N4.out).out.frozen 1
          have o2 := (N4.out).out.cell 2
          have f2 := (N4.out).out.frozen 2
          have o3 := (N4.out).out.cell 3
          have f3 := (N4.out).out.frozen 3
          have o4 := (N4.out).out.cell 4
          have f4 := (N4.out).out.frozen 4
          simp at o0 o1 o2 o3 o4
          simp only [Option.map_none, Option.getD_none, pv, ev]
          go_wp2_with fail
          clear o0 o1 o2 o3 o4 f0 f1 f2 f3 f4 ck fk
          have FM := (((((((N4.out).put 3 (.string ByteArray.empty)).give 0 (.int .i64 0)).give 1 (.slice none 0 0)).give 2 (.slice none 0 0)).give 3 (.string ⟨#[]⟩)).give 4 (.slice none 0 0))
          refine bodyPost_ret (results_cell_row3 (P := Try.prog) rfl _ _ w.heap.size 36 #[.int .i64 0, .slice none 0 0, .slice none 0 0, .string ⟨#[]⟩, .slice none 0 0] (0, 0) _ rfl FM.out Try.underlying36 rfl (by kernel_rfl)) rfl ?_
          unfold MPost
          rw [ho.out]
          exact ⟨rfl, FM.bel⟩
        · have hq4 : Hid (q4 ≤ n) := (HX.out q3 v4 q4 (hq3.out) e4)
          simp only [Option.map_some, Option.getD_some, pv, ev]
          replace e4 := Lib.hid e4
          have M4 : Hid (FillR w (w4.setCell ⟨w.heap.size + 1, 3, none⟩ (.string v4)) w.heap.size 36 #[.int .i64 0, .slice none 0 0, .slice none 0 0, .string ⟨#[]⟩, .slice none 0 0] #[.int .i64 v1, .slice B1 v2.length c1, .slice B2 v3.length c2, .string v4, .slice none 0 0]) := (N4.out).put 3 (.string v4)
          replace H1 := Lib.hid (Held.setCell H1.out (p := ⟨w.heap.size + 1, 3, none⟩) (by show w.heap.size + 1 < w.heap.size + 2; omega) (.string v4))
          replace H2 := Lib.hid (Held.setCell H2.out (p := ⟨w.heap.size + 1, 3, none⟩) (by show w.heap.size + 1 < w.heap.size + 2; omega) (.string v4))
          clear N4
          go_wp2_with fail
          clear ck fk
          refine (HC.out q4 _ (hq4.out) (M4.out).bel).mono ?_
          rintro e w5 ⟨rfl, hw⟩
          have N5 := Lib.hid ((M4.out).next (below_eq hw))
          replace H1 := Lib.hid (Held.keep H1.out (Nat.le_of_eq (by rw [hw])) (fun i h1 h2 => by rw [hw]))
          replace H2 := Lib.hid (Held.keep H2.out (Nat.le_of_eq (by rw [hw])) (fun i h1 h2 => by rw [hw]))
          clear hw
          clear M4
          rcases e5 : countP bs q4 with _ | ⟨v5, q5⟩
          · have ho : commitP bs p = none := by rw [hch.out, e1.out, Option.bind_some, e2.out, Option.bind_some, e3.out, Option.bind_some, e4.out, Option.bind_some, e5]; rfl
            replace ho := Lib.hid ho
            clear hch e5
            have o0 := (N5.out).out.cell 0
            have f0 := (N5.out).out.frozen 0
            have o1 := (N5.out).out.cell 1
            have f1 := (N5.out).out.frozen 1
            have o2 := (N5.out).out.cell 2
            have f2 := (N5.out).out.frozen 2
            have o3 := (N5.out).out.cell 3
            have f3 := (N5.out).out.frozen 3
            have o4 := (N5.out).out.cell 4
            have f4 := (N5.out).out.frozen 4
            simp at o0 o1 o2 o3 o4
            simp only [Option.map_none, Option.getD_none, pv, ev]
            go_wp2_with fail
            clear o0 o1 o2 o3 o4 f0 f1 f2 f3 f4
            have FM := ((((((N5.out).give 0 (.int .i64 0)).give 1 (.slice none 0 0)).give 2 (.slice none 0 0)).give 3 (.string ⟨#[]⟩)).give 4 (.slice none 0 0))
            refine bodyPost_ret (results_cell_row3 (P := Try.prog) rfl _ _ w.heap.size 36 #[.int .i64 0, .slice none 0 0, .slice none 0 0, .string ⟨#[]⟩, .slice none 0 0] (0, 0) _ rfl FM.out Try.underlying36 rfl (by kernel_rfl)) rfl ?_
            unfold MPost
            rw [ho.out]
            exact ⟨rfl, FM.bel⟩
          · have hq5 : Hid (q5 ≤ n) := (HC2.out q4 v5 q5 (hq4.out) e5).2
            simp only [Option.map_some, Option.getD_some, pv, ev]
            have hm : v5 ≤ n := (HC2.out q4 v5 q5 (hq4.out) e5).1
            replace e5 := Lib.hid e5
            obtain ⟨i0, hi0, hz0, hz1, hz2⟩ := info_parts cell_info
            have hcm : commitP bs p = (manyP (cellP bs) v5 q5).map fun e => (⟨v1, v2, v3, v4, e.1⟩, e.2) := by rw [hch.out, e1.out, Option.bind_some, e2.out, Option.bind_some, e3.out, Option.bind_some, e4.out, Option.bind_some, e5.out]; rfl
            replace hcm := Lib.hid hcm
            have R0 : Hid (WRel w w5 w5 w.heap.size (cellP bs) #[.int .i64 0, .slice none 0 0, .slice none 0 0, .string ⟨#[]⟩, .slice none 0 0] (fun v => #[.int .i64 v1, .slice B1 v2.length c1, .slice B2 v3.length c2, .string v4, v]) q5 v5 0 q5 [] (.slice none 0 0)) := ⟨Nat.zero_le _, rfl, rfl, ⟨rfl, .inl ⟨rfl, rfl⟩⟩, N5.out, World.grownBy.refl w5 _, (N5.out).bel.size⟩
            have hs5 := Lib.hid (N5.out).size
            clear hch e1 e2 e3 e4 e5 HI HT HC HM HN HX HL2 HC2 N5
            go_wp2_with fail
            go_loopw [8, 9, 11, 12] (fun ew pw iv xw wr => ∃ (i p' : Nat) (xs : List WCell) (v : Value), iv = .int .i64 (i : Int) ∧ pw = .int .i64 (p' : Int) ∧ ew = .int .i64 0 ∧ p' ≤ n ∧ WRel w w5 wr w.heap.size (cellP bs) #[.int .i64 0, .slice none 0 0, .slice none 0 0, .string ⟨#[]⟩, .slice none 0 0] (fun v => #[.int .i64 v1, .slice B1 v2.length c1, .slice B2 v3.length c2, .string v4, v]) q5 v5 i p' xs v) (fun _ _ iv _ _ => ((v5 : Int) - intOf iv).toNat)
            case atStart => exact ⟨0, q5, [], _, rfl, rfl, rfl, hq5.out, R0.out⟩
            case round =>
              obtain ⟨i, p', xs, v, rfl, rfl, rfl, hp', hR⟩ := hrel
              have HQ := Lib.hid hR
              have hle := hR.le
              have hsz := (HQ.out).fill.size
              have hszL := (HQ.out).gr.size
              have hlow := Lib.hid (HQ.out).low
              clear hR R0
              by_cases him : i < v5
              · have dim : decide ((i : Int) < (v5 : Int)) = true := by simp; omega
                go_wp2_with fail
                refine (HW.out p' _ hp' ((HQ.out).fill.bel.alloc (HQ.out).fill.bel.size _)).mono ?_
                rintro e w2 ⟨y, rfl, KY, hbel⟩
                have F2 := Lib.hid (((HQ.out).fill.alloc (.cells #[.int .i64 0, .int .i64 0, .int .i64 0, .bool false, .string ⟨#[]⟩, .int .i64 0] 61)).next hbel)
                have XB := Lib.hid ((Blk.new wr 61 #[.int .i64 0, .int .i64 0, .int .i64 0, .bool false, .string ⟨#[]⟩, .int .i64 0]).below hbel (by simp))
                have hb2 : Below wr.heap.size wr w2 := ((Below.refl _ wr).alloc (Nat.le_refl _) _).trans (hbel.mono (by simp))
                have BL2 := Lib.hid hb2
                have hsz2 : wr.heap.size < w2.heap.size := (XB.out).lt
                clear hbel hb2
                have xc0 := (XB.out).cell 0
                have xc1 := (XB.out).cell 1
                have xc2 := (XB.out).cell 2
                have xc3 := (XB.out).cell 3
                have xc4 := (XB.out).cell 4
                have xc5 := (XB.out).cell 5
                have xf0 := (XB.out).frozen 0
                have xf1 := (XB.out).frozen 1
                have xf2 := (XB.out).frozen 2
                have xf3 := (XB.out).frozen 3
                have xf4 := (XB.out).frozen 4
                have xf5 := (XB.out).frozen 5
                simp at xc0 xc1 xc2 xc3 xc4 xc5
                have hlt0 : w.heap.size < wr.heap.size := by omega
                have hlt1 : w.heap.size + 1 < wr.heap.size := by omega
                have hne0 : ¬ w.heap.size = wr.heap.size := by omega
                have hne1 : ¬ w.heap.size + 1 = wr.heap.size := by omega
                have HLT1 := Lib.hid hlt1
                rcases he : cellP bs p' with _ | ⟨y', p2⟩
                · have ho : commitP bs p = none := by rw [hcm.out, (HQ.out).fails him he]; rfl
                  replace ho := Lib.hid ho
                  clear hcm he
                  have o0 := (F2.out).out.cell 0
                  have f0 := (F2.out).out.frozen 0
                  have o1 := (F2.out).out.cell 1
                  have f1 := (F2.out).out.frozen 1
                  have o2 := (F2.out).out.cell 2
                  have f2 := (F2.out).out.frozen 2
                  have o3 := (F2.out).out.cell 3
                  have f3 := (F2.out).out.frozen 3
                  have o4 := (F2.out).out.cell 4
                  have f4 := (F2.out).out.frozen 4
                  simp at o0 o1 o2 o3 o4
                  simp only [Option.map_none, pv, ev]
                  go_wp2_with fail
                  clear o0 o1 o2 o3 o4 f0 f1 f2 f3 f4 xc0 xc1 xc2 xc3 xc4 xc5 xf0 xf1 xf2 xf3 xf4 xf5
                  have FM := (((((((F2.out).six HLT1.out (.int .i64 y.id) (.int .i64 y.field) (.int .i64 y.n) (.bool y.flag) (.string y.text) (.int .i64 y.ref)).give 0 (.int .i64 0)).give 1 (.slice none 0 0)).give 2 (.slice none 0 0)).give 3 (.string ⟨#[]⟩)).give 4 (.slice none 0 0))
                  refine bodyPost_ret (results_cell_row3 (P := Try.prog) rfl _ _ w.heap.size 36 #[.int .i64 0, .slice none 0 0, .slice none 0 0, .string ⟨#[]⟩, .slice none 0 0] (0, 0) _ rfl FM.out Try.underlying36 rfl (by kernel_rfl)) rfl ?_
                  unfold MPost
                  rw [ho.out]
                  exact ⟨rfl, FM.bel⟩
                · obtain rfl : y' = y := KY _ he
                  have hp2 : Hid (p2 ≤ n) := HW2.out p' y' p2 hp' he
                  have OWN : Hid ((((((((w2.setCell ⟨wr.heap.size, 0, none⟩ (.int .i64 y'.id)).setCell ⟨wr.heap.size, 1, none⟩ (.int .i64 y'.field)).setCell ⟨wr.heap.size, 2, none⟩ (.int .i64 y'.n)).setCell ⟨wr.heap.size, 3, none⟩ (.bool y'.flag)).setCell ⟨wr.heap.size, 4, none⟩ (.string y'.text)).setCell ⟨wr.heap.size, 5, none⟩ (.int .i64 y'.ref))).ownsRow w5.heap.size 61 6 v i (xs.flatMap WCell.vals)) := (HQ.out).own.kept (only_of_below (below_six (BL2.out) (Nat.le_refl _) (.int .i64 y'.id) (.int .i64 y'.field) (.int .i64 y'.n) (.bool y'.flag) (.string y'.text) (.int .i64 y'.ref)) none) (by cases v.ownBlock <;> simp)
                  have F3 := Lib.hid ((F2.out).six HLT1.out (.int .i64 y'.id) (.int .i64 y'.field) (.int .i64 y'.n) (.bool y'.flag) (.string y'.text) (.int .i64 y'.ref))
                  have HE := Lib.hid he
                  have ck := (F2.out).box.cell 4
                  simp at ck
                  clear he KY
                  simp only [Option.map_some, pv, ev]
                  go_wp2_with (at_builtin; refine wpList_append_row _ rfl (.tmp 90) (.tmp 92) 34 34 rfl w5.heap.size 61 i0 (.agg #[.int .i64 0, .int .i64 0, .int .i64 0, .bool false, .string ByteArray.empty, .int .i64 0]) 6 56 Try.underlying34 hi0 hz0 hz1 hz2 rfl (by decide) _ _ _ rfl ((OWN.out).alloc _) (.slice (some ⟨w2.heap.size, 0, none⟩) 1 1) 1 _ rfl (src_newB ((((((w2.setCell ⟨wr.heap.size, 0, none⟩ (.int .i64 y'.id)).setCell ⟨wr.heap.size, 1, none⟩ (.int .i64 y'.field)).setCell ⟨wr.heap.size, 2, none⟩ (.int .i64 y'.n)).setCell ⟨wr.heap.size, 3, none⟩ (.bool y'.flag)).setCell ⟨wr.heap.size, 4, none⟩ (.string y'.text)).setCell ⟨wr.heap.size, 5, none⟩ (.int .i64 y'.ref)) Try.underlying34 [.int .i64 y'.id, .int .i64 y'.field, .int .i64 y'.n, .bool y'.flag, .string y'.text, .int .i64 y'.ref] 6 1 1 w2.heap.size 61 (six_size _ _ _ _ _ _ _ _).symm rfl (fun u hu => by simp at hu; rcases hu with rfl | rfl | rfl | rfl | rfl | rfl <;> rfl)) ?c1 ?c2 ?c3 ?_)
                  case c1 => unfold maxLen; omega
                  case c2 => omega
                  case c3 => rw [World.size_alloc, six_size]; omega
                  intro v6 w6 hown6 hg6
                  obtain ⟨A6, q6, rfl, -, -⟩ := reads_of_owns hown6
                  have F6 := Lib.hid (((F3.out).alloc _).grown hg6 (own_blk_ne (OWN.out) (F3.out).out (by decide)) (own_blk_ne (OWN.out) (F3.out).box (by decide)) (fun b hv => Nat.le_trans hlow.out (own_ge (OWN.out) hv)))
                  have R3 := Lib.hid ((HQ.out).step him (HE.out) rfl (below_six (BL2.out) (Nat.le_refl _) (.int .i64 y'.id) (.int .i64 y'.field) (.int .i64 y'.n) (.bool y'.flag) (.string y'.text) (.int .i64 y'.ref)) hg6 hown6)
                  have c6 := (F6.out).box.cell 4
                  have f6 := (F6.out).box.frozen 4
                  simp at c6
                  clear hg6 hown6 F3 OWN F2 XB BL2 xc0 xc1 xc2 xc3 xc4 xc5 xf0 xf1 xf2 xf3 xf4 xf5 ck HE
                  go_wp2_with fail
                  go_roundw
                  case rel => exact ⟨i + 1, p2, _, _, by go_num, rfl, rfl, hp2.out, R3.out⟩
                  case measure => simp [intOf]; omega
              · have dim : decide ((i : Int) < (v5 : Int)) = false := by simp; omega
                obtain ⟨B3, c3, rfl, hr3, hB3⟩ := own_reads (HQ.out).own
                have hi5 : i = v5 := by omega
                have HX3 := Lib.hid (Held.low (⟨hr3, hB3⟩ : Held wr _ 6 _ _ _) hs5.out)
                have HX1 := Lib.hid (Held.grown H1.out (HQ.out).gr (by omega))
                have HX2 := Lib.hid (Held.grown H2.out (HQ.out).gr (by omega))
                have hlen := Lib.hid (HQ.out).len
                have ho : commitP bs p = some (⟨v1, v2, v3, v4, xs⟩, p') := by rw [hcm.out, ← hi5, (HQ.out).st]; rfl
                replace ho := Lib.hid ho
                have hbl : Hid (bs.length ≤ 1000000000) := by unfold Hid; have := HLEN.out; omega
                clear hr3 hB3 hcm HR HW HW2 hi5
                have o0 := (HQ.out).fill.out.cell 0
                have f0 := (HQ.out).fill.out.frozen 0
                have o1 := (HQ.out).fill.out.cell 1
                have f1 := (HQ.out).fill.out.frozen 1
                have o2 := (HQ.out).fill.out.cell 2
                have f2 := (HQ.out).fill.out.frozen 2
                have o3 := (HQ.out).fill.out.cell 3
                have f3 := (HQ.out).fill.out.frozen 3
                have o4 := (HQ.out).fill.out.cell 4
                have f4 := (HQ.out).fill.out.frozen 4
                simp at o0 o1 o2 o3 o4
                have b0 := (HQ.out).fill.box.cell 0
                have b1 := (HQ.out).fill.box.cell 1
                have b2 := (HQ.out).fill.box.cell 2
                have b3 := (HQ.out).fill.box.cell 3
                have b4 := (HQ.out).fill.box.cell 4
                simp at b0 b1 b2 b3 b4
                go_wp2_with fail
                clear o0 o1 o2 o3 o4 f0 f1 f2 f3 f4 b0 b1 b2 b3 b4
                have FM := ((((((HQ.out).fill.give 0 (.int .i64 v1)).give 1 (.slice B1 v2.length c1)).give 2 (.slice B2 v3.length c2)).give 3 (.string v4)).give 4 (.slice B3 i c3))
                have FHX1 := (Held.setCell (Held.setCell (Held.setCell (Held.setCell (Held.setCell (HX1.out) (p := ⟨w.heap.size, 0, none⟩) (by show w.heap.size < w.heap.size + 2; omega) (.int .i64 v1)) (p := ⟨w.heap.size, 1, none⟩) (by show w.heap.size < w.heap.size + 2; omega) (.slice B1 v2.length c1)) (p := ⟨w.heap.size, 2, none⟩) (by show w.heap.size < w.heap.size + 2; omega) (.slice B2 v3.length c2)) (p := ⟨w.heap.size, 3, none⟩) (by show w.heap.size < w.heap.size + 2; omega) (.string v4)) (p := ⟨w.heap.size, 4, none⟩) (by show w.heap.size < w.heap.size + 2; omega) (.slice B3 i c3))
                have FHX2 := (Held.setCell (Held.setCell (Held.setCell (Held.setCell (Held.setCell (HX2.out) (p := ⟨w.heap.size, 0, none⟩) (by show w.heap.size < w.heap.size + 2; omega) (.int .i64 v1)) (p := ⟨w.heap.size, 1, none⟩) (by show w.heap.size < w.heap.size + 2; omega) (.slice B1 v2.length c1)) (p := ⟨w.heap.size, 2, none⟩) (by show w.heap.size < w.heap.size + 2; omega) (.slice B2 v3.length c2)) (p := ⟨w.heap.size, 3, none⟩) (by show w.heap.size < w.heap.size + 2; omega) (.string v4)) (p := ⟨w.heap.size, 4, none⟩) (by show w.heap.size < w.heap.size + 2; omega) (.slice B3 i c3))
                have FHX3 := (Held.setCell (Held.setCell (Held.setCell (Held.setCell (Held.setCell (HX3.out) (p := ⟨w.heap.size, 0, none⟩) (by show w.heap.size < w.heap.size + 2; omega) (.int .i64 v1)) (p := ⟨w.heap.size, 1, none⟩) (by show w.heap.size < w.heap.size + 2; omega) (.slice B1 v2.length c1)) (p := ⟨w.heap.size, 2, none⟩) (by show w.heap.size < w.heap.size + 2; omega) (.slice B2 v3.length c2)) (p := ⟨w.heap.size, 3, none⟩) (by show w.heap.size < w.heap.size + 2; omega) (.string v4)) (p := ⟨w.heap.size, 4, none⟩) (by show w.heap.size < w.heap.size + 2; omega) (.slice B3 i c3))
                refine bodyPost_ret (results_cell_row3 (P := Try.prog) rfl _ _ w.heap.size 36 #[.int .i64 v1, .slice B1 v2.length c1, .slice B2 v3.length c2, .string v4, .slice B3 i c3] (0, 0) _ rfl FM.out Try.underlying36 rfl (by kernel_rfl)) rfl ?_
                have hln := hlen.out
                subst hln
                unfold MPost
                rw [ho.out]
                exact ⟨⟨⟨⟨v1, v2, v3, v4, xs⟩, B1, c1, B2, c2, B3, c3⟩, rfl, rfl, goodN_of ho.out hbl.out (FHX1.low (by omega)) (FHX2.low (by omega)) (FHX3.low (by omega))⟩, FM.bel⟩
end Go.Proofs.Ytnnclopojiegfaa
