/-
  The reference's GetCommit at any position, CommitsAt and GetCommits. No condition.
-/
import Derived.Test.YtnnclopojiegfaaWtO
namespace Go.Proofs.Ytnnclopojiegfaa
open Go.RowKit
set_option linter.unusedVariables false

set_option maxRecDepth 100000 in
set_option maxHeartbeats 1000000 in
theorem refGetCommit_any (A : Option Addr) (n c : Nat) (z : Int) (bs : List Nat) (w : World) (hn : n ≤ 1000000000) (hnc : n ≤ c) (hr : Reads w w.heap.size 1 A n (bs.map byt)) (hbs : ∀ x ∈ bs, x < 256) :
    Calls Try.prog 26 #[.slice A n c, .int .i64 z] w (MPost w (getM bs z)) := by
  have hl : bs.length = n := by have := hr.1; simpa using this
  by_cases hz : z < 0 ∨ (n : Int) < z
  · have hg : Hid (getM bs z = none) := by unfold Hid getM; rw [if_neg (by omega)]
    have HI : Hid (∀ w', Below w.heap.size w w' → Calls Try.prog 10 #[.slice A n c, .int .i64 z] w' fun e w2 => e = .returned (.tuple #[.int .i64 0, .int .i64 0, .int .i64 13]) ∧ w' = w2) := fun w' hb => by
      have := refGetInt_any A n c z bs w' hn w.heap.size (hr.below hb) hbs
      rwa [getI_bad hl hz] at this
    have M0 := Lib.hid (FillR.start w 36 #[.int .i64 0, .slice none 0 0, .slice none 0 0, .string ⟨#[]⟩, .slice none 0 0])
    clear hr hbs hl hz
    go_enter Try.func26, Try.ntmps26
    go_wp2_with fail
    refine (HI.out _ (M0.out).bel).mono ?_
    rintro e w1 ⟨rfl, hw⟩
    have N1 := Lib.hid ((M0.out).next (below_eq hw))
    clear hw M0
    have ck := (N1.out).box.cell 0
    have fk := (N1.out).box.frozen 0
    have o0 := (N1.out).out.cell 0
    have f0 := (N1.out).out.frozen 0
    have o1 := (N1.out).out.cell 1
    have f1 := (N1.out).out.frozen 1
    have o2 := (N1.out).out.cell 2
    have f2 := (N1.out).out.frozen 2
    have o3 := (N1.out).out.cell 3
    have f3 := (N1.out).out.frozen 3
    have o4 := (N1.out).out.cell 4
    have f4 := (N1.out).out.frozen 4
    simp at ck o0 o1 o2 o3 o4
    go_wp2_with fail
    clear ck fk o0 o1 o2 o3 o4 f0 f1 f2 f3 f4
    have FM := ((((((N1.out).put 0 (.int .i64 0)).give 0 (.int .i64 0)).give 1 (.slice none 0 0)).give 2 (.slice none 0 0)).give 3 (.string ⟨#[]⟩)).give 4 (.slice none 0 0)
    refine bodyPost_ret (results_cell_row3 (P := Try.prog) rfl _ _ w.heap.size 36 #[.int .i64 0, .slice none 0 0, .slice none 0 0, .string ⟨#[]⟩, .slice none 0 0] (0, 0) _ rfl FM.out Try.underlying36 rfl (by kernel_rfl)) rfl ?_
    unfold MPost
    rw [hg.out]
    exact ⟨rfl, FM.bel⟩
  · obtain ⟨p, rfl⟩ := Int.eq_ofNat_of_zero_le (show 0 ≤ z by omega)
    have hg : getM bs (p : Int) = commitP bs p := by unfold getM; rw [if_pos (by omega)]; rfl
    rw [hg]
    exact refCommit_nat hn hnc (by omega) hr hbs

theorem gv_step2 {wr W3 w4 : World} {o : Obj} {lo : Nat} {u v : Value} {xs : List CX} {a : CX} (hb : Below wr.heap.size wr W3) (hlo : lo ≤ wr.heap.size) (hu : ∀ g, u.ownBlock = some g → g < wr.heap.size) (hg3 : Grows (W3.alloc o) w4 u v)
    (hold : ∀ x ∈ xs, GV lo wr u x) (ha : GoodN W3 wr.heap.size a) : ∀ x ∈ xs ++ [a], GV lo w4 v x := fun x hx => by
  refine gv_grow ?_ hg3
  rcases List.mem_append.1 hx with hx | hx
  · obtain ⟨h1, h2⟩ := hold x hx
    refine ⟨h1.same (Nat.le_trans hb.size (by simp)) (fun i hi => ?_), h2⟩
    obtain ⟨b1, b2⟩ := h1.bl hi
    exact (Below.heap_alloc W3 o i (by have := hb.size; omega)).trans (hb.block i b2)
  · obtain rfl : x = a := by simpa using hx
    refine ⟨(ha.low hlo).same (by simp) (fun i hi => Below.heap_alloc W3 o i (ha.bl hi).2), fun g hg' hb => ?_⟩
    have := hu g hg'
    have := (ha.bl hb).1
    omega
theorem below_five {B b : Nat} {w0 w : World} (h : Below B w0 w) (hb : B ≤ b) (u0 u1 u2 u3 u4 : Value) :
    Below B w0 (((((w.setCell ⟨b, 0, none⟩ u0).setCell ⟨b, 1, none⟩ u1).setCell ⟨b, 2, none⟩ u2).setCell ⟨b, 3, none⟩ u3).setCell ⟨b, 4, none⟩ u4) :=
  ((((h.setCell hb u0).setCell hb u1).setCell hb u2).setCell hb u3).setCell hb u4
theorem five_size (w : World) (b : Nat) (u0 u1 u2 u3 u4 : Value) : (((((w.setCell ⟨b, 0, none⟩ u0).setCell ⟨b, 1, none⟩ u1).setCell ⟨b, 2, none⟩ u2).setCell ⟨b, 3, none⟩ u3).setCell ⟨b, 4, none⟩ u4).heap.size = w.heap.size := by simp [World.setCell]
def CAPost (w : World) (o : Option (List WCommit × Nat)) (e : Ending) (w' : World) : Prop :=
  (match o with
    | some y => ∃ B cc xs, e = .returned (.tuple #[.slice B xs.length cc, .int .i64 (y.2 : Int), .int .i64 0]) ∧ xs.map CX.c = y.1 ∧ ComsN w' w.heap.size B xs.length xs
    | none => e = .returned (.tuple #[.slice none 0 0, .int .i64 0, .int .i64 13])) ∧ Below w.heap.size w w'
theorem commitP_le {bs : List Nat} {n : Nat} (hl : bs.length = n) : ∀ p x q, p ≤ n → commitP bs p = some (x, q) → q ≤ n := fun p x q hp h => by
  unfold commitP at h
  obtain ⟨⟨x1, q1⟩, h1, h⟩ := Option.bind_eq_some_iff.1 h
  obtain ⟨⟨x2, q2⟩, h2, h⟩ := Option.bind_eq_some_iff.1 h
  obtain ⟨⟨x3, q3⟩, h3, h⟩ := Option.bind_eq_some_iff.1 h
  obtain ⟨⟨x4, q4⟩, h4, h⟩ := Option.bind_eq_some_iff.1 h
  obtain ⟨⟨x5, q5⟩, h5, e⟩ := Option.map_eq_some_iff.1 h
  injection e with e1 e2
  have hN : ∀ p x q, p ≤ n → numP bs p = some (x, q) → q ≤ n := fun p x q hp h => by have := numP_le (by omega) h; omega
  have a1 := hN _ _ _ hp h1
  have a2 := listP_le hl hN a1 h2
  have a3 := listP_le hl hN a2 h3
  have a4 := textP_le (by omega) h4
  have a5 := listP_le hl (cellP_le hl) (by omega : q4 ≤ n) h5
  have e2' : q5 = q := e2
  omega

set_option maxRecDepth 100000 in
set_option maxHeartbeats 2000000 in
theorem refCommitsAt_any {w : World} {n c : Nat} {A : Option Addr} {bs : List Nat} (hn : n ≤ 1000000000) (hnc : n ≤ c) (hr : Reads w w.heap.size 1 A n (bs.map byt)) (hbs : ∀ x ∈ bs, x < 256) :
    Calls Try.prog 39 #[.slice A n c, .int .i64 0] w (CAPost w (listP (commitP bs) bs 0)) := by
  have hl : bs.length = n := by have := hr.1; simpa using this
  have HC := Lib.hid (refCount_any A n c 0 bs w hn w.heap.size hr hbs)
  have e0 : getC bs 0 = countP bs 0 := getC_ok (p := 0) hl (Nat.zero_le _)
  rw [e0] at HC
  have hlp : listP (commitP bs) bs 0 = (countP bs 0).bind fun y => manyP (commitP bs) y.1 y.2 := rfl
  have hcl := fun m q => countP_fit (m := m) (q := q) hl (Nat.zero_le _)
  have HW : Hid (∀ (q : Nat) (w' : World), q ≤ n → Below w.heap.size w w' → Calls Try.prog 26 #[.slice A n c, .int .i64 (q : Int)] w' (MPost w' (commitP bs q))) := fun q w' hq hb => refCommit_nat hn hnc hq ((hr.below hb).more hb.size) hbs
  have HW2 := Lib.hid (commitP_le hl)
  generalize countP bs 0 = o at HC hlp hcl
  clear hr hbs hl e0
  rcases o with _ | ⟨m, q⟩
  · have HLP : Hid (listP (commitP bs) bs 0 = none) := hlp
    clear hlp hcl
    simp only [resC] at HC
    go_enter Try.func39, Try.ntmps39
    go_wp2_with fail
    refine (HC.out).mono ?_
    rintro e w1 ⟨rfl, rfl⟩
    clear HC
    go_wp2_with fail
    go_ret3
    unfold CAPost
    rw [HLP.out]
    exact ⟨rfl, Below.refl _ _⟩
  · obtain ⟨hm, hq⟩ := hcl m q rfl
    have hcnt : Hid (listP (commitP bs) bs 0 = manyP (commitP bs) m q) := hlp
    clear hlp hcl
    simp only [resC] at HC
    obtain ⟨i0, hi0, hz0, hz1, hz2⟩ := info_parts commit_info
    have R0 : Hid (QRel ccell CX.c (GV w.heap.size) 36 5 (commitP bs) w w q m 0 (some q) [] (.slice none 0 0)) :=
      ⟨Nat.zero_le _, rfl, rfl, (fun z hz => by injection hz with hz; rw [← hz]; exact ⟨rfl, fun x hx => by cases hx⟩), ⟨rfl, .inl ⟨rfl, rfl⟩⟩, Below.refl _ _⟩
    go_enter Try.func39, Try.ntmps39
    go_wp2_with fail
    refine (HC.out).mono ?_
    rintro e w1 ⟨rfl, rfl⟩
    clear HC
    go_wp2_with fail
    go_loopw [8, 9, 10, 11, 12] (fun pw ew v iv xw wr => ∃ (i p' : Nat) (xs : List CX), iv = .int .i64 (i : Int) ∧ pw = .int .i64 (p' : Int) ∧ ew = .int .i64 0 ∧ p' ≤ n ∧ QRel ccell CX.c (GV w.heap.size) 36 5 (commitP bs) w wr q m i (some p') xs v) (fun _ _ _ iv _ _ => ((m : Int) - intOf iv).toNat)
    case atStart => exact ⟨0, q, [], rfl, rfl, rfl, hq, R0.out⟩
    case round =>
      obtain ⟨i, p', xs, rfl, rfl, rfl, hp', hR⟩ := hrel
      have HQ := Lib.hid hR
      have hle := hR.le
      have hsz := (HQ.out).bel.size
      clear hR R0
      by_cases him : i < m
      · have dim : decide ((i : Int) < (m : Int)) = true := by simp; omega
        go_wp2_with fail
        refine (HW.out p' _ hp' ((HQ.out).bel.alloc hsz _)).mono ?_
        rintro e w2 ⟨hM, hbel⟩
        have XB := Lib.hid ((Blk.new wr 36 #[.int .i64 0, .slice none 0 0, .slice none 0 0, .string ⟨#[]⟩, .slice none 0 0]).below hbel (by simp))
        have hb2 : Below wr.heap.size wr w2 := ((Below.refl _ wr).alloc (Nat.le_refl _) _).trans (hbel.mono (by simp))
        have BL2 := Lib.hid hb2
        have hsz2 : wr.heap.size < w2.heap.size := (XB.out).lt
        clear hbel hb2
        have xc0 := (XB.out).cell 0
        have xc1 := (XB.out).cell 1
        have xc2 := (XB.out).cell 2
        have xc3 := (XB.out).cell 3
        have xc4 := (XB.out).cell 4
        have xf0 := (XB.out).frozen 0
        have xf1 := (XB.out).frozen 1
        have xf2 := (XB.out).frozen 2
        have xf3 := (XB.out).frozen 3
        have xf4 := (XB.out).frozen 4
        simp at xc0 xc1 xc2 xc3 xc4
        rcases he : commitP bs p' with _ | ⟨y, p2⟩
        · rw [he] at hM
          obtain rfl := hM
          have ho : Hid (listP (commitP bs) bs 0 = none) := by
            unfold Hid
            rw [hcnt.out]
            refine manyP_none m (i + 1) q him ?_
            rw [manyP_snoc]
            have := (HQ.out).st
            cases h1 : manyP (commitP bs) i q with
            | none => rfl
            | some y =>
              rw [h1] at this
              injection this with this
              have this' : y.2 = p' := this
              show (commitP bs y.2).map _ = _
              rw [this', he]
              rfl
          clear he hcnt
          go_wp2_with fail
          go_ret3
          unfold CAPost
          rw [ho.out]
          exact ⟨rfl, ((HQ.out).bel.trans (below_five ((BL2.out)) (Nat.le_refl _) _ _ _ _ _ |>.mono hsz))⟩
        · rw [he] at hM
          obtain ⟨x, rfl, hxc, hgx⟩ := hM
          have hp2 : Hid (p2 ≤ n) := HW2.out p' y p2 hp' he
          have hxc' : x.c = y := hxc
          have HE : Hid (∀ y2, (some p').bind (commitP bs) = some y2 → y2.1 = x.c) := fun y2 h2 => by
            have h3 : commitP bs p' = some y2 := h2
            rw [he] at h3
            injection h3 with h3
            rw [← h3]
            exact hxc'.symm
          have HS : Hid (((some p').bind (commitP bs)).map (·.2) = some p2) := by
            unfold Hid
            show (commitP bs p').map _ = _
            rw [he]
            rfl
          have OWN : Hid ((((((w2.setCell ⟨wr.heap.size, 0, none⟩ (.int .i64 x.c.stamp)).setCell ⟨wr.heap.size, 1, none⟩ (.slice x.A1 x.c.parents.length x.c1)).setCell ⟨wr.heap.size, 2, none⟩ (.slice x.A2 x.c.picks.length x.c2)).setCell ⟨wr.heap.size, 3, none⟩ (.string x.c.note)).setCell ⟨wr.heap.size, 4, none⟩ (.slice x.A3 x.c.writes.length x.c3)).ownsRow w.heap.size 36 5 u10 i (xs.flatMap ccell)) := (HQ.out).own.kept (only_of_below (below_five (BL2.out) (Nat.le_refl _) (.int .i64 x.c.stamp) (.slice x.A1 x.c.parents.length x.c1) (.slice x.A2 x.c.picks.length x.c2) (.string x.c.note) (.slice x.A3 x.c.writes.length x.c3)) none) (by cases u10.ownBlock <;> simp)
          have GX := Lib.hid ((goodN_sets5 (g := wr.heap.size) hgx (by simp) (.int .i64 x.c.stamp) (.slice x.A1 x.c.parents.length x.c1) (.slice x.A2 x.c.picks.length x.c2) (.string x.c.note) (.slice x.A3 x.c.writes.length x.c3)).low (lo' := wr.heap.size) (by simp))
          clear he hgx hxc hxc'
          go_wp2_with (at_builtin; refine wpList_append_row _ rfl (.tmp 38) (.tmp 40) 30 30 rfl w.heap.size 36 i0 (.agg #[.int .i64 0, .slice none 0 0, .slice none 0 0, .string ByteArray.empty, .slice none 0 0]) 5 96 Try.underlying30 hi0 hz0 hz1 hz2 rfl (by decide) _ _ _ rfl ((OWN.out).alloc _) (.slice (some ⟨w2.heap.size, 0, none⟩) 1 1) 1 _ rfl (src_newB (((((w2.setCell ⟨wr.heap.size, 0, none⟩ (.int .i64 x.c.stamp)).setCell ⟨wr.heap.size, 1, none⟩ (.slice x.A1 x.c.parents.length x.c1)).setCell ⟨wr.heap.size, 2, none⟩ (.slice x.A2 x.c.picks.length x.c2)).setCell ⟨wr.heap.size, 3, none⟩ (.string x.c.note)).setCell ⟨wr.heap.size, 4, none⟩ (.slice x.A3 x.c.writes.length x.c3)) Try.underlying30 [.int .i64 x.c.stamp, .slice x.A1 x.c.parents.length x.c1, .slice x.A2 x.c.picks.length x.c2, .string x.c.note, .slice x.A3 x.c.writes.length x.c3] 5 1 1 w2.heap.size 36 (five_size _ _ _ _ _ _ _).symm rfl (fun u hu => by simp at hu; rcases hu with rfl | rfl | rfl | rfl | rfl <;> rfl)) ?c1 ?c2 ?c3 ?_)
          case c1 => unfold maxLen; omega
          case c2 => omega
          case c3 => rw [World.size_alloc, five_size]; omega
          intro v6 w6 hown6 hg6
          have R3 := (HQ.out).step him (HE.out) hown6 ((((HQ.out).bel.trans ((below_five (BL2.out) (Nat.le_refl _) (.int .i64 x.c.stamp) (.slice x.A1 x.c.parents.length x.c1) (.slice x.A2 x.c.picks.length x.c2) (.string x.c.note) (.slice x.A3 x.c.writes.length x.c3)).mono hsz)).alloc (by rw [five_size]; omega) _).grown hg6.grown (by rw [World.size_alloc, five_size]; omega) (fun g hv => own_ge (HQ.out).own hv)) (fun hold _ => gv_step2 (below_five (BL2.out) (Nat.le_refl _) (.int .i64 x.c.stamp) (.slice x.A1 x.c.parents.length x.c1) (.slice x.A2 x.c.picks.length x.c2) (.string x.c.note) (.slice x.A3 x.c.writes.length x.c3)) hsz (fun g hv => own_lt (HQ.out).own hv) hg6 hold (GX.out))
          rw [HS.out] at R3
          replace R3 := Lib.hid R3
          clear hown6 hg6 OWN GX HE HS xc0 xc1 xc2 xc3 xc4 xf0 xf1 xf2 xf3 xf4 XB BL2
          go_wp2_with fail
          go_roundw
          case rel => exact ⟨i + 1, p2, _, by go_num, rfl, rfl, hp2.out, R3.out⟩
          case measure => simp [intOf]; omega
      · have dim : decide ((i : Int) < (m : Int)) = false := by simp; omega
        obtain ⟨B, cc, rfl, h1, h2, h3⟩ := (HQ.out).done (.inl (by omega)) (hcnt.out)
        obtain ⟨y, hy, hy2⟩ := Option.map_eq_some_iff.1 h3
        have hy2' : y.2 = p' := hy2
        obtain ⟨k1, k2⟩ := h1 y hy
        have HY := Lib.hid hy
        have FIN : Hid (xs.map CX.c = y.1 ∧ ComsN wr w.heap.size B xs.length xs) := ⟨k1.symm, ⟨rfl, h2.1, fun x hx => (k2 x hx).1.good⟩, fun x hx => (k2 x hx).1, h2.2⟩
        clear h1 h2 h3 hy hy2 k1 k2
        subst hy2'
        go_wp2_with fail
        go_ret3
        unfold CAPost
        rw [HY.out]
        exact ⟨⟨B, cc, xs, rfl, FIN.out.1, FIN.out.2⟩, (HQ.out).bel⟩

set_option maxRecDepth 100000 in
set_option maxHeartbeats 1000000 in
theorem refGetCommits_any (A : Option Addr) (n c : Nat) (bs : List Nat) (w : World) (hn : n ≤ 1000000000) (hnc : n ≤ c) (hr : Reads w w.heap.size 1 A n (bs.map byt)) (hbs : ∀ x ∈ bs, x < 256) :
    Calls Try.prog 24 #[.slice A n c] w (GotPost w (commitsP bs)) := by
  have hl : bs.length = n := by have := hr.1; simpa using this
  have HA := Lib.hid (refCommitsAt_any hn hnc hr hbs)
  have hcp : commitsP bs = (listP (commitP bs) bs 0).bind fun y => if y.2 = bs.length then some y.1 else none := rfl
  clear hr hbs
  generalize listP (commitP bs) bs 0 = o at HA hcp
  rcases o with _ | ⟨l, q⟩
  · have HP : Hid (commitsP bs = none) := hcp
    clear hcp hl
    go_enter Try.func24, Try.ntmps24
    go_wp2_with fail
    refine (HA.out).mono ?_
    rintro e w1 ⟨rfl, hb⟩
    have HB := Lib.hid hb
    clear HA hb
    go_wp2_with fail
    go_ret2
    unfold GotPost
    rw [HP.out]
    exact ⟨rfl, HB.out⟩
  · simp only [Option.bind_some] at hcp
    by_cases hqn : q = n
    · have hd : ((q : Int) != (n : Int)) = false := by simp; omega
      rw [if_pos (by omega)] at hcp
      replace hcp := Lib.hid hcp
      clear hl
      go_enter Try.func24, Try.ntmps24
      go_wp2_with fail
      refine (HA.out).mono ?_
      rintro e w1 ⟨⟨B, cc, xs, rfl, hx, hC⟩, hb⟩
      have HB := Lib.hid hb
      have HX := Lib.hid hx
      have HCC := Lib.hid hC
      clear HA hb hx hC
      go_wp2_with fail
      go_ret2
      unfold GotPost
      rw [hcp.out]
      exact ⟨⟨B, cc, xs, rfl, HX.out, HCC.out⟩, HB.out⟩
    · have hd : ((q : Int) != (n : Int)) = true := by simp; omega
      rw [if_neg (by omega)] at hcp
      replace hcp := Lib.hid hcp
      clear hl
      go_enter Try.func24, Try.ntmps24
      go_wp2_with fail
      refine (HA.out).mono ?_
      rintro e w1 ⟨⟨B, cc, xs, rfl, hx, hC⟩, hb⟩
      have HB := Lib.hid hb
      clear HA hb hx hC
      go_wp2_with fail
      go_ret2
      unfold GotPost
      rw [hcp.out]
      exact ⟨rfl, HB.out⟩
end Go.Proofs.Ytnnclopojiegfaa
