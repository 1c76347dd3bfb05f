/-
  Verify: the program's walk. No condition.
-/
import Derived.Test.YtaadaekpmblpaaaSqV
namespace Go.Proofs.Ytaadaekpmblpaaa
open Go.RowKit
set_option linter.unusedVariables false

def VerPost (w : World) (b : Bool) (e : Ending) (w' : World) : Prop := e = .returned (.bool b) ∧ Below w.heap.size w w'

theorem below_any {B : Nat} {a w w2 : World} (h : Below B a w) (hw : ∃ n, w2 = w.drewN n) : Below B a w2 := by obtain ⟨n, rfl⟩ := hw; exact below_drewN h n
set_option maxRecDepth 100000 in
set_option maxHeartbeats 4000000 in
theorem verify_any (A1 : Option Addr) (n1 c1 : Nat) (A2 : Option Addr) (n2 c2 : Nat) (A3 : Option Addr) (n3 c3 : Nat) (A4 : Option Addr) (n4 c4 : Nat) (c : Int) (A5 : Option Addr) (n5 c5 : Nat) (drop add : List Int) (cost : List (List Int)) (ps : List (Int × Int)) (pot : List (List Int)) (w : World)
    (h : Three w w.heap.size A1 n1 A2 n2 A3 n3 drop add cost) (h4 : Prs w w.heap.size A4 n4 ps) (hn4 : n4 ≤ 1000000000) (h5 : Mat w w.heap.size A5 n5 pot) (hn5 : n5 ≤ 1000000000) (hl5 : ∀ r ∈ pot, r.length ≤ 1000000000) :
    Calls Try.prog 19 #[.slice A1 n1 c1, .slice A2 n2 c2, .slice A3 n3 c3, .agg #[.slice A4 n4 c4, .int .i64 c, .slice A5 n5 c5]] w (VerPost w (verL drop add cost ps c pot)) := by
  obtain ⟨w1, hw1⟩ : ∃ w1, w1 = w.alloc (Obj.cells #[.slice A4 n4 c4, .int .i64 c, .slice A5 n5 c5] 28) := ⟨_, rfl⟩
  have hs1 : w.heap.size < w1.heap.size := by subst hw1; simp
  have hB1 : Below w.heap.size w w1 := by subst hw1; exact (Below.refl _ w).alloc (Nat.le_refl _) _
  have hK1 : Blk w1 w.heap.size 28 #[.slice A4 n4 c4, .int .i64 c, .slice A5 n5 c5] := by subst hw1; exact Blk.new _ _ _
  have h' := (h.below hB1).more (Nat.le_of_lt hs1)
  have h4' : Prs w1 w1.heap.size A4 n4 ps := (h4.below hB1).more (Nat.le_of_lt hs1)
  have h5' : Mat w1 w1.heap.size A5 n5 pot := (h5.below hB1).more (Nat.le_of_lt hs1)
  have HC := Lib.hid (cost_any A1 n1 c1 A2 n2 c2 A3 n3 c3 A4 n4 c4 drop add cost ps w1 h' h4' hn4)
  obtain ⟨res, hres⟩ : ∃ b, verL drop add cost ps c pot = b := ⟨_, rfl⟩
  rw [hres]
  unfold verL at hres
  have hpr := costL_proper (drop := drop) (add := add) (cost := cost) (ps := ps)
  obtain ⟨⟨r1, r2⟩, hr⟩ : ∃ r, costL drop add cost ps = r := ⟨_, rfl⟩
  rw [hr] at hres HC hpr
  simp only at hres hpr
  have e1 := h.d.len
  have e2 := h.a.len
  have e5 := h5.len
  rw [e1, e2, e5] at hres
  have HE := Lib.hid hres
  have HW := Lib.hid hw1
  have HB1 := Lib.hid hB1
  have HK1 := Lib.hid hK1
  have H' := Lib.hid h'
  have H5 := Lib.hid h5'
  have HPR := Lib.hid hpr
  have HL5 := Lib.hid hl5
  have HE1 := Lib.hid e1
  have HE2 := Lib.hid e2
  have HE5 := Lib.hid e5
  have l1 := h.l1
  have l2 := h.l2
  clear h h4 h5 h' h4' h5' hw1 hB1 hK1 hpr hr hres hl5 e1 e2 e5
  go_enter Try.func19, Try.ntmps19
  go_wp2_with fail
  rw [← HW.out]
  refine (HC.out).mono ?_
  rintro e w2 ⟨rfl, hbe⟩
  have HB2 : Hid (Below w.heap.size w w2) := HB1.out.trans (hbe.mono (Nat.le_of_lt hs1))
  have hblk : Blk w2 w.heap.size 28 #[.slice A4 n4 c4, .int .i64 c, .slice A5 n5 c5] := HK1.out.below hbe hs1
  have a0 := hblk.cell 0
  have a1 := hblk.cell 1
  have a2 := hblk.cell 2
  simp at a0 a1 a2
  have H3 := Lib.hid (H'.out.below hbe)
  have HM := Lib.hid (H5.out.below hbe)
  clear hbe hblk HC H' H5 HK1 HB1 HW
  cases r2 with
  | false =>
    have hf : Hid (res = false) := by show res = false; rw [← HE.out]; simp
    go_wp2_with fail
    go_ret
    exact ⟨by rw [hf.out]; rfl, HB2.out⟩
  | true =>
  by_cases hc : r1 = c
  rotate_left
  · have hf : Hid (res = false) := by show res = false; rw [← HE.out]; simp [hc]
    have hc' : (r1 != c) = true := by simpa using hc
    go_wp2_with fail
    go_ret
    exact ⟨by rw [hf.out]; rfl, HB2.out⟩
  subst hc
  by_cases hn : n5 = n1 + 1
  rotate_left
  · have hf : Hid (res = false) := by show res = false; rw [← HE.out]; simp [hn]
    have hc' : ((n5 : Int) != (n1 : Int) + 1) = true := by simp; omega
    go_wp2_with fail
    go_ret
    exact ⟨by rw [hf.out]; rfl, HB2.out⟩
  subst hn
  have HEE : Hid ((pot.all (potRow n2) && decide (pget pot 0 0 = 0) && decide (pget pot n1 n2 = r1) && edgesOk drop add cost pot) = res) := by
    show _ = res
    rw [← HE.out]
    simp
  clear HE
  obtain ⟨p1, p2, p3, p4, p5, p6⟩ := proper_parts (HPR.out rfl)
  have HP4 := Lib.hid p4
  have HP5 := Lib.hid p5
  have HP6 := Lib.hid p6
  have q1 : n1 ≤ 400 := by have := HE1.out; omega
  have q2 : n2 ≤ 400 := by have := HE2.out; omega
  have q3 : n3 = n1 := by have := HE1.out; have := H3.out.c.len; omega
  subst q3
  clear p1 p2 p3 p4 p5 p6
  go_wp2_with fail
  go_loop [47] (fun i => ∃ j : Nat, j ≤ n3 + 1 ∧ i = .int .i64 (j : Int) ∧ Hid ((pot.take j).all (potRow n2) = true)) (fun i => n3 + 1 - (intOf i).toNat)
  case atStart => exact ⟨0, by omega, rfl, by show (pot.take 0).all _ = true; simp⟩
  case round =>
    obtain ⟨j, hj, rfl, HA⟩ := hrel
    by_cases hlt : j < n3 + 1
    · obtain ⟨b, off, A', n', c', r, rfl, hb, hx, hcell, hrow⟩ := HM.out.row hlt
      have HX := Lib.hid hx
      have hr9 := HL5.out r (List.mem_of_getElem? hx)
      have hrl := hrow.len
      have W3 := Lib.hid (within_any A' n' c' _ r 0 1099511627776 w2 hrow (by unfold maxLen; omega))
      have HRL := Lib.hid hrl
      obtain ⟨i3, hi3⟩ : ∃ b, inside 0 1099511627776 r = b := ⟨_, rfl⟩
      rw [hi3] at W3
      have HI3 := Lib.hid hi3
      clear hx hb hrow hi3 hrl
      by_cases h4 : n' = n2 + 1
      rotate_left
      · have h4' : ((n' : Int) != (n2 : Int) + 1) = true := by simp; omega
        have hf : Hid (res = false) := by
          show res = false
          rw [← HEE.out, all_no HX.out (by unfold potRow; rw [HRL.out]; simp [h4])]
          rfl
        go_wp2_with fail
        go_ret
        exact ⟨by rw [hf.out]; rfl, HB2.out⟩
      subst h4
      cases i3 with
      | false =>
        have hf : Hid (res = false) := by
          show res = false
          rw [← HEE.out, all_no HX.out (by unfold potRow; rw [HI3.out]; simp)]
          rfl
        go_wp2_with fail
        refine (W3.out).mono ?_
        rintro e w1 ⟨rfl, rfl⟩
        go_wp2_with fail
        go_ret
        exact ⟨by rw [hf.out]; rfl, HB2.out⟩
      | true =>
        have HS : Hid ((pot.take (j + 1)).all (potRow n2) = true) := all_take_step HX.out (by unfold potRow; rw [HI3.out, HRL.out]; simp) HA.out
        go_wp2_with fail
        refine (W3.out).mono ?_
        rintro e w1 ⟨rfl, rfl⟩
        go_wp2_with fail
        go_round
        case rel => exact ⟨j + 1, by omega, by go_num, HS⟩
        case measure => simp [intOf]; omega
    · have hall : pot.all (potRow n2) = true := by
        rw [← HA.out, List.take_of_length_le (by rw [HE5.out]; omega)]
      have HE6 : Hid ((decide (pget pot 0 0 = 0) && decide (pget pot n3 n2 = r1) && edgesOk drop add cost pot) = res) := by
        show _ = res
        rw [← HEE.out, hall]
        simp
      obtain ⟨b5, o5, rfl, hb5, hgrid⟩ := HM.out.grid (m := n2 + 1) (by omega) (by omega) (fun r hr => by
        have := List.all_eq_true.1 hall r hr
        unfold potRow at this
        simp at this
        exact this.1)
      have HPB : Hid (∀ i j, i < n3 + 1 → j < n2 + 1 → 0 ≤ pget pot i j ∧ pget pot i j ≤ 1099511627776) := fun i j hi hj => pot_bounds hall (by rw [HE5.out]; exact hi) hj
      have HG := Lib.hid hgrid
      obtain ⟨x0, o0, k0, g0, t0⟩ := hgrid 0 (by omega)
      obtain ⟨x9, o9, k9, g9, t9⟩ := hgrid n3 (by omega)
      have v0 := t0 0 (by omega)
      have v9 := t9 n2 (by omega)
      simp only [Nat.add_zero] at g0 v0
      clear hall hgrid HEE HA t0 t9
      by_cases z0 : pget pot 0 0 = 0
      rotate_left
      · have hf : Hid (res = false) := by show res = false; rw [← HE6.out]; simp [z0]
        obtain ⟨y0, hy0⟩ : ∃ y, pget pot 0 0 = y := ⟨_, rfl⟩
        rw [hy0] at z0 v0
        have z0' : (y0 != 0) = true := by simpa using z0
        go_wp2_with fail
        go_quiet (fail)
        go_wp2_with fail
        go_ret
        exact ⟨by rw [hf.out]; rfl, below_drewN HB2.out _⟩
      by_cases z9 : pget pot n3 n2 = r1
      rotate_left
      · have hf : Hid (res = false) := by show res = false; rw [← HE6.out]; simp [z9]
        rw [z0] at v0
        obtain ⟨y9, hy9⟩ : ∃ y, pget pot n3 n2 = y := ⟨_, rfl⟩
        rw [hy9] at z9 v9
        have z9' : (y9 != r1) = true := by simpa using z9
        go_wp2_with fail
        go_quiet (fail)
        go_wp2_with fail
        go_ret
        exact ⟨by rw [hf.out]; rfl, below_drewN HB2.out _⟩
      have HE7 : Hid (edgesOk drop add cost pot = res) := by show _ = res; rw [← HE6.out]; simp [z0, z9]
      rw [z0] at v0
      rw [z9] at v9
      clear HE6 z0 z9
      go_wp2_with fail
      go_quiet (fail)
      go_wp2_with fail
      go_loopw [84] (fun v wr => ∃ (i a : Nat), i ≤ n3 + 1 ∧ v = .int .i64 (i : Int) ∧ wr = w2.drewN a ∧ Hid ((List.range i).all (fun i => (List.range (add.length + 1)).all fun j => edgeOk drop add cost pot i j) = true)) (fun v _ => n3 + 1 - (intOf v).toNat)
      case atStart => exact ⟨0, nq, by omega, rfl, rfl, by show (List.range 0).all _ = true; simp⟩
      case round =>
        obtain ⟨i, a, hi, rfl, rfl, HI⟩ := hrel
        by_cases hlt : i < n3 + 1
        · have d85 : decide ((i : Int) < (n3 : Int) + 1) = true := by simp; omega
          go_wp2_with fail
          go_loopw [89] (fun v wr => ∃ (k a : Nat), k ≤ n2 + 1 ∧ v = .int .i64 (k : Int) ∧ wr = w2.drewN a ∧ Hid ((List.range k).all (fun j => edgeOk drop add cost pot i j) = true)) (fun v _ => n2 + 1 - (intOf v).toNat)
          case atStart => exact ⟨0, a, by omega, rfl, rfl, by show (List.range 0).all _ = true; simp⟩
          case round =>
            obtain ⟨k, a', hk, rfl, rfl, HK⟩ := hrel
            by_cases hlt2 : k < n2 + 1
            rotate_left
            · obtain rfl : k = n2 + 1 := by omega
              have HS : Hid ((List.range (i + 1)).all (fun i => (List.range (add.length + 1)).all fun j => edgeOk drop add cost pot i j) = true) := range_all_step HI.out (by rw [HE2.out]; exact HK.out)
              go_wp2_with fail
              go_roundw
              case rel => exact ⟨i + 1, _, by omega, by go_num, rfl, HS⟩
              case measure => simp [intOf]; omega
            obtain ⟨b1, o1, k1, g1, t1⟩ := HG.out i (by omega)
            have v1 := t1 k (by omega)
            have e1 := HPB.out i k (by omega) (by omega)
            have hE : edgeOk drop add cost pot i k = ((!decide (i < n3) || decide (pget pot (i + 1) k ≤ pget pot i k + drop.getD i 0)) && (!decide (k < n2) || decide (pget pot i (k + 1) ≤ pget pot i k + add.getD k 0)) && (!(decide (i < n3) && decide (k < n2) && decide (0 ≤ pget cost i k)) || decide (pget pot (i + 1) (k + 1) ≤ pget pot i k + pget cost i k))) := by
              unfold edgeOk edge1 edge2 edge3
              rw [HE1.out, HE2.out]
            have HF : Hid (edgeOk drop add cost pot i k = false → res = false) := by
              intro hfa
              rw [← HE7.out]
              exact range_all_no (j := i) (by rw [HE1.out]; omega) (range_all_no (j := k) (by rw [HE2.out]; omega) hfa)
            have HT : Hid (edgeOk drop add cost pot i k = true → Hid ((List.range (k + 1)).all (fun j => edgeOk drop add cost pot i j) = true)) := fun htr => range_all_step HK.out htr
            obtain ⟨y1, hy1⟩ : ∃ y, pget pot i k = y := ⟨_, rfl⟩
            rw [hy1] at v1 e1 hE
            obtain ⟨e11, e12⟩ := e1
            clear hy1 HK
            by_cases hi3 : i < n3
            · have di : decide (i < n3) = true := by simpa using hi3
              obtain ⟨b2, o2, k2, g2, t2⟩ := HG.out (i + 1) (by omega)
              have v2 := t2 k (by omega)
              have e2 := HPB.out (i + 1) k (by omega) (by omega)
              obtain ⟨y2, hy2⟩ : ∃ y, pget pot (i + 1) k = y := ⟨_, rfl⟩
              rw [hy2] at v2 e2 hE
              obtain ⟨e21, e22⟩ := e2
              obtain ⟨bd, od, xd, hAd, hbd, hxd, hcd⟩ := Ints.at_ (k := i) H3.out.d (by omega)
              subst hAd
              obtain ⟨f11, f12⟩ := inside_at HP4.out hxd
              rw [getD_of hxd] at hE
              clear hy2 hxd hbd
              by_cases hk2 : k < n2
              · have dk : decide (k < n2) = true := by simpa using hk2
                have v3 := t1 (k + 1) (by omega)
                have e3 := HPB.out i (k + 1) (by omega) (by omega)
                obtain ⟨y3, hy3⟩ : ∃ y, pget pot i (k + 1) = y := ⟨_, rfl⟩
                rw [hy3] at v3 e3 hE
                obtain ⟨e31, e32⟩ := e3
                obtain ⟨ba, oa, xa, hAa, hba, hxa, hca⟩ := Ints.at_ (k := k) H3.out.a (by omega)
                subst hAa
                obtain ⟨f21, f22⟩ := inside_at HP5.out hxa
                rw [getD_of hxa] at hE
                have v4 := t2 (k + 1) (by omega)
                have e4 := HPB.out (i + 1) (k + 1) (by omega) (by omega)
                obtain ⟨y4, hy4⟩ : ∃ y, pget pot (i + 1) (k + 1) = y := ⟨_, rfl⟩
                rw [hy4] at v4 e4 hE
                obtain ⟨e41, e42⟩ := e4
                obtain ⟨bc, oc, Ac, nc, cc, rc, hAc, hbc, hxc, hcc, hrowc⟩ := H3.out.c.row (k := i) (by omega)
                subst hAc
                have hrc := HP6.out rc (List.mem_of_getElem? hxc)
                have hrn := Ints.len hrowc
                obtain rfl : nc = n2 := by have := HE2.out; omega
                obtain ⟨be, oe, xe, hAe, hbe, hxe, hce⟩ := Ints.at_ (k := k) hrowc (by omega)
                subst hAe
                obtain ⟨f31, f32⟩ := inside_at hrc.2 hxe
                rw [pget_of hxc hxe] at hE
                have HE := Lib.hid hE
                clear hy3 hxa hba hy4 hxc hbc hrc hrn hxe hbe hrowc hE t1 t2
                by_cases w3 : xe < 0
                · as_aux_lemma =>
                    have dxe : decide (0 ≤ xe) = false := by simp; omega
                    go_wp2_with fail
                    all_goals (try (go_quiet (fail); go_wp2_with fail))
                    all_goals (try (go_quiet (fail); go_wp2_with fail))
                    all_goals (try (go_quiet (fail); go_wp2_with fail))
                    all_goals first
                      | (go_ret; exact ⟨by rw [HF.out (by rw [HE.out]; simp [hi3, hk2]; intros; omega)]; rfl, (by first | exact below_drewN HB2.out _ | exact below_drewN (below_drewN HB2.out _) _ | exact below_drewN (below_drewN (below_drewN HB2.out _) _) _ | exact below_drewN (below_drewN (below_drewN (below_drewN HB2.out _) _) _) _)⟩)
                      | (go_roundw
                         case rel => exact ⟨k + 1, _, by omega, by go_num, (by first | rfl | exact World.drewN_drewN _ _ _), HT.out (by rw [HE.out]; simp [hi3, hk2]; omega)⟩
                         case measure => simp [intOf] <;> omega)
                · as_aux_lemma =>
                    have dxe : decide (0 ≤ xe) = true := by simp; omega
                    go_wp2_with fail
                    all_goals (try (go_quiet (fail); go_wp2_with fail))
                    all_goals (try (go_quiet (fail); go_wp2_with fail))
                    all_goals (try (go_quiet (fail); go_wp2_with fail))
                    all_goals first
                      | (go_ret; exact ⟨by rw [HF.out (by rw [HE.out]; simp [hi3, hk2]; intros; omega)]; rfl, (by first | exact below_drewN HB2.out _ | exact below_drewN (below_drewN HB2.out _) _ | exact below_drewN (below_drewN (below_drewN HB2.out _) _) _ | exact below_drewN (below_drewN (below_drewN (below_drewN HB2.out _) _) _) _)⟩)
                      | (go_roundw
                         case rel => exact ⟨k + 1, _, by omega, by go_num, (by first | rfl | exact World.drewN_drewN _ _ _), HT.out (by rw [HE.out]; simp [hi3, hk2]; omega)⟩
                         case measure => simp [intOf] <;> omega)
              · as_aux_lemma =>
                  have dk : decide (k < n2) = false := by simpa using hk2
                  have HE := Lib.hid hE
                  clear hE t1 t2
                  go_wp2_with fail
                  all_goals (try (go_quiet (fail); go_wp2_with fail))
                  all_goals (try (go_quiet (fail); go_wp2_with fail))
                  all_goals (try (go_quiet (fail); go_wp2_with fail))
                  all_goals first
                    | (go_ret; exact ⟨by rw [HF.out (by rw [HE.out]; simp [hi3, hk2]; intros; omega)]; rfl, (by first | exact below_drewN HB2.out _ | exact below_drewN (below_drewN HB2.out _) _ | exact below_drewN (below_drewN (below_drewN HB2.out _) _) _ | exact below_drewN (below_drewN (below_drewN (below_drewN HB2.out _) _) _) _)⟩)
                    | (go_roundw
                       case rel => exact ⟨k + 1, _, by omega, by go_num, (by first | rfl | exact World.drewN_drewN _ _ _), HT.out (by rw [HE.out]; simp [hi3, hk2]; omega)⟩
                       case measure => simp [intOf] <;> omega)
            · have di : decide (i < n3) = false := by simpa using hi3
              by_cases hk2 : k < n2
              · have dk : decide (k < n2) = true := by simpa using hk2
                have v3 := t1 (k + 1) (by omega)
                have e3 := HPB.out i (k + 1) (by omega) (by omega)
                obtain ⟨y3, hy3⟩ : ∃ y, pget pot i (k + 1) = y := ⟨_, rfl⟩
                rw [hy3] at v3 e3 hE
                obtain ⟨e31, e32⟩ := e3
                obtain ⟨ba, oa, xa, hAa, hba, hxa, hca⟩ := Ints.at_ (k := k) H3.out.a (by omega)
                subst hAa
                obtain ⟨f21, f22⟩ := inside_at HP5.out hxa
                rw [getD_of hxa] at hE
                have HE := Lib.hid hE
                clear hy3 hxa hba hE t1
                go_wp2_with fail
                all_goals (try (go_quiet (fail); go_wp2_with fail))
                all_goals (try (go_quiet (fail); go_wp2_with fail))
                all_goals (try (go_quiet (fail); go_wp2_with fail))
                all_goals first
                  | (go_ret; exact ⟨by rw [HF.out (by rw [HE.out]; simp [hi3, hk2]; intros; omega)]; rfl, (by first | exact below_drewN HB2.out _ | exact below_drewN (below_drewN HB2.out _) _ | exact below_drewN (below_drewN (below_drewN HB2.out _) _) _ | exact below_drewN (below_drewN (below_drewN (below_drewN HB2.out _) _) _) _)⟩)
                  | (go_roundw
                     case rel => exact ⟨k + 1, _, by omega, by go_num, (by first | rfl | exact World.drewN_drewN _ _ _), HT.out (by rw [HE.out]; simp [hi3, hk2]; omega)⟩
                     case measure => simp [intOf] <;> omega)
              · as_aux_lemma =>
                  have dk : decide (k < n2) = false := by simpa using hk2
                  have HE := Lib.hid hE
                  clear hE t1
                  go_wp2_with fail
                  all_goals (try (go_quiet (fail); go_wp2_with fail))
                  all_goals (try (go_quiet (fail); go_wp2_with fail))
                  all_goals (try (go_quiet (fail); go_wp2_with fail))
                  all_goals first
                    | (go_ret; exact ⟨by rw [HF.out (by rw [HE.out]; simp [hi3, hk2]; intros; omega)]; rfl, (by first | exact below_drewN HB2.out _ | exact below_drewN (below_drewN HB2.out _) _ | exact below_drewN (below_drewN (below_drewN HB2.out _) _) _ | exact below_drewN (below_drewN (below_drewN (below_drewN HB2.out _) _) _) _)⟩)
                    | (go_roundw
                       case rel => exact ⟨k + 1, _, by omega, by go_num, (by first | rfl | exact World.drewN_drewN _ _ _), HT.out (by rw [HE.out]; simp [hi3, hk2])⟩
                       case measure => simp [intOf] <;> omega)
        · have hf : Hid (res = true) := by
            show res = true
            rw [← HE7.out, ← HI.out]
            unfold edgesOk
            rw [HE1.out, show i = n3 + 1 by omega]
          go_wp2_with fail
          go_ret
          exact ⟨by rw [hf.out]; rfl, below_drewN HB2.out _⟩
end Go.Proofs.Ytaadaekpmblpaaa
