/-
  The reference's cost of pairs. No condition.
-/
import Derived.Test.YtaadaekpmblpaaaSqC
namespace Go.Proofs.Ytaadaekpmblpaaa
open Go.RowKit
set_option linter.unusedVariables false

def CostQuiet (w : World) (x : Int × Bool) (e : Ending) (w' : World) : Prop := e = .returned (.tuple #[.int .i64 x.1, .bool x.2]) ∧ ∃ m, w' = w.drewN m

set_option maxRecDepth 100000 in
set_option maxHeartbeats 4000000 in
theorem refCost_any (A1 : Option Addr) (n1 c1 : Nat) (A2 : Option Addr) (n2 c2 : Nat) (A3 : Option Addr) (n3 c3 : Nat) (A4 : Option Addr) (n4 c4 : Nat) (drop add : List Int) (cost : List (List Int)) (ps : List (Int × Int)) (B : Nat) (w : World)
    (h : Three w B A1 n1 A2 n2 A3 n3 drop add cost) (h4 : Prs w B A4 n4 ps) (hn4 : n4 ≤ 1000000000) :
    Calls Try.prog 18 #[.slice A1 n1 c1, .slice A2 n2 c2, .slice A3 n3 c3, .slice A4 n4 c4] w (CostQuiet w (costL drop add cost ps)) := by
  have HP := Lib.hid (refProper_any A1 n1 c1 A2 n2 c2 A3 n3 c3 B drop add cost w h)
  obtain ⟨res, hres⟩ : ∃ b, costL drop add cost ps = b := ⟨_, rfl⟩
  rw [hres]
  cases hp : properL drop add cost with
  | false =>
    rw [hp] at HP
    unfold costL at hres
    rw [hp] at hres
    obtain rfl : (0, false) = res := by simpa using hres
    have HR : Hid (CostQuiet w (0, false) (.returned (.tuple #[.int .i64 0, .bool false])) w) := ⟨rfl, 0, rfl⟩
    clear hp hres h h4
    go_enter Try.func18, Try.ntmps18
    go_wp2_with fail
    refine (HP.out).mono ?_
    rintro e w1 ⟨rfl, rfl⟩
    go_wp2_with fail
    go_ret2
    exact HR.out
  | true =>
    rw [hp] at HP
    unfold costL at hres
    rw [hp, if_pos rfl] at hres
    obtain ⟨p1, p2, p3, p4, p5, p6⟩ := proper_parts hp
    have e1 := h.d.len
    have e2 := h.a.len
    have e3 := h.c.len
    have HD := Lib.hid h.d
    have HA := Lib.hid h.a
    have HC := Lib.hid h.c
    have H4 := Lib.hid h4
    have HP4 := Lib.hid p4
    have HP5 := Lib.hid p5
    have HP6 := Lib.hid p6
    have HE := Lib.hid hres
    rw [e1] at p1
    rw [e2] at p2
    have hn3 : n3 = n1 := by omega
    subst hn3
    have HE1 := Lib.hid e1
    have HE2 := Lib.hid e2
    have HL4 := Lib.hid h4.len
    clear hp hres h h4 e1 e2 e3 p3 p4 p5 p6
    go_enter Try.func18, Try.ntmps18
    go_wp2_with fail
    refine (HP.out).mono ?_
    rintro e w1 ⟨rfl, rfl⟩
    go_wp2_with fail
    go_loop [10, 11] (fun s i => ∃ (j : Nat) (t : Int), j ≤ n3 ∧ i = .int .i64 (j : Int) ∧ s = .int .i64 t ∧ Hid (t = (drop.take j).sum) ∧ 0 ≤ t ∧ t ≤ j * 1048576) (fun _ i => n3 - (intOf i).toNat)
    case atStart => exact ⟨0, 0, by omega, rfl, rfl, by show _ = (drop.take 0).sum; simp, by omega, by omega⟩
    case round =>
      obtain ⟨j, t, hj, rfl, rfl, HT, ht1, ht2⟩ := hrel
      by_cases hlt : j < n3
      · obtain ⟨b, off, x, rfl, hb, hx, hcell⟩ := HD.out.at_ hlt
        have hxi := inside_at HP4.out hx
        have HX := Lib.hid hx
        clear hx hb
        obtain ⟨hx1, hx2⟩ := hxi
        go_wp2_with fail
        go_round
        case rel => exact ⟨j + 1, t + x, by omega, by go_num, by go_num, by show _ = _; rw [sum_take HX.out, ← HT.out], by omega, by omega⟩
        case measure => simp [intOf]; omega
      · obtain rfl : j = n3 := by omega
        have HT2 : Hid (t = drop.sum) := by show _ = _; rw [HT.out, List.take_of_length_le (by rw [HE1.out]; omega)]
        clear HT hj hlt
        go_wp2_with fail
        go_loop [10, 12] (fun s i => ∃ (k : Nat) (t2 : Int), k ≤ n2 ∧ i = .int .i64 (k : Int) ∧ s = .int .i64 t2 ∧ Hid (t2 = t + (add.take k).sum) ∧ 0 ≤ t2 ∧ t2 ≤ (j : Int) * 1048576 + k * 1048576) (fun _ i => n2 - (intOf i).toNat)
        case atStart => exact ⟨0, t, by omega, rfl, rfl, by show _ = _; simp, by omega, by omega⟩
        case round =>
          obtain ⟨k, t2, hk, rfl, rfl, HT, hk1, hk2⟩ := hrel
          by_cases hlt : k < n2
          · obtain ⟨b, off, x, rfl, hb, hx, hcell⟩ := HA.out.at_ hlt
            have hxi := inside_at HP5.out hx
            have HX := Lib.hid hx
            clear hx hb
            obtain ⟨hx1, hx2⟩ := hxi
            go_wp2_with fail
            go_round
            case rel => exact ⟨k + 1, t2 + x, by omega, by go_num, by go_num, by show _ = _; rw [sum_take HX.out, HT.out]; omega, by omega, by omega⟩
            case measure => simp [intOf]; omega
          · obtain rfl : k = n2 := by omega
            have HS : Hid (t2 = drop.sum + add.sum) := by show _ = _; rw [HT.out, HT2.out, List.take_of_length_le (by rw [HE2.out]; omega)]
            have ht3 : t2 ≤ 838860800 := by omega
            have HEE : Hid (costGo drop add cost t2 (-1) (-1) ps = res) := by show _ = _; rw [HS.out]; exact HE.out
            clear HT hk hlt HS HE HT2 hk2 ht2 ht1
            go_wp2_with fail
            go_loopw [10, 13] (fun s i wr => ∃ (q : Nat) (t3 li lj : Int) (a : Nat), q ≤ n4 ∧ i = .int .i64 (q : Int) ∧ s = .int .i64 t3 ∧ Hid (costGo drop add cost t3 li lj (ps.drop q) = res) ∧ -1 ≤ li ∧ -1 ≤ lj ∧ li < j ∧ -4194304 * (li + 1) ≤ t3 ∧ t3 ≤ 838860800 + 4194304 * (li + 1) ∧ wr = w.drewN a ∧ (q = 0 → li = -1 ∧ lj = -1) ∧ Hid (0 < q → ps[q - 1]? = some (li, lj) ∧ 0 ≤ li ∧ 0 ≤ lj)) (fun _ i _ => n4 - (intOf i).toNat)
            case atStart => exact ⟨0, t2, -1, -1, 0, by omega, rfl, rfl, HEE, by omega, by omega, by omega, by omega, by omega, rfl, fun _ => ⟨rfl, rfl⟩, fun h => absurd h (by omega)⟩
            case round =>
              obtain ⟨q, t3, li, lj, a, hq, rfl, rfl, HG, hli, hlj, hlj2, hb1, hb2, rfl, hq0, HQ⟩ := hrel
              by_cases hlt : q < n4
              · obtain ⟨b, off, x, y, rfl, hb, hx, hcell, hcell2⟩ := H4.out.at_ hlt
                have HX := Lib.hid hx
                clear hx hb
                by_cases g0 : x < 0
                · have hf : Hid (res = (0, false)) := by
                    show res = _
                    rw [← HG.out]
                    exact costGo_bad HX.out (by simp [badP] <;> omega)
                  go_wp2_with fail
                  go_quiet (fail)
                  go_wp2_with fail
                  go_ret2
                  exact ⟨by rw [hf.out]; rfl, _, rfl⟩
                by_cases g3 : (j : Int) ≤ x
                · have hf : Hid (res = (0, false)) := by
                    show res = _
                    rw [← HG.out]
                    exact costGo_bad HX.out (by simp [badP, HE1.out, g3])
                  go_wp2_with fail
                  go_quiet (fail)
                  go_wp2_with fail
                  go_ret2
                  exact ⟨by rw [hf.out]; rfl, _, rfl⟩
                by_cases g02 : y < 0
                · have hf : Hid (res = (0, false)) := by
                    show res = _
                    rw [← HG.out]
                    exact costGo_bad HX.out (by simp [badP] <;> omega)
                  go_wp2_with fail
                  go_quiet (fail)
                  go_wp2_with fail
                  go_ret2
                  exact ⟨by rw [hf.out]; rfl, _, rfl⟩
                by_cases g4 : (k : Int) ≤ y
                · have hf : Hid (res = (0, false)) := by
                    show res = _
                    rw [← HG.out]
                    exact costGo_bad HX.out (by simp [badP, HE2.out, g4])
                  go_wp2_with fail
                  go_quiet (fail)
                  go_wp2_with fail
                  go_ret2
                  exact ⟨by rw [hf.out]; rfl, _, rfl⟩
                obtain ⟨xN, rfl⟩ : ∃ v : Nat, x = v := ⟨x.toNat, by omega⟩
                obtain ⟨yN, rfl⟩ : ∃ v : Nat, y = v := ⟨y.toNat, by omega⟩
                obtain ⟨b1, o1, v1, rfl, hbb1, hv1, hc1⟩ := HD.out.at_ (k := xN) (by omega)
                obtain ⟨b2, o2, v2, rfl, hbb2, hv2, hc2⟩ := HA.out.at_ (k := yN) (by omega)
                obtain ⟨b3, o3, A', n', c', r, rfl, hbb3, hv3, hc3, hrow⟩ := HC.out.row (k := xN) (by omega)
                have hr1 := HP6.out r (List.mem_of_getElem? hv3)
                have hr2 := hrow.len
                have hr3 : n' = k := by have := HE2.out; omega
                subst hr3
                obtain ⟨b4, o4, v4, rfl, hbb4, hv4, hc4⟩ := hrow.at_ (k := yN) (by omega)
                have hi1 := inside_at HP4.out hv1
                have hi2 := inside_at HP5.out hv2
                have hi4 := inside_at hr1.2 hv4
                obtain ⟨hi11, hi12⟩ := hi1
                obtain ⟨hi21, hi22⟩ := hi2
                obtain ⟨hi41, hi42⟩ := hi4
                have HCG : Hid (cget cost (xN : Int) (yN : Int) = v4) := cget_of hv3 hv4
                have HDG : Hid (dget drop (xN : Int) = v1) := dget_of hv1
                have HAG : Hid (dget add (yN : Int) = v2) := dget_of hv2
                clear hv1 hv2 hv3 hv4 hr1 hr2 hrow hbb1 hbb2 hbb3 hbb4
                by_cases g5 : v4 < 0
                · have hf : Hid (res = (0, false)) := by
                    show res = _
                    rw [← HG.out]
                    exact costGo_bad HX.out (by simp [badP, HCG.out, g5])
                  go_wp2_with fail
                  go_quiet (fail)
                  go_wp2_with fail
                  go_ret2
                  exact ⟨by rw [hf.out]; rfl, _, rfl⟩
                by_cases g6 : q = 0
                · obtain ⟨rfl, rfl⟩ := hq0 g6
                  subst g6
                  simp only [Nat.zero_mul, Nat.add_zero] at hcell hcell2
                  have HG2 : Hid (costGo drop add cost (t3 + (v4 - v1 - v2)) xN yN (ps.drop (0 + 1)) = res) := by
                    show _ = _
                    rw [← HG.out, costGo_good HX.out (by simp [badP, HE1.out, HE2.out, HCG.out]; omega)]
                    show _ = costGo drop add cost (t3 + (cget cost xN yN - dget drop xN - dget add yN)) xN yN _
                    rw [HCG.out, HDG.out, HAG.out]
                  clear HG
                  go_wp2_with fail
                  go_quiet (fail)
                  go_wp2_with fail
                  go_quiet (fail)
                  go_wp2_with fail
                  go_roundw
                  case rel =>
                    exact ⟨1, t3 + (v4 - v1 - v2), xN, yN, _, by omega, by go_num, by go_num, HG2, by omega, by omega, by omega, by omega, by omega, by first | rfl | simp only [World.drewN_drewN], fun h => absurd h (by omega), fun _ => ⟨HX.out, by omega, by omega⟩⟩
                  case measure => simp [intOf]; omega
                · obtain ⟨q', rfl⟩ : ∃ q', q = q' + 1 := ⟨q - 1, by omega⟩
                  have hQ := HQ.out (by omega)
                  obtain ⟨hQ1, hQ2, hQ3⟩ := hQ
                  simp only [Nat.add_sub_cancel] at hQ1
                  obtain ⟨b', off', x', y', eA, hb', hx', hcellp, hcellp2⟩ := H4.out.at_ (k := q') (by omega)
                  rw [hQ1] at hx'
                  injection eA with eA
                  injection eA with eb eo
                  subst eb
                  subst eo
                  injection hx' with hx'
                  injection hx' with hx1 hx2
                  subst hx1
                  subst hx2
                  clear hQ1 hb' hq0 g6
                  by_cases g1 : (xN : Int) ≤ li
                  · have hf : Hid (res = (0, false)) := by
                      show res = _
                      rw [← HG.out]
                      exact costGo_bad HX.out (by simp [badP, g1])
                    go_wp2_with fail
                    go_quiet (fail)
                    go_wp2_with fail
                    go_ret2
                    exact ⟨by rw [hf.out]; rfl, _, rfl⟩
                  by_cases g2 : (yN : Int) ≤ lj
                  · have hf : Hid (res = (0, false)) := by
                      show res = _
                      rw [← HG.out]
                      exact costGo_bad HX.out (by simp [badP, g2])
                    go_wp2_with fail
                    go_quiet (fail)
                    go_wp2_with fail
                    go_ret2
                    exact ⟨by rw [hf.out]; rfl, _, rfl⟩
                  have HG2 : Hid (costGo drop add cost (t3 + (v4 - v1 - v2)) xN yN (ps.drop (q' + 1 + 1)) = res) := by
                    show _ = _
                    rw [← HG.out, costGo_good HX.out (by simp [badP, HE1.out, HE2.out, HCG.out]; omega)]
                    show _ = costGo drop add cost (t3 + (cget cost xN yN - dget drop xN - dget add yN)) xN yN _
                    rw [HCG.out, HDG.out, HAG.out]
                  clear HG
                  go_wp2_with fail
                  go_quiet (fail)
                  go_wp2_with fail
                  go_quiet (fail)
                  go_wp2_with fail
                  go_roundw
                  case rel =>
                    exact ⟨q' + 1 + 1, t3 + (v4 - v1 - v2), xN, yN, _, by omega, by go_num, by go_num, HG2, by omega, by omega, by omega, by omega, by omega, by first | rfl | simp only [World.drewN_drewN], fun h => absurd h (by omega), fun _ => ⟨HX.out, by omega, by omega⟩⟩
                  case measure => simp [intOf]; omega
              · have hf : Hid (res = (t3, true)) := by
                  show res = _
                  rw [← HG.out, List.drop_of_length_le (by rw [HL4.out]; omega)]
                  rfl
                go_wp2_with fail
                go_ret2
                exact ⟨by rw [hf.out]; rfl, _, rfl⟩
end Go.Proofs.Ytaadaekpmblpaaa
