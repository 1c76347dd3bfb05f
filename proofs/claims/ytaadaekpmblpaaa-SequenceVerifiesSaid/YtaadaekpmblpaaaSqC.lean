/-
  The cost of pairs: the program's and the reference's. No condition.
-/
import Derived.Test.YtaadaekpmblpaaaSqM
import Derived.StillTailTactics
namespace Go.Proofs.Ytaadaekpmblpaaa
open Go.RowKit
set_option linter.unusedVariables false

def pcells (p : Int × Int) : List Value := [.int .i64 p.1, .int .i64 p.2]
/-- a slice of pairs -/
abbrev Prs (w : World) (B : Nat) (A : Option Addr) (n : Nat) (ps : List (Int × Int)) : Prop := Reads w B 2 A n (ps.flatMap pcells)
theorem pcells_len (ps : List (Int × Int)) : (ps.flatMap pcells).length = ps.length * 2 := by
  induction ps with
  | nil => rfl
  | cons p ps ih => simp [pcells] at ih ⊢; omega
theorem pcells_at (ps : List (Int × Int)) : ∀ (k : Nat) (p : Int × Int), ps[k]? = some p → (ps.flatMap pcells)[k * 2]? = some (.int .i64 p.1) ∧ (ps.flatMap pcells)[k * 2 + 1]? = some (.int .i64 p.2) := by
  induction ps with
  | nil => intro k p h; simp at h
  | cons q ps ih =>
    intro k p h
    cases k with
    | zero => simp at h; subst h; simp [pcells]
    | succ k =>
      have := ih k p (by simpa using h)
      rw [show (k + 1) * 2 = k * 2 + 1 + 1 from by omega]
      simpa [pcells] using this
theorem Prs.len {w : World} {B n : Nat} {A : Option Addr} {ps : List (Int × Int)} (h : Prs w B A n ps) : ps.length = n := by
  have := h.1; rw [pcells_len] at this; omega
theorem Prs.at_ {w : World} {B n k : Nat} {A : Option Addr} {ps : List (Int × Int)} (h : Prs w B A n ps) (hk : k < n) :
    ∃ b off x y, A = some ⟨b, off, none⟩ ∧ b < B ∧ ps[k]? = some (x, y) ∧ w.cell? ⟨b, off + k * 2, none⟩ = some (.int .i64 x) ∧ w.cell? ⟨b, off + k * 2 + 1, none⟩ = some (.int .i64 y) := by
  have hl := h.len
  obtain ⟨b, off, e, hb, hc⟩ := h.head (by omega) (by omega)
  have hk' : k < ps.length := by omega
  have hp := pcells_at ps k _ (List.getElem?_eq_getElem hk')
  exact ⟨b, off, ps[k].1, ps[k].2, e, hb, List.getElem?_eq_getElem hk', hc _ _ hp.1, by have := hc _ _ hp.2; rwa [← Nat.add_assoc] at this⟩

theorem sum_take {l : List Int} {j : Nat} {x : Int} (h : l[j]? = some x) : (l.take (j + 1)).sum = (l.take j).sum + x := by
  rw [List.take_add_one, h, List.sum_append]
  simp
theorem inside_mem {lo hi : Int} {l : List Int} (h : inside lo hi l = true) {x : Int} (hx : x ∈ l) : lo ≤ x ∧ x ≤ hi := by
  have := List.all_eq_true.1 h x hx
  simpa using this
theorem inside_at {lo hi : Int} {l : List Int} (h : inside lo hi l = true) {j : Nat} {x : Int} (hx : l[j]? = some x) : lo ≤ x ∧ x ≤ hi := inside_mem h (List.mem_of_getElem? hx)

def dget (l : List Int) (i : Int) : Int := l.getD i.toNat 0
def cget (cost : List (List Int)) (i j : Int) : Int := (cost.getD i.toNat []).getD j.toNat 0
theorem dget_of {l : List Int} {k : Nat} {x : Int} (h : l[k]? = some x) : dget l (k : Int) = x := by simp [dget, h]
theorem cget_of {c : List (List Int)} {i j : Nat} {r : List Int} {x : Int} (h : c[i]? = some r) (h2 : r[j]? = some x) : cget c (i : Int) (j : Int) = x := by simp [cget, h, h2]
def badP (m n : Int) (cost : List (List Int)) (li lj : Int) (p : Int × Int) : Bool := decide (p.1 ≤ li) || decide (p.2 ≤ lj) || decide (m ≤ p.1) || decide (n ≤ p.2) || decide (cget cost p.1 p.2 < 0)
def costGo (drop add : List Int) (cost : List (List Int)) : Int → Int → Int → List (Int × Int) → Int × Bool
  | acc, _, _, [] => (acc, true)
  | acc, li, lj, p :: ps => if badP drop.length add.length cost li lj p then (0, false) else costGo drop add cost (acc + (cget cost p.1 p.2 - dget drop p.1 - dget add p.2)) p.1 p.2 ps
def costL (drop add : List Int) (cost : List (List Int)) (ps : List (Int × Int)) : Int × Bool :=
  if properL drop add cost then costGo drop add cost (drop.sum + add.sum) (-1) (-1) ps else (0, false)
theorem costGo_bad {drop add : List Int} {cost : List (List Int)} {acc li lj : Int} {ps : List (Int × Int)} {k : Nat} {p : Int × Int} (h : ps[k]? = some p) (hb : badP drop.length add.length cost li lj p = true) :
    costGo drop add cost acc li lj (ps.drop k) = (0, false) := by
  have hk : k < ps.length := (List.getElem?_eq_some_iff.1 h).1
  rw [List.drop_eq_getElem_cons hk]
  have : ps[k] = p := by rw [List.getElem?_eq_getElem hk] at h; injection h
  rw [this, costGo, if_pos hb]
theorem costGo_good {drop add : List Int} {cost : List (List Int)} {acc li lj : Int} {ps : List (Int × Int)} {k : Nat} {p : Int × Int} (h : ps[k]? = some p) (hb : badP drop.length add.length cost li lj p = false) :
    costGo drop add cost acc li lj (ps.drop k) = costGo drop add cost (acc + (cget cost p.1 p.2 - dget drop p.1 - dget add p.2)) p.1 p.2 (ps.drop (k + 1)) := by
  have hk : k < ps.length := (List.getElem?_eq_some_iff.1 h).1
  rw [List.drop_eq_getElem_cons hk]
  have : ps[k] = p := by rw [List.getElem?_eq_getElem hk] at h; injection h
  rw [this, costGo, if_neg (by simp [hb])]

theorem proper_parts {drop add : List Int} {cost : List (List Int)} (h : properL drop add cost = true) : drop.length ≤ 400 ∧ add.length ≤ 400 ∧ cost.length = drop.length ∧ inside 0 1048576 drop = true ∧ inside 0 1048576 add = true ∧ ∀ r ∈ cost, r.length = add.length ∧ inside (-1) 1048576 r = true := by
  unfold properL at h
  simp only [Bool.and_eq_true, decide_eq_true_eq, List.all_eq_true] at h
  obtain ⟨⟨⟨⟨⟨h1, h2⟩, h3⟩, h4⟩, h5⟩, h6⟩ := h
  exact ⟨h1, h2, h3, h4, h5, h6⟩

/-- what Cost returns: new memory perhaps -/
def CostPost (w : World) (x : Int × Bool) (e : Ending) (w' : World) : Prop := e = .returned (.tuple #[.int .i64 x.1, .bool x.2]) ∧ Below w.heap.size w w'

theorem costStep {w wr w2 : World} {li lj x y : Int} (HB : Blk wr w.heap.size 45 #[.int .i64 li, .int .i64 lj]) (HBe : Below w.heap.size w wr) (hsz : w.heap.size < wr.heap.size) (hw2 : wr.alloc (Obj.cells #[.int .i64 x, .int .i64 y] 45) = w2) :
    w2.cell? ⟨w.heap.size, 0, none⟩ = some (.int .i64 li) ∧ w2.cell? ⟨w.heap.size, 1, none⟩ = some (.int .i64 lj) ∧ w2.cell? ⟨wr.heap.size, 0, none⟩ = some (.int .i64 x) ∧ w2.cell? ⟨wr.heap.size, 1, none⟩ = some (.int .i64 y) ∧
    w2.frozen? ⟨w.heap.size, 0, none⟩ = false ∧ w2.frozen? ⟨w.heap.size, 1, none⟩ = false ∧ Hid (Blk w2 w.heap.size 45 #[.int .i64 li, .int .i64 lj]) ∧ Hid (Below w.heap.size w w2) ∧ w.heap.size < w2.heap.size := by
  subst hw2
  have h1 := HB.alloc (Obj.cells #[.int .i64 x, .int .i64 y] 45)
  have h2 := Blk.new wr 45 #[.int .i64 x, .int .i64 y]
  refine ⟨by rw [h1.cell]; rfl, by rw [h1.cell]; rfl, by rw [h2.cell]; rfl, by rw [h2.cell]; rfl, h1.frozen _, h1.frozen _, h1, HBe.alloc (Nat.le_of_lt hsz) _, ?_⟩
  simp; omega

set_option maxRecDepth 100000 in
set_option maxHeartbeats 4000000 in
theorem cost_any (A1 : Option Addr) (n1 c1 : Nat) (A2 : Option Addr) (n2 c2 : Nat) (A3 : Option Addr) (n3 c3 : Nat) (A4 : Option Addr) (n4 c4 : Nat) (drop add : List Int) (cost : List (List Int)) (ps : List (Int × Int)) (w : World)
    (h : Three w w.heap.size A1 n1 A2 n2 A3 n3 drop add cost) (h4 : Prs w w.heap.size A4 n4 ps) (hn4 : n4 ≤ 1000000000) :
    Calls Try.prog 17 #[.slice A1 n1 c1, .slice A2 n2 c2, .slice A3 n3 c3, .slice A4 n4 c4] w (CostPost w (costL drop add cost ps)) := by
  have HP := Lib.hid (proper_any A1 n1 c1 A2 n2 c2 A3 n3 c3 _ drop add cost w h)
  obtain ⟨res, hres⟩ : ∃ b, costL drop add cost ps = b := ⟨_, rfl⟩
  rw [hres]
  cases hp : properL drop add cost with
  | false =>
    rw [hp] at HP
    unfold costL at hres
    rw [hp] at hres
    obtain rfl : (0, false) = res := by simpa using hres
    have HR : Hid (CostPost w (0, false) (.returned (.tuple #[.int .i64 0, .bool false])) w) := ⟨rfl, Below.refl _ _⟩
    clear hp hres h h4
    go_enter Try.func17, Try.ntmps17
    go_wp2_with fail
    refine (HP.out).mono ?_
    rintro e w1 ⟨rfl, rfl⟩
    go_wp2_with fail
    go_ret2
    exact HR.out
  | true =>
    rw [hp] at HP
    unfold costL at hres
    rw [hp, if_pos rfl] at hres
    obtain ⟨p1, p2, p3, p4, p5, p6⟩ := proper_parts hp
    have e1 := h.d.len
    have e2 := h.a.len
    have e3 := h.c.len
    have HD := Lib.hid h.d
    have HA := Lib.hid h.a
    have HC := Lib.hid h.c
    have H4 := Lib.hid h4
    have HP4 := Lib.hid p4
    have HP5 := Lib.hid p5
    have HP6 := Lib.hid p6
    have HE := Lib.hid hres
    rw [e1] at p1
    rw [e2] at p2
    have hn3 : n3 = n1 := by omega
    subst hn3
    have HE1 := Lib.hid e1
    have HE2 := Lib.hid e2
    have HL4 := Lib.hid h4.len
    clear hp hres h h4 e1 e2 e3 p3 p4 p5 p6
    go_enter Try.func17, Try.ntmps17
    go_wp2_with fail
    refine (HP.out).mono ?_
    rintro e w1 ⟨rfl, rfl⟩
    go_wp2_with fail
    go_loop [10, 27] (fun s i => ∃ (j : Nat) (t : Int), j ≤ n3 ∧ i = .int .i64 (j : Int) ∧ s = .int .i64 t ∧ Hid (t = (drop.take j).sum) ∧ 0 ≤ t ∧ t ≤ j * 1048576) (fun _ i => n3 - (intOf i).toNat)
    case atStart => exact ⟨0, 0, by omega, rfl, rfl, by show _ = (drop.take 0).sum; simp, by omega, by omega⟩
    case round =>
      obtain ⟨j, t, hj, rfl, rfl, HT, ht1, ht2⟩ := hrel
      by_cases hlt : j < n3
      · obtain ⟨b, off, x, rfl, hb, hx, hcell⟩ := HD.out.at_ hlt
        have hxi := inside_at HP4.out hx
        have HX := Lib.hid hx
        clear hx hb
        obtain ⟨hx1, hx2⟩ := hxi
        go_wp2_with fail
        go_round
        case rel => exact ⟨j + 1, t + x, by omega, by go_num, by go_num, by show _ = _; rw [sum_take HX.out, ← HT.out], by omega, by omega⟩
        case measure => simp [intOf]; omega
      · obtain rfl : j = n3 := by omega
        have HT2 : Hid (t = drop.sum) := by show _ = _; rw [HT.out, List.take_of_length_le (by rw [HE1.out]; omega)]
        clear HT hj hlt
        go_wp2_with fail
        go_loop [10, 37] (fun s i => ∃ (k : Nat) (t2 : Int), k ≤ n2 ∧ i = .int .i64 (k : Int) ∧ s = .int .i64 t2 ∧ Hid (t2 = t + (add.take k).sum) ∧ 0 ≤ t2 ∧ t2 ≤ (j : Int) * 1048576 + k * 1048576) (fun _ i => n2 - (intOf i).toNat)
        case atStart => exact ⟨0, t, by omega, rfl, rfl, by show _ = _; simp, by omega, by omega⟩
        case round =>
          obtain ⟨k, t2, hk, rfl, rfl, HT, hk1, hk2⟩ := hrel
          by_cases hlt : k < n2
          · obtain ⟨b, off, x, rfl, hb, hx, hcell⟩ := HA.out.at_ hlt
            have hxi := inside_at HP5.out hx
            have HX := Lib.hid hx
            clear hx hb
            obtain ⟨hx1, hx2⟩ := hxi
            go_wp2_with fail
            go_round
            case rel => exact ⟨k + 1, t2 + x, by omega, by go_num, by go_num, by show _ = _; rw [sum_take HX.out, HT.out]; omega, by omega, by omega⟩
            case measure => simp [intOf]; omega
          · obtain rfl : k = n2 := by omega
            have HS : Hid (t2 = drop.sum + add.sum) := by show _ = _; rw [HT.out, HT2.out, List.take_of_length_le (by rw [HE2.out]; omega)]
            have ht3 : t2 ≤ 838860800 := by omega
            have HEE : Hid (costGo drop add cost t2 (-1) (-1) ps = res) := by show _ = _; rw [HS.out]; exact HE.out
            clear HT hk hlt HS HE HT2 hk2 ht2 ht1
            go_wp2_with fail
            go_loopw [10, 48] (fun s i wr => ∃ (q : Nat) (t3 li lj : Int), q ≤ n4 ∧ i = .int .i64 (q : Int) ∧ s = .int .i64 t3 ∧ Hid (costGo drop add cost t3 li lj (ps.drop q) = res) ∧ -1 ≤ li ∧ -1 ≤ lj ∧ li < j ∧ -4194304 * (li + 1) ≤ t3 ∧ t3 ≤ 838860800 + 4194304 * (li + 1) ∧ Hid (Blk wr w.heap.size 45 #[.int .i64 li, .int .i64 lj]) ∧ Hid (Below w.heap.size w wr) ∧ w.heap.size < wr.heap.size) (fun _ i _ => n4 - (intOf i).toNat)
            case atStart =>
              exact ⟨0, t2, -1, -1, by omega, rfl, rfl, HEE, by omega, by omega, by omega, by omega, by omega, Blk.new _ _ _, (Below.refl _ w).alloc (Nat.le_refl _) _, by simp⟩
            case round =>
              obtain ⟨q, t3, li, lj, hq, rfl, rfl, HG, hli, hlj, hlj2, hb1, hb2, HB, HBe, hsz⟩ := hrel
              by_cases hlt : q < n4
              · obtain ⟨b, off, x, y, rfl, hb, hx, hcell, hcell2⟩ := H4.out.at_ hlt
                have HX := Lib.hid hx
                have k1 := HBe.out.cell (p := ⟨b, off + q * 2, none⟩) hb
                have k2 := HBe.out.cell (p := ⟨b, off + q * 2 + 1, none⟩) hb
                rw [hcell] at k1
                rw [hcell2] at k2
                clear hx hcell hcell2
                by_cases g1 : x ≤ li
                · have hf : Hid (res = (0, false)) := by
                    show res = _
                    rw [← HG.out]
                    exact costGo_bad HX.out (by simp [badP, g1])
                  go_wp2_with fail
                  generalize hw2 : wr.alloc (Obj.cells #[Value.int IntKind.i64 x, Value.int IntKind.i64 y] 45) = w2
                  obtain ⟨a0, a1, d0, d1, m1, m2, HB2, HBe2, hsz2⟩ := costStep HB.out HBe.out hsz hw2
                  clear hw2
                  go_quiet (fail)
                  go_wp2_with fail
                  go_ret2
                  exact ⟨by rw [hf.out]; rfl, below_drewN HBe2.out _⟩
                by_cases g2 : y ≤ lj
                · have hf : Hid (res = (0, false)) := by
                    show res = _
                    rw [← HG.out]
                    exact costGo_bad HX.out (by simp [badP, g2])
                  go_wp2_with fail
                  generalize hw2 : wr.alloc (Obj.cells #[Value.int IntKind.i64 x, Value.int IntKind.i64 y] 45) = w2
                  obtain ⟨a0, a1, d0, d1, m1, m2, HB2, HBe2, hsz2⟩ := costStep HB.out HBe.out hsz hw2
                  clear hw2
                  go_quiet (fail)
                  go_wp2_with fail
                  go_ret2
                  exact ⟨by rw [hf.out]; rfl, below_drewN HBe2.out _⟩
                by_cases g3 : (j : Int) ≤ x
                · have hf : Hid (res = (0, false)) := by
                    show res = _
                    rw [← HG.out]
                    exact costGo_bad HX.out (by simp [badP, HE1.out, g3])
                  go_wp2_with fail
                  generalize hw2 : wr.alloc (Obj.cells #[Value.int IntKind.i64 x, Value.int IntKind.i64 y] 45) = w2
                  obtain ⟨a0, a1, d0, d1, m1, m2, HB2, HBe2, hsz2⟩ := costStep HB.out HBe.out hsz hw2
                  clear hw2
                  go_quiet (fail)
                  go_wp2_with fail
                  go_ret2
                  exact ⟨by rw [hf.out]; rfl, below_drewN HBe2.out _⟩
                by_cases g4 : (k : Int) ≤ y
                · have hf : Hid (res = (0, false)) := by
                    show res = _
                    rw [← HG.out]
                    exact costGo_bad HX.out (by simp [badP, HE2.out, g4])
                  go_wp2_with fail
                  generalize hw2 : wr.alloc (Obj.cells #[Value.int IntKind.i64 x, Value.int IntKind.i64 y] 45) = w2
                  obtain ⟨a0, a1, d0, d1, m1, m2, HB2, HBe2, hsz2⟩ := costStep HB.out HBe.out hsz hw2
                  clear hw2
                  go_quiet (fail)
                  go_wp2_with fail
                  go_ret2
                  exact ⟨by rw [hf.out]; rfl, below_drewN HBe2.out _⟩
                obtain ⟨xN, rfl⟩ : ∃ v : Nat, x = v := ⟨x.toNat, by omega⟩
                obtain ⟨yN, rfl⟩ : ∃ v : Nat, y = v := ⟨y.toNat, by omega⟩
                obtain ⟨b1, o1, v1, rfl, hbb1, hv1, hc1⟩ := HD.out.at_ (k := xN) (by omega)
                obtain ⟨b2, o2, v2, rfl, hbb2, hv2, hc2⟩ := HA.out.at_ (k := yN) (by omega)
                obtain ⟨b3, o3, A', n', c', r, rfl, hbb3, hv3, hc3, hrow⟩ := HC.out.row (k := xN) (by omega)
                have hr1 := HP6.out r (List.mem_of_getElem? hv3)
                have hr2 := hrow.len
                have hr3 : n' = k := by have := HE2.out; omega
                subst hr3
                obtain ⟨b4, o4, v4, rfl, hbb4, hv4, hc4⟩ := hrow.at_ (k := yN) (by omega)
                have hi1 := inside_at HP4.out hv1
                have hi2 := inside_at HP5.out hv2
                have hi4 := inside_at hr1.2 hv4
                obtain ⟨hi11, hi12⟩ := hi1
                obtain ⟨hi21, hi22⟩ := hi2
                obtain ⟨hi41, hi42⟩ := hi4
                have HCG : Hid (cget cost (xN : Int) (yN : Int) = v4) := cget_of hv3 hv4
                have HDG : Hid (dget drop (xN : Int) = v1) := dget_of hv1
                have HAG : Hid (dget add (yN : Int) = v2) := dget_of hv2
                have K1 := HBe.out.cell (p := ⟨b1, o1 + xN, none⟩) hbb1
                have K2 := HBe.out.cell (p := ⟨b2, o2 + yN, none⟩) hbb2
                have K3 := HBe.out.cell (p := ⟨b3, o3 + xN, none⟩) hbb3
                have K4 := HBe.out.cell (p := ⟨b4, o4 + yN, none⟩) hbb4
                rw [hc1] at K1
                rw [hc2] at K2
                rw [hc3] at K3
                rw [hc4] at K4
                clear hv1 hv2 hv3 hv4 hr1 hr2 hrow hc1 hc2 hc3 hc4
                by_cases g5 : v4 < 0
                · have hf : Hid (res = (0, false)) := by
                    show res = _
                    rw [← HG.out]
                    exact costGo_bad HX.out (by simp [badP, HCG.out, g5])
                  go_wp2_with fail
                  generalize hw2 : wr.alloc (Obj.cells #[Value.int IntKind.i64 (xN : Int), Value.int IntKind.i64 (yN : Int)] 45) = w2
                  obtain ⟨a0, a1, d0, d1, m1, m2, HB2, HBe2, hsz2⟩ := costStep HB.out HBe.out hsz hw2
                  have K1' := HBe2.out.cell (p := ⟨b1, o1 + xN, none⟩) hbb1
                  have K2' := HBe2.out.cell (p := ⟨b2, o2 + yN, none⟩) hbb2
                  have K3' := HBe2.out.cell (p := ⟨b3, o3 + xN, none⟩) hbb3
                  have K4' := HBe2.out.cell (p := ⟨b4, o4 + yN, none⟩) hbb4
                  rw [← HBe.out.cell (p := ⟨b1, o1 + xN, none⟩) hbb1, K1] at K1'
                  rw [← HBe.out.cell (p := ⟨b2, o2 + yN, none⟩) hbb2, K2] at K2'
                  rw [← HBe.out.cell (p := ⟨b3, o3 + xN, none⟩) hbb3, K3] at K3'
                  rw [← HBe.out.cell (p := ⟨b4, o4 + yN, none⟩) hbb4, K4] at K4'
                  clear hw2 K1 K2 K3 K4 k1 k2
                  go_quiet (fail)
                  go_wp2_with fail
                  go_ret2
                  exact ⟨by rw [hf.out]; rfl, below_drewN HBe2.out _⟩
                have HG2 : Hid (costGo drop add cost (t3 + (v4 - v1 - v2)) xN yN (ps.drop (q + 1)) = res) := by
                  show _ = _
                  rw [← HG.out, costGo_good HX.out (by simp [badP, HE1.out, HE2.out, HCG.out]; omega)]
                  show _ = costGo drop add cost (t3 + (cget cost xN yN - dget drop xN - dget add yN)) xN yN _
                  rw [HCG.out, HDG.out, HAG.out]
                clear HG
                go_wp2_with fail
                generalize hw2 : wr.alloc (Obj.cells #[Value.int IntKind.i64 (xN : Int), Value.int IntKind.i64 (yN : Int)] 45) = w2
                obtain ⟨a0, a1, d0, d1, m1, m2, HB2, HBe2, hsz2⟩ := costStep HB.out HBe.out hsz hw2
                have K1' := HBe2.out.cell (p := ⟨b1, o1 + xN, none⟩) hbb1
                have K2' := HBe2.out.cell (p := ⟨b2, o2 + yN, none⟩) hbb2
                have K3' := HBe2.out.cell (p := ⟨b3, o3 + xN, none⟩) hbb3
                have K4' := HBe2.out.cell (p := ⟨b4, o4 + yN, none⟩) hbb4
                rw [← HBe.out.cell (p := ⟨b1, o1 + xN, none⟩) hbb1, K1] at K1'
                rw [← HBe.out.cell (p := ⟨b2, o2 + yN, none⟩) hbb2, K2] at K2'
                rw [← HBe.out.cell (p := ⟨b3, o3 + xN, none⟩) hbb3, K3] at K3'
                rw [← HBe.out.cell (p := ⟨b4, o4 + yN, none⟩) hbb4, K4] at K4'
                clear hw2 K1 K2 K3 K4 k1 k2
                go_quiet (fail)
                go_wp2_with fail
                go_quiet (fail)
                go_wp2_with fail
                go_roundw
                case rel =>
                  refine ⟨q + 1, t3 + (v4 - v1 - v2), xN, yN, by omega, by go_num, by go_num, HG2, by omega, by omega, by omega, by omega, by omega, ?_, ?_, ?_⟩
                  · exact ((HB2.out.drewN _).set_ 0 _).set_ 1 _
                  · exact ((below_drewN HBe2.out _).setCell (Nat.le_refl _) _).setCell (Nat.le_refl _) _
                  · simpa [World.setCell] using hsz2
                case measure => simp [intOf]; omega
              · have hf : Hid (res = (t3, true)) := by
                  show res = _
                  rw [← HG.out, List.drop_of_length_le (by rw [HL4.out]; omega)]
                  rfl
                go_wp2_with fail
                go_ret2
                exact ⟨by rw [hf.out]; rfl, HBe.out⟩
end Go.Proofs.Ytaadaekpmblpaaa
