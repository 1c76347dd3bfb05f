/-
  The reference's Align. No condition.
-/
import Derived.Test.YtaadaekpmblpaaaSqG
import Derived.Deep.RegionLaw
namespace Go.Proofs.Ytaadaekpmblpaaa
open Go.RowKit
set_option linter.unusedVariables false

set_option maxRecDepth 100000 in
set_option maxHeartbeats 400000 in
theorem refAlign_no (A1 : Option Addr) (n1 c1 : Nat) (A2 : Option Addr) (n2 c2 : Nat) (A3 : Option Addr) (n3 c3 : Nat) (drop add : List Int) (cost : List (List Int)) (w : World)
    (h : Three w w.heap.size A1 n1 A2 n2 A3 n3 drop add cost) (hp : properL drop add cost = false) :
    Calls Try.prog 12 #[.slice A1 n1 c1, .slice A2 n2 c2, .slice A3 n3 c3] w (AlNo w) := by
  have HP := Lib.hid (fun o => refProper_any A1 n1 c1 A2 n2 c2 A3 n3 c3 _ drop add cost _ (h.alloc o))
  rw [hp] at HP
  have HB : Hid (∀ o, Below w.heap.size w (w.alloc o)) := fun o => (Below.refl _ w).alloc (Nat.le_refl _) _
  clear h hp
  go_enter Try.func12, Try.ntmps12
  go_wp2_with fail
  refine (HP.out _).mono ?_
  rintro e w1 ⟨rfl, rfl⟩
  go_wp2_with fail
  exact bodyPost_ret (v := .tuple #[.agg #[.slice none 0 0, .int .i64 0, .slice none 0 0], .int .i64 5]) (by simp [results, Try.results12, go_sem]) rfl ⟨rfl, HB.out _⟩

theorem PotSt.made {w wr : World} {m n : Nat} {p : Nat → Nat → Int} {bs : List Nat} (h : PotSt w wr m n (fillF p m 0) m bs) : Made wr w.heap.size m n bs p :=
  h.1.congr fun k l hk hl => fill_old p (by rw [h.2.1] at hk; omega)
/-- the pairs, put in order one by one: block gx holds the alignment -/
def OrdSt (w2 wr : World) (gx : Nat) (c : Int) (pot : Value) (ps : List (Int × Int)) (t : Nat) : Prop :=
  Below gx w2 wr ∧ w2.heap.size = gx ∧ gx < wr.heap.size ∧ ∃ v, Blk wr gx 28 #[v, .int .i64 c, pot] ∧ wr.ownsRow (gx + 1) 45 2 v t ((ps.reverse.take t).flatMap pcells) ∧ t ≤ ps.length
theorem OrdSt.start {w2 : World} {c : Int} {pot : Value} {ps : List (Int × Int)} : OrdSt w2 (w2.alloc (.cells #[.slice none 0 0, .int .i64 c, pot] 28)) w2.heap.size c pot ps 0 :=
  ⟨(Below.refl _ _).alloc (Nat.le_refl _) _, rfl, by simp, _, Blk.new _ _ _, ⟨by simp, .inl ⟨rfl, rfl⟩⟩, Nat.zero_le _⟩
theorem own_ge {w : World} {base e size n : Nat} {v : Value} {xs : List Value} (h : w.ownsRow base e size v n xs) : ∀ g, v.ownBlock = some g → base ≤ g := fun g hg => by
  rcases h.2 with ⟨rfl, _⟩ | ⟨g', cap, cur, rfl, hb, _⟩
  · simp [Value.ownBlock] at hg
  · have : g' = g := by simpa [Value.ownBlock] using hg
    omega
theorem OrdSt.push {w2 wr w3 : World} {gx : Nat} {c : Int} {pot v v' : Value} {ps : List (Int × Int)} {t : Nat} {x y : Int} {o : Obj} (h : OrdSt w2 wr gx c pot ps t) (hb : Blk wr gx 28 #[v, .int .i64 c, pot]) (hg0 : ∀ g, v.ownBlock = some g → gx + 1 ≤ g)
    (hx : ps.reverse[t]? = some (x, y)) (h5 : w3.ownsRow (gx + 1) 45 2 v' (t + 1) ((ps.reverse.take t).flatMap pcells ++ [.int .i64 x, .int .i64 y])) (h6 : Grows (wr.drew.alloc o) w3 v v') :
    OrdSt w2 (w3.setCell ⟨gx, 0, none⟩ v') gx c pot ps (t + 1) := by
  obtain ⟨h1, h2, h3, -⟩ := h
  have hl : t < ps.length := by have := (List.getElem?_eq_some_iff.1 hx).1; simpa using this
  have hb3 : Blk w3 gx 28 #[v, .int .i64 c, pot] := h6.blk ((hb.drew).alloc o) (fun e => by have := hg0 _ e; omega)
  have hB : Below gx w2 w3 := ((below_drewN h1 1).alloc (by show gx ≤ wr.heap.size; omega) o).trans (h6.below (by simp; omega) (fun g hg => by have := hg0 g hg; omega))
  have hs := h6.size
  refine ⟨hB.setCell (p := ⟨gx, 0, none⟩) (Nat.le_refl _) _, h2, by simp [World.setCell]; simp at hs; omega, v', hb3.set_ 0 v', ?_, hl⟩
  have e : (ps.reverse.take (t + 1)).flatMap pcells = (ps.reverse.take t).flatMap pcells ++ [.int .i64 x, .int .i64 y] := by
    rw [List.take_add_one, hx, List.flatMap_append]; rfl
  rw [e]
  rcases h5.2 with ⟨_, h0⟩ | ⟨g, cap, cur, rfl, hb', hh, rest⟩
  · omega
  · exact ⟨h5.1, .inr ⟨g, cap, cur, rfl, hb', (Below.heap_setCell w3 ⟨gx, 0, none⟩ _ g (by show g ≠ gx; omega)).trans hh, rest⟩⟩

set_option maxRecDepth 100000 in
set_option maxHeartbeats 16000000 in
theorem refAlign_yes (A1 : Option Addr) (n1 c1 : Nat) (A2 : Option Addr) (n2 c2 : Nat) (A3 : Option Addr) (n3 c3 : Nat) (drop add : List Int) (cost : List (List Int)) (w : World)
    (h : Three w w.heap.size A1 n1 A2 n2 A3 n3 drop add cost) (hp : properL drop add cost = true) :
    Calls Try.prog 12 #[.slice A1 n1 c1, .slice A2 n2 c2, .slice A3 n3 c3] w (AlPost w drop add cost) := by
  obtain ⟨o, ho⟩ : ∃ o, o = Obj.cells #[.slice none 0 0, .int .i64 0, .slice none 0 0] 28 := ⟨_, rfl⟩
  have HP := Lib.hid (refProper_any A1 n1 c1 A2 n2 c2 A3 n3 c3 _ drop add cost _ (h.alloc o))
  have HK : Hid (Blk (w.alloc o) w.heap.size 28 #[.slice none 0 0, .int .i64 0, .slice none 0 0]) := by subst ho; exact Blk.new _ _ _
  have HT := Lib.hid (h.alloc o)
  rw [hp] at HP
  obtain ⟨wa, hwa⟩ : ∃ wa, wa = w.alloc o := ⟨_, rfl⟩
  have hsa : w.heap.size < wa.heap.size := by rw [hwa]; simp
  rw [← hwa] at HP HK HT
  have HW := Lib.hid hwa
  have HO := Lib.hid ho
  obtain ⟨p1, p2, p3, p4, p5, p6⟩ := proper_parts hp
  have e1 := h.d.len
  have e2 := h.a.len
  have e3 := h.c.len
  rw [e1] at p1
  rw [e2] at p2
  have hn3 : n3 = n1 := by omega
  subst hn3
  have HB := Lib.hid (potF_bounds p4 p5 (proper_le hp))
  have HP4 := Lib.hid p4
  have HP5 := Lib.hid p5
  have HP6 := Lib.hid p6
  have HE1 := Lib.hid e1
  have HE2 := Lib.hid e2
  obtain ⟨i0, hi, hz0, hz1, hz2⟩ := info_parts pair_info
  have HI := Lib.hid hi
  have HZ0 := Lib.hid hz0
  have HZ1 := Lib.hid hz1
  have HZ2 := Lib.hid hz2
  have mk1 := make_rows (n3 + 1) (by omega)
  have mk2 := make_row (n2 + 1) (by omega)
  rw [show ((n3 + 1 : Nat) : Int) = (n3 : Int) + 1 by omega] at mk1
  rw [show ((n2 + 1 : Nat) : Int) = (n2 : Int) + 1 by omega] at mk2
  obtain ⟨p, hpp⟩ : ∃ p, p = potF drop add cost := ⟨_, rfl⟩
  have HPP := Lib.hid hpp
  rw [← hpp] at HB
  clear h hp ho hwa p3 p4 p5 p6 e1 e2 e3 hi hz0 hz1 hz2 hpp
  go_enter Try.func12, Try.ntmps12
  go_wp2_with fail
  rw [← HO.out, ← HW.out]
  refine (HP.out).mono ?_
  rintro e w1 ⟨rfl, rfl⟩
  go_wp2_with fail
  go_loopw [11] (fun s wr => ∃ (k : Nat) (bs : List Nat), k ≤ n3 + 1 ∧ s = .int .i64 (k : Int) ∧ Hid (PotSt wa wr (n3 + 1) (n2 + 1) (fillF p k 0) k bs)) (fun s _ => n3 + 1 - (intOf s).toNat)
  case atStart => exact ⟨0, [], by omega, rfl, PotSt.start wa _ _ p⟩
  case round =>
    obtain ⟨i, bs, hi, rfl, HS⟩ := hrel
    by_cases hlt : i < n3 + 1
    · obtain ⟨⟨u0, hu0⟩, hfr⟩ := HS.out.empty hlt
      have hsz := HS.out.lt
      have hlt' : i ≤ n3 := by omega
      go_wp2_with fail
      go_loopw [12] (fun s wr => ∃ (j : Nat) (bs : List Nat), j ≤ n2 + 1 ∧ s = .int .i64 (j : Int) ∧ Hid (PotSt wa wr (n3 + 1) (n2 + 1) (fillF p i j) (i + 1) bs)) (fun s _ => n2 + 1 - (intOf s).toNat)
      case atStart => exact ⟨0, _, by omega, rfl, HS.out.push hlt⟩
      case round =>
        clear HS hu0 hfr hsz
        obtain ⟨wo, rfl⟩ : ∃ wo : World, wo = wr := ⟨_, rfl⟩
        obtain ⟨j, bs', hj, rfl, HS⟩ := hrel
        have hsz := HS.out.lt
        by_cases hjt : j < n2 + 1
        · as_aux_lemma =>
            have hjt' : j ≤ n2 := by omega
            obtain ⟨bz, rz, dz, kz⟩ := HS.out.cell (k := i) (j := j) (by omega) hjt
            have fz := HS.out.frozen kz j
            have HS2 := Lib.hid (fun d x hx => (HS.out.drewN d).set_ kz hjt (x := x) hx)
            rcases Nat.eq_zero_or_pos i with h0 | h0
            · subst h0
              rcases Nat.eq_zero_or_pos j with h1 | h1
              · subst h1
                have HS3 := Lib.hid (fun d => HS2.out d 0 (by rw [HPP.out, potF]))
                clear HS HS2 kz
                go_wp2_with fail
                go_quiet (fail)
                go_wp2_with fail
                go_roundw
                case rel => exact ⟨0 + 1, _, by omega, by go_num, HS3.out _⟩
                case measure => simp [intOf] <;> omega
              · obtain ⟨j', rfl⟩ : ∃ j', j = j' + 1 := ⟨j - 1, by omega⟩
                obtain ⟨b0, r0, c0, k0⟩ := HS.out.cell (k := 0) (j := j') (by omega) (by omega)
                rw [fill_old p (by omega)] at c0
                obtain rfl : b0 = bz := by rw [k0] at kz; injection kz
                obtain ⟨ba, oa, xa, rfl, hba, hxa, hca⟩ := Ints.at_ (k := j') (HT.out.a.below HS.out.2.2) (by omega)
                obtain ⟨bx1, bx2⟩ := inside_at HP5.out hxa
                have bp := HB.out 0 j' (by omega) (by have := HE2.out; omega)
                obtain ⟨y, hy⟩ : ∃ y, p 0 j' = y := ⟨_, rfl⟩
                have HS3 := Lib.hid (fun d x (hx : x = y + xa) => HS2.out d x (by rw [hx, ← hy, HPP.out, potF.eq_2, getD_of hxa]))
                rw [hy] at c0 bp
                obtain ⟨bp1, bp2⟩ := bp
                have bp3 : y ≤ 1000000000 := by omega
                clear HS HS2 hy hxa k0 kz rz bp2 h1
                go_wp2_with fail
                go_quiet (fail)
                go_wp2_with fail
                go_quiet (fail)
                go_wp2_with fail
                go_roundw
                case rel => exact ⟨j' + 1 + 1, _, by omega, by go_num, HS3.out _ _ (by (repeat' split) <;> omega)⟩
                case measure => simp [intOf] <;> omega
            · obtain ⟨i', rfl⟩ : ∃ i', i = i' + 1 := ⟨i - 1, by omega⟩
              obtain ⟨bd, od, xd, rfl, hbd, hxd, hcd⟩ := Ints.at_ (k := i') (HT.out.d.below HS.out.2.2) (by omega)
              obtain ⟨bd1, bd2⟩ := inside_at HP4.out hxd
              rcases Nat.eq_zero_or_pos j with h1 | h1
              · subst h1
                obtain ⟨b0, r0, c0, k0⟩ := HS.out.cell (k := i') (j := 0) (by omega) (by omega)
                rw [fill_old p (by omega)] at c0
                have bp := HB.out i' 0 (by have := HE1.out; omega) (by omega)
                obtain ⟨y, hy⟩ : ∃ y, p i' 0 = y := ⟨_, rfl⟩
                have HS3 := Lib.hid (fun d x (hx : x = y + xd) => HS2.out d x (by rw [hx, ← hy, HPP.out, potF.eq_3, getD_of hxd]))
                rw [hy] at c0 bp
                obtain ⟨bp1, bp2⟩ := bp
                have bp3 : y ≤ 1000000000 := by omega
                clear HS HS2 hy hxd k0 kz bp2 h0
                go_wp2_with fail
                go_quiet (fail)
                go_wp2_with fail
                go_quiet (fail)
                go_wp2_with fail
                go_roundw
                case rel => exact ⟨0 + 1, _, by omega, by go_num, HS3.out _ _ (by (repeat' split) <;> omega)⟩
                case measure => simp [intOf] <;> omega
              · obtain ⟨j', rfl⟩ : ∃ j', j = j' + 1 := ⟨j - 1, by omega⟩
                obtain ⟨ba, oa, xa, rfl, hba, hxa, hca⟩ := Ints.at_ (k := j') (HT.out.a.below HS.out.2.2) (by omega)
                obtain ⟨ba1, ba2⟩ := inside_at HP5.out hxa
                obtain ⟨bc, oc, Ac, nc, cc, rc, hAc, hbc, hxc, hcc, hrowc⟩ := (HT.out.c.below HS.out.2.2).row (k := i') (by omega)
                subst hAc
                have hrc := HP6.out rc (List.mem_of_getElem? hxc)
                have hrn := hrowc.len
                obtain rfl : nc = n2 := by have := HE2.out; omega
                obtain ⟨be, oe, xe, hAe, hbe, hxe, hce⟩ := Ints.at_ (k := j') hrowc (by omega)
                subst hAe
                obtain ⟨be1, be2⟩ := inside_at hrc.2 hxe
                obtain ⟨b0, r0, c0, k0⟩ := HS.out.cell (k := i') (j := j') (by omega) (by omega)
                rw [fill_old p (by omega)] at c0
                obtain ⟨b0', r0', c1, k0'⟩ := HS.out.cell (k := i') (j := j' + 1) (by omega) (by omega)
                rw [fill_old p (by omega)] at c1
                obtain rfl : b0 = b0' := by rw [k0] at k0'; injection k0'
                obtain ⟨b1, r1, c2, k1⟩ := HS.out.cell (k := i' + 1) (j := j') (by omega) (by omega)
                rw [fill_old p (by omega)] at c2
                obtain rfl : b1 = bz := by rw [k1] at kz; injection kz
                have bp := HB.out i' j' (by have := HE1.out; omega) (by have := HE2.out; omega)
                have bq := HB.out i' (j' + 1) (by have := HE1.out; omega) (by have := HE2.out; omega)
                have br := HB.out (i' + 1) j' (by have := HE1.out; omega) (by have := HE2.out; omega)
                have heq : p (i' + 1) (j' + 1) = if 0 ≤ xe then min (min (p i' (j' + 1) + xd) (p (i' + 1) j' + xa)) (p i' j' + xe) else min (p i' (j' + 1) + xd) (p (i' + 1) j' + xa) := by
                  rw [HPP.out, potF.eq_4, getD_of hxa, getD_of hxd, pget_of hxc hxe]
                obtain ⟨y0, hy0⟩ : ∃ y, p i' j' = y := ⟨_, rfl⟩
                obtain ⟨y1, hy1⟩ : ∃ y, p i' (j' + 1) = y := ⟨_, rfl⟩
                obtain ⟨y2, hy2⟩ : ∃ y, p (i' + 1) j' = y := ⟨_, rfl⟩
                rw [hy0] at c0 bp heq
                rw [hy1] at c1 bq heq
                rw [hy2] at c2 br heq
                have bp1 := bp.1
                have bq1 := bq.1
                have br1 := br.1
                have bp3 : y0 ≤ 1000000000 := by omega
                have bq3 : y1 ≤ 1000000000 := by omega
                have br3 : y2 ≤ 1000000000 := by omega
                have HEQ := Lib.hid heq
                have dn : decide (y1 + xd < 0) = false := by simp; omega
                clear HS hy0 hy1 hy2 heq hxd hxa hxe hxc hrc hrn hrowc k0 k1 k0' kz r0' rz bp bq br h0 h1
                go_wp2_with fail
                go_quiet (fail)
                go_wp2_with fail
                go_quiet (fail)
                go_wp2_with fail
                all_goals (try (go_quiet (fail); go_wp2_with fail))
                all_goals (try (go_quiet (fail); go_wp2_with fail))
                all_goals
                  go_roundw
                  case rel => exact ⟨j' + 1 + 1, _, by omega, by go_num, HS2.out _ _ (by rw [HEQ.out]; (repeat' split) <;> omega)⟩
                  case measure => simp [intOf] <;> omega
        · obtain rfl : j = n2 + 1 := by omega
          have HS2 := Lib.hid HS.out.row
          clear HS
          go_wp2_with fail
          go_roundw
          case rel => exact ⟨i + 1, _, by omega, by go_num, HS2⟩
          case measure => simp [intOf] <;> omega
    · have hie : i = n3 + 1 := by omega
      obtain ⟨w1, rfl⟩ : ∃ w1 : World, w1 = wr := ⟨_, rfl⟩
      have HMD : Hid (Made w1 wa.heap.size (n3 + 1) (n2 + 1) bs (potF drop add cost)) := by
        have := HS.out
        rw [hie] at this
        have := this.made
        rw [HPP.out] at this
        exact this
      have HBS : Hid (bs.length = n3 + 1) := by
        show bs.length = n3 + 1
        rw [HS.out.2.1, hie]
      have d34 : decide ((i : Int) ≤ (n3 : Int)) = false := by simp; omega
      have d34' : decide (i ≤ n3) = false := by simp; omega
      have HBE := Lib.hid HS.out.2.2
      have hg : wa.heap.size ≤ wa.heap.size := Nat.le_refl _
      have HBT : Hid (BackSt w1 w1 drop add cost (.slice none 0 0) n3 n2) := by
        have := BackSt.start w1 drop add cost
        rw [HE1.out, HE2.out] at this
        exact this
      rw [HPP.out] at HB
      clear HS HPP hie
      go_wp2_with fail
      go_loopw [14, 15, 16] (fun v s t wr => ∃ (i j : Nat), i ≤ n3 ∧ j ≤ n2 ∧ s = .int .i64 (i : Int) ∧ t = .int .i64 (j : Int) ∧ Hid (BackSt w1 wr drop add cost v i j)) (fun _ s t _ => (intOf s).toNat + (intOf t).toNat)
      case atStart => exact ⟨n3, n2, by omega, by omega, rfl, rfl, HBT⟩
      case round =>
        clear HBT
        obtain ⟨i, j, hi, hj, rfl, rfl, HS⟩ := hrel
        rcases Nat.eq_zero_or_pos i with h0 | h0
        · subst h0
          rcases Nat.eq_zero_or_pos j with h1 | h1
          · as_aux_lemma =>
              subst h1
              rw [show ((0 : Nat) : Int) = 0 from rfl]
              obtain ⟨hs1, ps, hs2, hs3, hs4⟩ := HS.out
              obtain ⟨A, c, rfl, hr, ha⟩ := reads_of_owns hs2
              have hal : alignL drop add cost = ps.reverse := by
                unfold alignL
                rw [hs3, backF]; simp
              have HAL := Lib.hid hal
              have HA := Lib.hid ha
              have HR := Lib.hid hr
              have HS1 := Lib.hid hs1
              obtain ⟨np, hnp⟩ : ∃ np, np = ps.length := ⟨_, rfl⟩
              have HNP := Lib.hid hnp
              have hnp4 : np ≤ 400 := by rw [HE1.out] at hs4; omega
              rw [← hnp] at HR
              rw [← hnp]
              obtain ⟨b9, r9, c9, -⟩ := (HMD.out.more hs1).cells (k := n3) (j := n2) (by rw [HBS.out]; omega) (by omega)
              obtain ⟨x, hx⟩ : ∃ x, potF drop add cost n3 n2 = x := ⟨_, rfl⟩
              have HX := Lib.hid hx
              rw [hx] at c9
              clear hal ha hr hs1 hs2 hs3 hs4 hnp HS hx
              obtain ⟨w2, rfl⟩ : ∃ w2 : World, w2 = wr := ⟨_, rfl⟩
              go_wp2_with fail
              go_loopw [18] (fun s wr => ∃ (t : Nat), t ≤ np ∧ s = .int .i64 ((np : Int) - 1 - t) ∧ Hid (OrdSt w2 wr w2.heap.size x (.slice (some ⟨wa.heap.size, 0, none⟩) (n3 + 1) (n3 + 1)) ps t)) (fun s _ => (intOf s + 1).toNat)
              case atStart => exact ⟨0, by omega, by simp, OrdSt.start⟩
              case round =>
                obtain ⟨t, ht, rfl, HS⟩ := hrel
                by_cases htl : t < np
                · obtain ⟨k, hk⟩ : ∃ k : Nat, k + t + 1 = np := ⟨np - 1 - t, by omega⟩
                  rw [show (np : Int) - 1 - t = k by omega]
                  obtain ⟨hb0, hsz0, hlt0, v, hblk, hown, -⟩ := HS.out
                  obtain ⟨bp, op, xp, yp, hAp, hbp, hxp, hcp1, hcp2⟩ := Prs.at_ (k := k) ((HR.out.below (hb0.mono (Nat.le_refl _)))) (by omega)
                  subst hAp
                  have hrev : ps.reverse[t]? = some (xp, yp) := by
                    have hlp := HNP.out
                    have hkp : k < ps.length := by omega
                    rw [List.getElem?_reverse (by omega), show ps.length - 1 - t = k by omega]
                    exact hxp
                  have HRV := Lib.hid hrev
                  have HBK := Lib.hid hblk
                  have HOW := Lib.hid hown
                  have a0 := hblk.cell 0
                  simp at a0
                  have f0 := hblk.frozen 0
                  have hgv := Lib.hid (own_ge hown)
                  have hkn : k < np := by omega
                  have HKN := Lib.hid hk
                  clear hb0 hsz0 hblk hown hrev hxp hbp hk
                  go_wp2_with fail
                  go_region_law ((refine step_append_row _ rfl (.tmp 263) (.tmp 268) 26 26 rfl (w2.heap.size + 1) 45 i0 (.agg #[.int .i64 0, .int .i64 0]) 2 16 Try.underlying26 HI.out HZ0.out HZ1.out HZ2.out rfl (by decide) v t ((ps.reverse.take t).flatMap pcells) (by simp [Act.eval]) (HOW.out.drew.alloc _) (.slice (some ⟨wr.heap.size, 0, none⟩) 1 1) 1 [.int .i64 xp, .int .i64 yp] (by simp [Act.eval]) (src_new wr.drew Try.underlying26 [.int .i64 xp, .int .i64 yp] 2 1 1 45 rfl (by intro u hu; simp at hu; rcases hu with rfl | rfl <;> rfl)) (by unfold maxLen; omega) (by omega) (by simp; omega) ?_; intro v3 w3 hown3 hg3; obtain ⟨A3', c3', rfl, -, -⟩ := reads_of_owns hown3; have hb3 := hg3.blk ((HBK.out.drew).alloc _) (fun e => by have := hgv.out _ e; omega); have b0 := hb3.cell 0; simp at b0; have g0 := hb3.frozen 0; have HOW3 := Lib.hid hown3; have HG3 := Lib.hid hg3; clear hb3 hown3 hg3))
                  all_goals
                    go_wp2_with fail
                    go_roundw
                    case rel => exact ⟨t + 1, by omega, by have := HKN.out; rw [show (k : Int) - 1 = (np : Int) - 1 - ((t + 1 : Nat) : Int) by omega], OrdSt.push HS.out HBK.out hgv.out HRV.out HOW3.out HG3.out⟩
                    case measure => simp [intOf] <;> omega
                · rw [show (np : Int) - 1 - t = -1 by omega]
                  obtain ⟨hb0, hsz0, hlt0, v, hblk, hown, -⟩ := HS.out
                  obtain ⟨Av, cv, rfl, hrv, hav⟩ := reads_of_owns hown
                  have htn : t = ps.length := by have := HNP.out; omega
                  have hlen : (alignL drop add cost).length = t := by rw [HAL.out, htn]; simp
                  have hpr : Prs wr wr.heap.size Av (alignL drop add cost).length (alignL drop add cost) := by
                    rw [hlen, HAL.out]
                    rw [List.take_of_length_le (by rw [htn]; simp)] at hrv
                    exact hrv
                  have hb2 : Below w1.heap.size w1 wr := HS1.out.trans (hb0.mono HS1.out.size)
                  have hsb := HBE.out.size
                  have hsc := HS1.out.size
                  have HF := Lib.hid (al_end (c := cv) HW.out HBE.out HMD.out HBS.out hg HE1.out HE2.out (fun a h => by have := (hav a h).1; omega) hpr hb2 HX.out.symm)
                  rw [hlen] at HF
                  have hk2 := ((HK.out.below HBE.out hsa).below HS1.out (by omega)).below hb0 (by omega)
                  have a0 := hblk.cell 0
                  have a1 := hblk.cell 1
                  have a2 := hblk.cell 2
                  have k0 := hk2.cell 0
                  have k1 := hk2.cell 1
                  have k2 := hk2.cell 2
                  simp at a0 a1 a2 k0 k1 k2
                  have f0 := hk2.frozen 0
                  have f1 := hk2.frozen 1
                  have f2 := hk2.frozen 2
                  clear hb0 hsz0 hblk hown hrv hav htn hlen hpr hb2 hk2
                  go_wp2_with fail
                  exact bodyPost_end (v := .tuple #[.agg #[.slice Av t cv, .int .i64 x, .slice (some ⟨wa.heap.size, 0, none⟩) (n3 + 1) (n3 + 1)], .int .i64 0]) (by simp [results, Try.results12, go_sem, k0, k1, k2]) rfl (HF.out _ _ _)
          · as_aux_lemma =>
              obtain ⟨j', rfl⟩ : ∃ j', j = j' + 1 := ⟨j - 1, by omega⟩
              have HS2 := Lib.hid (fun d => (HS.out.drewN d).to (i' := 0) (j' := j') (by rw [backF]) (Nat.le_refl _))
              clear HS h1
              go_wp2_with fail
              go_quiet (fail)
              go_wp2_with fail
              go_quiet (fail)
              go_wp2_with fail
              go_roundw
              case rel => exact ⟨0, j', by omega, by omega, rfl, rfl, HS2.out _⟩
              case measure => simp [intOf] <;> omega
        · obtain ⟨i', rfl⟩ : ∃ i', i = i' + 1 := ⟨i - 1, by omega⟩
          have hmr := HMD.out.more HS.out.1
          have h3r := (HT.out.below HBE.out).below (HS.out.1.mono HBE.out.size)
          obtain ⟨bd, od, xd, rfl, hbd, hxd, hcd⟩ := Ints.at_ (k := i') h3r.d (by omega)
          have bx := inside_at HP4.out hxd
          obtain ⟨bd1, bd2⟩ := bx
          rcases Nat.eq_zero_or_pos j with h1 | h1
          · as_aux_lemma =>
              subst h1
              have HS2 := Lib.hid (fun d => (HS.out.drewN d).to (i' := i') (j' := 0) (by rw [backF]) (by omega))
              obtain ⟨b0, r0, c0, k0⟩ := hmr.cells (k := i') (j := 0) (by rw [HBS.out]; omega) (by omega)
              obtain ⟨b1, r1, c1, k1⟩ := hmr.cells (k := i' + 1) (j := 0) (by rw [HBS.out]; omega) (by omega)
              have bp := HB.out i' 0 (by have := HE1.out; omega) (by omega)
              have he : potF drop add cost (i' + 1) 0 = potF drop add cost i' 0 + xd := by rw [potF.eq_3, getD_of hxd]
              rw [he] at c1
              obtain ⟨y, hy⟩ : ∃ y, potF drop add cost i' 0 = y := ⟨_, rfl⟩
              rw [hy] at c0 c1 bp
              have bp1 := bp.1
              have bp3 : y ≤ 1000000000 := by omega
              clear HS hmr h3r hxd k0 k1 bp h0 hy he
              go_wp2_with fail
              go_quiet (fail)
              go_wp2_with fail
              go_quiet (fail)
              go_wp2_with fail
              go_roundw
              case rel => exact ⟨i', 0, by omega, by omega, by go_num, rfl, HS2.out _⟩
              case measure => simp [intOf] <;> omega
          · as_aux_lemma =>
              obtain ⟨j', rfl⟩ : ∃ j', j = j' + 1 := ⟨j - 1, by omega⟩
              obtain ⟨bc, oc, Ac, nc, cc, rc, hAc, hbc, hxc, hcc, hrowc⟩ := h3r.c.row (k := i') (by omega)
              subst hAc
              have hrc := HP6.out rc (List.mem_of_getElem? hxc)
              have hrn := hrowc.len
              obtain rfl : nc = n2 := by have := HE2.out; omega
              obtain ⟨be, oe, xe, hAe, hbe, hxe, hce⟩ := Ints.at_ (k := j') hrowc (by omega)
              subst hAe
              obtain ⟨be1, be2⟩ := inside_at hrc.2 hxe
              obtain ⟨b0, r0, c0, k0⟩ := hmr.cells (k := i') (j := j') (by rw [HBS.out]; omega) (by omega)
              obtain ⟨b0', r0', c1, k0'⟩ := hmr.cells (k := i') (j := j' + 1) (by rw [HBS.out]; omega) (by omega)
              obtain rfl : b0 = b0' := by rw [k0] at k0'; injection k0'
              obtain ⟨b1, r1, c2, k1⟩ := hmr.cells (k := i' + 1) (j := j' + 1) (by rw [HBS.out]; omega) (by omega)
              have bp := HB.out i' j' (by have := HE1.out; omega) (by have := HE2.out; omega)
              have bq := HB.out i' (j' + 1) (by have := HE1.out; omega) (by have := HE2.out; omega)
              have q1 := back_eq1 (drop := drop) (add := add) (cost := cost) (i := i') (j := j')
              have q2 := back_eq2 (drop := drop) (add := add) (cost := cost) (i := i') (j := j')
              have q3 := back_eq3 (drop := drop) (add := add) (cost := cost) (i := i') (j := j')
              rw [pget_of hxc hxe] at q1 q2 q3
              rw [getD_of hxd] at q2 q3
              obtain ⟨y0, hy0⟩ : ∃ y, potF drop add cost i' j' = y := ⟨_, rfl⟩
              obtain ⟨y1, hy1⟩ : ∃ y, potF drop add cost i' (j' + 1) = y := ⟨_, rfl⟩
              obtain ⟨y2, hy2⟩ : ∃ y, potF drop add cost (i' + 1) (j' + 1) = y := ⟨_, rfl⟩
              rw [hy0] at c0 bp q1 q2 q3
              rw [hy1] at c1 bq q2 q3
              rw [hy2] at c2 q1 q2 q3
              have bp1 := bp.1
              have bq1 := bq.1
              have bp3 : y0 ≤ 1000000000 := by omega
              have bq3 : y1 ≤ 1000000000 := by omega
              have Q1 := Lib.hid q1
              have Q2 := Lib.hid q2
              have Q3 := Lib.hid q3
              clear hmr h3r hxd hxe hxc hrc hrn hrowc k0 k1 k0' r0' bp bq h0 h1 hy0 hy1 hy2 q1 q2 q3
              by_cases hA : 0 ≤ xe ∧ y2 = y0 + xe
              · obtain ⟨hA1, rfl⟩ := hA
                have hq := Lib.hid (Q1.out hA1 rfl)
                have dxe : decide (0 ≤ xe) = true := by simpa using hA1
                obtain ⟨hs1, ps, hs2, hs3, hs4⟩ := HS.out
                have HS1 := Lib.hid hs1
                have HS2 := Lib.hid hs2
                have HS3 := Lib.hid hs3
                have hszr := hs1.size
                have hd400 : drop.length ≤ 400 := by rw [HE1.out]; exact p1
                have hps : ps.length ≤ 400 := by omega
                clear HS hs1 hs2 hs3 Q1 Q2 Q3
                go_wp2_with fail
                go_quiet (fail)
                go_wp2_with (at_builtin; refine wpList_append_row _ rfl (.tmp 211) (.tmp 215) 26 26 rfl w1.heap.size 45 i0 (.agg #[.int .i64 0, .int .i64 0]) 2 16 Try.underlying26 HI.out HZ0.out HZ1.out HZ2.out rfl (by decide) _ ps.length (ps.flatMap pcells) rfl ((owns_drewN HS2.out _).alloc _) (.slice (some ⟨wr.heap.size, 0, none⟩) 1 1) 1 [.int .i64 (i' : Int), .int .i64 (j' : Int)] rfl (src_new (wr.drewN nq) Try.underlying26 [.int .i64 (i' : Int), .int .i64 (j' : Int)] 2 1 1 45 rfl ?c4) ?c1 ?c2 ?c3 ?_)
                case c4 => intro u hu; simp at hu; rcases hu with rfl | rfl <;> rfl
                case c1 => unfold maxLen; omega
                case c2 => omega
                case c3 => simp; omega
                intro v3 w3 hown3 hg3
                have HS4 : Hid (BackSt w1 w3 drop add cost v3 i' j') := BackSt.push (below_drewN HS1.out _) (owns_drewN HS2.out _) HS3.out hs4 hq.out hown3 hg3
                clear hown3 hg3 HS1 HS2 HS3 hq
                go_wp2_with fail
                go_roundw
                case rel => exact ⟨i', j', by omega, by omega, by go_num, by go_num, HS4⟩
                case measure => simp [intOf] <;> omega
              · by_cases hB : y2 = y1 + xd
                · subst hB
                  have HS2 := Lib.hid (fun d => (HS.out.drewN d).to (Q2.out hA rfl) (by omega))
                  clear HS Q1 Q2 Q3
                  by_cases hx : 0 ≤ xe
                  · have dxe : decide (0 ≤ xe) = true := by simpa using hx
                    have dq : (y1 + xd == y0 + xe) = false := by simp; omega
                    clear hA
                    go_wp2_with fail
                    go_quiet (fail)
                    go_wp2_with fail
                    go_quiet (fail)
                    go_wp2_with fail
                    go_roundw
                    case rel => exact ⟨i', j' + 1, by omega, by omega, by go_num, rfl, HS2.out _⟩
                    case measure => simp [intOf] <;> omega
                  · have dxe : decide (0 ≤ xe) = false := by simpa using hx
                    clear hA
                    go_wp2_with fail
                    go_quiet (fail)
                    go_wp2_with fail
                    go_quiet (fail)
                    go_wp2_with fail
                    go_roundw
                    case rel => exact ⟨i', j' + 1, by omega, by omega, by go_num, rfl, HS2.out _⟩
                    case measure => simp [intOf] <;> omega
                · have HS2 := Lib.hid (fun d => (HS.out.drewN d).to (Q3.out hA hB) (by omega))
                  have dr : (y2 == y1 + xd) = false := by simpa using hB
                  clear HS Q1 Q2 Q3
                  by_cases hx : 0 ≤ xe
                  · have dxe : decide (0 ≤ xe) = true := by simpa using hx
                    have dq : (y2 == y0 + xe) = false := by simp; omega
                    clear hA
                    go_wp2_with fail
                    go_quiet (fail)
                    go_wp2_with fail
                    go_quiet (fail)
                    go_wp2_with fail
                    go_roundw
                    case rel => exact ⟨i' + 1, j', by omega, by omega, rfl, by go_num, HS2.out _⟩
                    case measure => simp [intOf] <;> omega
                  · have dxe : decide (0 ≤ xe) = false := by simpa using hx
                    clear hA
                    go_wp2_with fail
                    go_quiet (fail)
                    go_wp2_with fail
                    go_quiet (fail)
                    go_wp2_with fail
                    go_roundw
                    case rel => exact ⟨i' + 1, j', by omega, by omega, rfl, by go_num, HS2.out _⟩
                    case measure => simp [intOf] <;> omega
end Go.Proofs.Ytaadaekpmblpaaa
