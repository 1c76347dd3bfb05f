/-
  What the reader's methods read: octet, number. No condition.
-/
import Derived.Test.YtdabmjcpiblofaaDoorPut
import Derived.BigQuiet
namespace Go.Proofs.YtdabmjcpiblofaaDoor
open Go.RowKit
set_option linter.unusedVariables false

/-- a reader at block r, over the slice A n c: at a position, or bad -/
def Rd (w : World) (r : Nat) (A : Option Addr) (n c : Nat) : Option Nat → Prop
  | some p => Blk w r 123 #[.slice A n c, .int .i64 (p : Int), .bool false] ∧ p ≤ n
  | none => ∃ z : Int, Blk w r 123 #[.slice A n c, .int .i64 z, .bool true]

set_option maxRecDepth 100000 in
set_option maxHeartbeats 400000 in
theorem octet_ok (r : Nat) (A : Option Addr) (n c p x : Nat) (bs : List Nat) (w : World) (hb : Blk w r 123 #[.slice A n c, .int .i64 (p : Int), .bool false]) (hp : p < n) (hn : n ≤ 1000000000)
    (hr : Reads w r 1 A n (bs.map byt)) (hx : bs[p]? = some x) :
    Calls Tryd.prog 89 #[.pointer (some ⟨r, 0, none⟩)] w fun e w' => e = .returned (.int .u8 (x : Int)) ∧ Blk w' r 123 #[.slice A n c, .int .i64 ((p : Int) + 1), .bool false] ∧ w.grownBy w' (some r) := by
  obtain ⟨b, off, u, rfl, had, hu, hcell⟩ := hr.at1 hp
  obtain rfl : u = .int .u8 (x : Int) := by
    rw [List.getElem?_map, hx] at hu
    simpa [byt] using hu.symm
  have c0 := hb.cell 0
  have c1 := hb.cell 1
  have c2 := hb.cell 2
  have f1 := hb.frozen 1
  simp at c0 c1 c2
  have hlt : ¬ n ≤ p := by omega
  have hd : decide (n ≤ p) = false := by simpa using hlt
  have hne : ¬ b = r := by omega
  have HB := Lib.hid hb
  clear hr hu hb hx
  go_enter Tryd.func89, Tryd.ntmps89
  go_wp2_with fail
  go_quiet (fail)
  go_wp2_with fail
  go_quiet (fail)
  go_wp2_with fail
  go_ret
  refine ⟨rfl, ?_, ?_⟩
  · exact ((HB.out.drewN _).set_ 1 _).drewN _
  · exact only_drewN (only_setCell (only_drewN (World.grownBy.refl w _) _) (.inl rfl) _) _

set_option maxRecDepth 100000 in
set_option maxHeartbeats 400000 in
theorem octet_end (r : Nat) (A : Option Addr) (n c p : Nat) (w : World) (hb : Blk w r 123 #[.slice A n c, .int .i64 (p : Int), .bool false]) (hp : n ≤ p) :
    Calls Tryd.prog 89 #[.pointer (some ⟨r, 0, none⟩)] w fun e w' => e = .returned (.int .u8 0) ∧ Blk w' r 123 #[.slice A n c, .int .i64 (p : Int), .bool true] ∧ w.grownBy w' (some r) := by
  have c0 := hb.cell 0
  have c1 := hb.cell 1
  have c2 := hb.cell 2
  have f2 := hb.frozen 2
  simp at c0 c1 c2
  have hd : decide (n ≤ p) = true := by simpa using hp
  have HB := Lib.hid hb
  clear hb
  go_enter Tryd.func89, Tryd.ntmps89
  go_wp2_with fail
  go_quiet (fail)
  go_wp2_with fail
  go_ret
  refine ⟨rfl, ?_, ?_⟩
  · exact (HB.out.drewN _).set_ 2 _
  · exact only_setCell (only_drewN (World.grownBy.refl w _) _) (.inl rfl) _

set_option maxRecDepth 100000 in
set_option maxHeartbeats 400000 in
theorem octet_bad (r : Nat) (A : Option Addr) (n c : Nat) (z : Int) (w : World) (hb : Blk w r 123 #[.slice A n c, .int .i64 z, .bool true]) :
    Calls Tryd.prog 89 #[.pointer (some ⟨r, 0, none⟩)] w fun e w' => e = .returned (.int .u8 0) ∧ Blk w' r 123 #[.slice A n c, .int .i64 z, .bool true] ∧ w.grownBy w' (some r) := by
  have c2 := hb.cell 2
  have f2 := hb.frozen 2
  simp at c2
  have HB := Lib.hid hb
  clear hb
  go_enter Tryd.func89, Tryd.ntmps89
  go_wp2_with fail
  go_quiet (fail)
  go_wp2_with fail
  go_ret
  refine ⟨rfl, ?_, ?_⟩
  · exact (HB.out.drewN _).set_ 2 _
  · exact only_setCell (only_drewN (World.grownBy.refl w _) _) (.inl rfl) _
/-- what number returns: the number and the position behind it, or 0 and a bad reader -/
def NumPost (w : World) (r : Nat) (A : Option Addr) (n c : Nat) (o : Option (Int × Nat)) (e : Ending) (w' : World) : Prop :=
  e = .returned (.int .i64 ((o.map (·.1)).getD 0)) ∧ Rd w' r A n c (o.map (·.2)) ∧ w.grownBy w' (some r)

set_option maxRecDepth 100000 in
set_option maxHeartbeats 400000 in
theorem number_bad (r : Nat) (A : Option Addr) (n c : Nat) (z : Int) (w : World) (hb : Blk w r 123 #[.slice A n c, .int .i64 z, .bool true]) :
    Calls Tryd.prog 85 #[.pointer (some ⟨r, 0, none⟩)] w (NumPost w r A n c none) := by
  go_enter Tryd.func85, Tryd.ntmps85
  go_wp2_with fail
  refine wp_loop_rounds 1 ?_
  rw [rounds_succ]
  go_wp2_with fail
  refine (octet_bad r A n c z w hb).mono ?_
  rintro e w1 ⟨rfl, hb1, hg1⟩
  have c2 := hb1.cell 2
  simp at c2
  have HB := Lib.hid hb1
  have HG := Lib.hid hg1
  clear hb1 hg1 hb
  go_wp2_with fail
  go_ret
  exact ⟨rfl, ⟨z, HB.out⟩, HG.out⟩

def NumRel (w : World) (r : Nat) (A : Option Addr) (n c p : Nat) (bs : List Nat) (i acc : Nat) (wr : World) : Prop :=
  acc < 2 ^ (7 * i) ∧ p + i ≤ n ∧ scan 0 0 (bs.drop p) = scan i acc (bs.drop (p + i)) ∧ Blk wr r 123 #[.slice A n c, .int .i64 ((p + i : Nat) : Int), .bool false] ∧ w.grownBy wr (some r)

theorem and127 (x : Nat) (h : x < 256) : bits BinOp.and IntKind.u8 (x : Int) 127 = (x : Int) % 128 := by
  rw [show (127 : Int) = ((127 : Nat) : Int) from rfl, u8_and_nat x 127 h (by omega), nat_mask7]; omega
theorem u_lt {i acc x U : Nat} (h : acc < 2 ^ (7 * i)) (hi : i ≤ 9) (hx : ¬ (i = 9 ∧ 1 < x)) (hU : acc + x % 128 * 2 ^ (7 * i) = U) : U < 18446744073709551616 := by
  have := acc_le h hi hx; omega
theorem or_spelt {i acc x U : Nat} (h : acc < 2 ^ (7 * i)) (hi : i ≤ 9) (hx : ¬ (i = 9 ∧ 1 < x)) (hU : acc + x % 128 * 2 ^ (7 * i) = U) :
    bits BinOp.or IntKind.u64 (acc : Int) (IntKind.u64.wrap ((x : Int) % 128 * 2 ^ (7 * i))) = (U : Int) := by
  have h1 := acc_le h hi hx
  have h0 : 0 < 2 ^ (7 * i) := Nat.pow_pos (by omega)
  have e : ((x : Int) % 128 * 2 ^ (7 * i)) = ((x % 128 * 2 ^ (7 * i) : Nat) : Int) := by simp
  have e2 : IntKind.u64.wrap ((x % 128 * 2 ^ (7 * i) : Nat) : Int) = ((x % 128 * 2 ^ (7 * i) : Nat) : Int) := by
    rw [IntKind.wrap_u64]
    generalize x % 128 * 2 ^ (7 * i) = y at *
    omega
  rw [e, e2, or_join h hi hx, hU]
theorem wrap_half (U : Nat) (h : U < 18446744073709551616) : wrap64 ((U : Int) / 2) = (U : Int) / 2 := IntWalk.wrap64_in _ ⟨by omega, by omega⟩
theorem xor_half (U : Nat) (h : U < 18446744073709551616) : bits BinOp.xor IntKind.i64 (-1) ((U : Int) / 2) = -((U : Int) / 2) - 1 := by
  have e : ((U : Int) / 2) = ((U / 2 : Nat) : Int) := by omega
  have hlt : U / 2 < 9223372036854775808 := by omega
  rw [e]
  generalize U / 2 = y at hlt
  show IntKind.i64.wrap ((BitVec.ofInt 64 (-1) ^^^ BitVec.ofInt 64 (y : Int)).toNat : Int) = _
  have e1 : BitVec.ofInt 64 (-1) = BitVec.allOnes 64 := by decide
  rw [e1, ← BitVec.not_def, BitVec.toNat_not, BitVec.ofInt_natCast, BitVec.toNat_ofNat, Nat.mod_eq_of_lt (by omega), IntKind.wrap_i64]
  omega
theorem and_one (U : Nat) (h : U < 18446744073709551616) : (bits BinOp.and IntKind.u64 (U : Int) 1 == 1) = decide (U % 2 = 1) := by
  rw [show (1 : Int) = ((1 : Nat) : Int) from rfl, u64_and_nat U 1 h (by omega), nat_mask1, Bool.eq_iff_iff, beq_iff_eq, decide_eq_true_eq]
  omega
theorem unzig_odd {U : Nat} (h : U % 2 = 1) : unzig U = -((U : Int) / 2) - 1 := by unfold unzig; rw [if_pos h]; omega
theorem unzig_even {U : Nat} (h : ¬ U % 2 = 1) : unzig U = (U : Int) / 2 := by unfold unzig; rw [if_neg h]; omega
theorem num_cases {i x : Nat} (hi : i ≤ 9) (h : ¬ ((i = 9 ∧ 1 < x) ∨ (0 < i ∧ x = 0))) :
    (((7 : Int) * (i : Int) == 63) = true ∧ decide ((1 : Int) < (x : Int)) = false ∧ decide ((0 : Int) < 7 * (i : Int)) = true ∧ ((x : Int) == 0) = false) ∨
    (((7 : Int) * (i : Int) == 63) = false ∧ decide ((1 : Int) < (x : Int)) = decide ((1 : Int) < (x : Int)) ∧ decide ((0 : Int) < 7 * (i : Int)) = true ∧ ((x : Int) == 0) = false) ∨
    (((7 : Int) * (i : Int) == 63) = false ∧ decide ((1 : Int) < (x : Int)) = decide ((1 : Int) < (x : Int)) ∧ decide ((0 : Int) < 7 * (i : Int)) = false ∧ ((x : Int) == 0) = ((x : Int) == 0)) := by
  by_cases h9 : i = 9
  · exact .inl ⟨by rw [beq_iff_eq]; omega, by rw [decide_eq_false_iff_not]; omega, by rw [decide_eq_true_eq]; omega, by rw [beq_eq_false_iff_ne]; omega⟩
  · by_cases h0 : 0 < i
    · exact .inr (.inl ⟨by rw [beq_eq_false_iff_ne]; omega, rfl, by rw [decide_eq_true_eq]; omega, by rw [beq_eq_false_iff_ne]; omega⟩)
    · exact .inr (.inr ⟨by rw [beq_eq_false_iff_ne]; omega, rfl, by rw [decide_eq_false_iff_not]; omega, rfl⟩)
theorem scan_end {bs : List Nat} {i acc q : Nat} (h : bs.length ≤ q) : scan i acc (bs.drop q) = none := by rw [List.drop_eq_nil_of_le h]; rfl
theorem scan_no {bs : List Nat} {i acc q x : Nat} (h : bs[q]? = some x) (hx : (i = 9 ∧ 1 < x) ∨ (0 < i ∧ x = 0)) : scan i acc (bs.drop q) = none := by rw [drop_cons h, scan, if_pos hx]
theorem scan_done {bs : List Nat} {i acc q x : Nat} (h : bs[q]? = some x) (hx : ¬ ((i = 9 ∧ 1 < x) ∨ (0 < i ∧ x = 0))) (hl : x < 128) : scan i acc (bs.drop q) = some (acc + x % 128 * 2 ^ (7 * i), i + 1) := by rw [drop_cons h, scan, if_neg hx, if_pos hl]
theorem scan_more {bs : List Nat} {i acc q x : Nat} (h : bs[q]? = some x) (hx : ¬ ((i = 9 ∧ 1 < x) ∨ (0 < i ∧ x = 0))) (hl : ¬ x < 128) : scan i acc (bs.drop q) = scan (i + 1) (acc + x % 128 * 2 ^ (7 * i)) (bs.drop (q + 1)) := by rw [drop_cons h, scan, if_neg hx, if_neg hl]

theorem numP_none {bs : List Nat} {p : Nat} (h : scan 0 0 (bs.drop p) = none) : numP bs p = none := by unfold numP; rw [h]; rfl
theorem numP_some {bs : List Nat} {p u k : Nat} (h : scan 0 0 (bs.drop p) = some (u, k)) : numP bs p = some (unzig u, p + k) := by unfold numP; rw [h]; rfl

set_option maxRecDepth 100000 in
set_option maxHeartbeats 1000000 in
theorem number_ok (r : Nat) (A : Option Addr) (n c p : Nat) (bs : List Nat) (w : World) (hb : Blk w r 123 #[.slice A n c, .int .i64 (p : Int), .bool false]) (hp : p ≤ n) (hn : n ≤ 1000000000)
    (hr : Reads w r 1 A n (bs.map byt)) (hbs : ∀ x ∈ bs, x < 256) :
    Calls Tryd.prog 85 #[.pointer (some ⟨r, 0, none⟩)] w (NumPost w r A n c (numP bs p)) := by
  have hlen : bs.length = n := by have := hr.1; simpa using this
  have hst : Hid (NumRel w r A n c p bs 0 0 w) := ⟨by simp, hp, rfl, hb, World.grownBy.refl w _⟩
  have hb0 := hb.lt
  have HR := Lib.hid hr
  have HS := Lib.hid hbs
  have HL := Lib.hid hlen
  clear hr hbs hlen hb
  go_enter Tryd.func85, Tryd.ntmps85
  go_wp2_with fail
  go_loopw [3, 4] (fun u sh wr => ∃ i acc : Nat, i ≤ 9 ∧ u = .int .u64 (acc : Int) ∧ sh = .int .i64 (7 * (i : Int)) ∧ NumRel w r A n c p bs i acc wr) (fun _ sh _ => (70 - intOf sh).toNat)
  case atStart => exact ⟨0, 0, by omega, rfl, rfl, hst⟩
  case round =>
    obtain ⟨i, acc, hi, rfl, rfl, hacc, hpi, hsc, hbk, hg⟩ := hrel
    have HA := Lib.hid hacc
    have HSC := Lib.hid hsc
    have HG := Lib.hid hg
    clear hacc hsc hg
    by_cases he : n ≤ p + i
    · have hno : numP bs p = none := numP_none (HSC.out.trans (scan_end (by rw [HL.out]; exact he)))
      have HN := Lib.hid hno
      clear hno
      have h63 : i = 0 ∨ 0 < i := by omega
      rcases h63 with h0 | h0
      · subst h0
        go_wp2_with fail
        refine (octet_end r A n c (p + 0) _ hbk he).mono ?_
        rintro e w1 ⟨rfl, hb1, hg1⟩
        have c2 := hb1.cell 2
        have f2 := hb1.frozen 2
        simp at c2
        have HB := Lib.hid hb1
        have HG1 := Lib.hid hg1
        clear hb1 hg1 hbk
        go_wp2_with fail
        go_ret
        rw [HN.out]
        exact ⟨rfl, ⟨_, HB.out⟩, HG.out.trans HG1.out⟩
      · have hgt : decide ((0 : Int) < 7 * (i : Int)) = true := by simp; omega
        have h0' : ((7 : Int) * (i : Int) == 63) = true ∨ ((7 : Int) * (i : Int) == 63) = false := by cases ((7 : Int) * (i : Int) == 63) <;> simp
        rcases h0' with h63 | h63
        all_goals
          go_wp2_with fail
          refine (octet_end r A n c (p + i) _ hbk he).mono ?_
          rintro e w1 ⟨rfl, hb1, hg1⟩
          have c2 := hb1.cell 2
          have f2 := hb1.frozen 2
          simp at c2
          have HB := Lib.hid hb1
          have HG1 := Lib.hid hg1
          clear hb1 hg1 hbk
          go_wp2_with fail
          go_ret
          rw [HN.out]
          exact ⟨rfl, ⟨_, HB.out.set_ 2 _⟩, only_setCell (HG.out.trans HG1.out) (.inl rfl) _⟩
    · obtain ⟨x, hx⟩ : ∃ x, bs[p + i]? = some x := ⟨bs[p + i]'(by rw [HL.out]; omega), List.getElem?_eq_getElem _⟩
      have hx256 : x < 256 := HS.out x (List.mem_of_getElem? hx)
      have hrd : Reads wr r 1 A n (bs.map byt) := (HR.out).keep (fun q hq => World.cell?_of_block (HG.out.block q.block (by have := hb0; omega) (fun e => by injection e; omega)))
      have hand := and127 x hx256
      by_cases hb1 : (i = 9 ∧ 1 < x) ∨ (0 < i ∧ x = 0)
      · have hno : numP bs p = none := numP_none (HSC.out.trans (scan_no hx hb1))
        have HN := Lib.hid hno
        clear hno
        have key : ∀ w1 : World, Hid (Blk w1 r 123 #[.slice A n c, .int .i64 (((p + i : Nat) : Int) + 1), .bool false]) → Hid (wr.grownBy w1 (some r)) →
            NumPost w r A n c (numP bs p) (.returned (.int .i64 0)) (w1.setCell ⟨r, 2, none⟩ (.bool true)) := fun w1 HB HG1 => by
          rw [HN.out]
          exact ⟨rfl, ⟨_, HB.out.set_ 2 _⟩, only_setCell (HG.out.trans HG1.out) (.inl rfl) _⟩
        have KEY := Lib.hid key
        clear key
        have h0' : ((7 : Int) * (i : Int) == 63) = true ∨ ((7 : Int) * (i : Int) == 63) = false := by cases ((7 : Int) * (i : Int) == 63) <;> simp
        have h1' : ((x : Int) == 0) = true ∨ ((x : Int) == 0) = false := by cases ((x : Int) == 0) <;> simp
        have h2' : decide ((1 : Int) < (x : Int)) = true ∨ decide ((1 : Int) < (x : Int)) = false := by cases decide ((1 : Int) < (x : Int)) <;> simp
        rcases hb1 with ⟨h9, h1⟩ | ⟨h9, h1⟩
        · have hgt : decide ((1 : Int) < (x : Int)) = true := by simp; omega
          have h63 : ((7 : Int) * (i : Int) == 63) = true := by rw [beq_iff_eq]; omega
          clear h0' h1' h2' hx256 h9 hi
          go_wp2_with fail
          refine (octet_ok r A n c (p + i) x bs _ hbk (by omega) hn hrd hx).mono ?_
          rintro e w1 ⟨rfl, hb1, hg1⟩
          have c2 := hb1.cell 2
          have f2 := hb1.frozen 2
          simp at c2
          have HB := Lib.hid hb1
          have HG1 := Lib.hid hg1
          clear hb1 hg1 hbk hx hrd
          go_wp2_with fail
          go_ret
          exact KEY.out w1 HB HG1
        · obtain rfl : x = 0 := h1
          clear h1' h2' hx256
          have hgt : decide ((0 : Int) < 7 * (i : Int)) = true := by simp; omega
          rcases h0' with h63 | h63
          all_goals
            go_wp2_with fail
            refine (octet_ok r A n c (p + i) 0 bs _ hbk (by omega) hn hrd hx).mono ?_
            rintro e w1 ⟨rfl, hb1, hg1⟩
            have c2 := hb1.cell 2
            have f2 := hb1.frozen 2
            simp at c2
            have HB := Lib.hid hb1
            have HG1 := Lib.hid hg1
            clear hb1 hg1 hbk hx hrd
            go_wp2_with fail
            go_ret
            exact KEY.out w1 HB HG1
      · obtain ⟨U, hUe⟩ : ∃ U, acc + x % 128 * 2 ^ (7 * i) = U := ⟨_, rfl⟩
        have hUl := u_lt HA.out hi (fun h => hb1 (.inl h)) hUe
        have hor := or_spelt HA.out hi (fun h => hb1 (.inl h)) hUe
        have hw := wrap_half U hUl
        have hxor := xor_half U hUl
        have hodd : (bits BinOp.and IntKind.u64 (U : Int) 1 == 1) = decide (U % 2 = 1) := and_one U hUl
        have hacc2 : U < 2 ^ (7 * (i + 1)) := by rw [← hUe]; exact acc_step HA.out
        have HU := Lib.hid hacc2
        have HUe := Lib.hid hUe
        have HB1 := Lib.hid hb1
        have HOD := Lib.hid hodd
        have HXO := Lib.hid hxor
        have hcase := num_cases hi hb1
        clear hacc2 hUe hUl hb1 hodd hxor
        by_cases hl : x < 128
        · have hyes : numP bs p = some (unzig U, p + (i + 1)) := numP_some (HSC.out.trans (by rw [scan_done hx HB1.out hl, HUe.out]))
          have HY := Lib.hid hyes
          clear hyes
          have key : ∀ w1 : World, Hid (Blk w1 r 123 #[.slice A n c, .int .i64 (((p + i : Nat) : Int) + 1), .bool false]) → Hid (wr.grownBy w1 (some r)) →
              NumPost w r A n c (numP bs p) (.returned (.int .i64 (unzig U))) w1 := fun w1 HB HG1 => by
            rw [HY.out]
            exact ⟨rfl, ⟨by have := HB.out; rw [show (((p + i : Nat) : Int) + 1) = ((p + (i + 1) : Nat) : Int) from by omega] at this; exact this, by show p + (i + 1) ≤ n; omega⟩, HG.out.trans HG1.out⟩
          have KEY := Lib.hid key
          clear key
          rcases hcase with ⟨t1, t2, t3, t4⟩ | ⟨t1, t2, t3, t4⟩ | ⟨t1, t2, t3, t4⟩
          all_goals
            by_cases ho : U % 2 = 1
            · have ho' : (bits BinOp.and IntKind.u64 (U : Int) 1 == 1) = true := by rw [HOD.out]; simpa using ho
              have hval := unzig_odd ho
              have hxo := HXO.out
              rw [← hval] at hxo
              clear hval ho
              go_wp2_with fail
              refine (octet_ok r A n c (p + i) x bs _ hbk (by omega) hn hrd hx).mono ?_
              rintro e w1 ⟨rfl, hb1, hg1⟩
              have c2 := hb1.cell 2
              have f2 := hb1.frozen 2
              simp at c2
              have HB := Lib.hid hb1
              have HG1 := Lib.hid hg1
              clear hb1 hg1 hbk hx hrd
              go_wp2_with fail
              go_ret
              exact KEY.out w1 HB HG1
            · have ho' : (bits BinOp.and IntKind.u64 (U : Int) 1 == 1) = false := by rw [HOD.out]; simpa using ho
              have hval := unzig_even ho
              have HW := Lib.hid hw
              clear ho hw
              go_wp2_with fail
              refine (octet_ok r A n c (p + i) x bs _ hbk (by omega) hn hrd hx).mono ?_
              rintro e w1 ⟨rfl, hb1, hg1⟩
              have c2 := hb1.cell 2
              have f2 := hb1.frozen 2
              simp at c2
              have HB := Lib.hid hb1
              have HG1 := Lib.hid hg1
              have HV := Lib.hid hval
              clear hb1 hg1 hbk hx hrd hval
              go_wp2_with fail
              go_ret
              have K2 := KEY.out w1 HB HG1
              rw [HV.out, ← HW.out] at K2
              exact K2
        · have hi8 : i ≤ 8 := by have := HB1.out; omega
          have hnext : scan 0 0 (bs.drop p) = scan (i + 1) U (bs.drop (p + (i + 1))) := HSC.out.trans (by rw [scan_more hx HB1.out hl, HUe.out]; rfl)
          have HN := Lib.hid hnext
          clear hnext
          have key : ∀ w1 : World, Hid (Blk w1 r 123 #[.slice A n c, .int .i64 (((p + i : Nat) : Int) + 1), .bool false]) → Hid (wr.grownBy w1 (some r)) →
              NumRel w r A n c p bs (i + 1) U w1 := fun w1 HB HG1 =>
            ⟨HU.out, by omega, HN.out, by have := HB.out; rw [show (((p + i : Nat) : Int) + 1) = ((p + (i + 1) : Nat) : Int) from by omega] at this; exact this, HG.out.trans HG1.out⟩
          have KEY := Lib.hid key
          clear key
          rcases hcase with ⟨t1, t2, t3, t4⟩ | ⟨t1, t2, t3, t4⟩ | ⟨t1, t2, t3, t4⟩
          all_goals
            go_wp2_with fail
            refine (octet_ok r A n c (p + i) x bs _ hbk (by omega) hn hrd hx).mono ?_
            rintro e w1 ⟨rfl, hb1, hg1⟩
            have c2 := hb1.cell 2
            have f2 := hb1.frozen 2
            simp at c2
            have HB := Lib.hid hb1
            have HG1 := Lib.hid hg1
            clear hb1 hg1 hbk hx hrd
            go_wp2_with fail
            go_roundw
            case rel => exact ⟨i + 1, U, by omega, rfl, by go_num, KEY.out w1 HB HG1⟩
            case measure => simp [intOf]; omega
end Go.Proofs.YtdabmjcpiblofaaDoor
