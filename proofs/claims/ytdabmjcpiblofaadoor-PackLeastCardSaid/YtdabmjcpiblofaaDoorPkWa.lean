/-
  Bytes that are written: numbers and texts, the program's and the reference's. No condition.
-/
import Derived.Test.YtdabmjcpiblofaaDoorGet
import Derived.Test.YtdabmjcpiblofaaDoorRow
namespace Go.Proofs.YtdabmjcpiblofaaDoor
open Go.RowKit
set_option linter.unusedVariables false

/-- the bytes of a text -/
def txt (s : ByteArray) : List Nat := s.data.toList.map UInt8.toNat
theorem txt_len (s : ByteArray) : (txt s).length = s.size := by unfold txt; rw [List.length_map, Array.length_toList]; rfl
theorem txt_byte (s : ByteArray) : ∀ x ∈ txt s, x < 256 := fun x hx => by
  obtain ⟨b, _, rfl⟩ := List.mem_map.1 hx
  exact UInt8.toNat_lt b
theorem txt_cells (s : ByteArray) : byteCells s = (txt s).map byt := by unfold byteCells txt; rw [List.map_map]; rfl

def inI64 (n : Int) : Prop := -9223372036854775808 ≤ n ∧ n ≤ 9223372036854775807
def encT (s : ByteArray) : List Nat := encI s.size ++ txt s
def encL (l : List Int) : List Nat := encI l.length ++ l.flatMap encI
theorem encI_len' {n : Int} (h : inI64 n) : (encI n).length ≤ 10 := encI_len h.1 h.2
theorem encI_nat {n : Nat} (h : n ≤ 1000000000) : (encI (n : Int)).length ≤ 10 := encI_len (by omega) (by omega)
theorem encT_len {s : ByteArray} (h : s.size ≤ 1000000000) : (encT s).length ≤ 10 + s.size := by
  unfold encT; rw [List.length_append, txt_len]; have := encI_nat h; omega
theorem flatI_len {l : List Int} (h : ∀ x ∈ l, inI64 x) : (l.flatMap encI).length ≤ 10 * l.length := by
  induction l with
  | nil => simp
  | cons x l ih =>
    simp only [List.flatMap_cons, List.length_append, List.length_cons]
    have h1 := encI_len' (h x (by simp))
    have h2 := ih (fun y hy => h y (by simp [hy]))
    omega
theorem encL_len {l : List Int} (h : ∀ x ∈ l, inI64 x) (hl : l.length ≤ 1000000000) : (encL l).length ≤ 10 + 10 * l.length := by
  unfold encL; rw [List.length_append]; have := encI_nat hl; have := flatI_len h; omega
/-- the call returns new bytes -/
def New (w : World) (bs : List Nat) (e : Ending) (w' : World) : Prop :=
  ∃ v, e = .returned v ∧ w'.ownsRow w.heap.size 5 1 v bs.length (bs.map byt) ∧ Below w.heap.size w w'

theorem owns_empty (w : World) (e t : TypeId) : (w.alloc (.cells #[] e)).ownsRow w.heap.size e 1 (.slice (some ⟨w.heap.size, 0, none⟩) 0 0) 0 [] :=
  World.ownsRow_made w #[] 0 (Nat.le_refl _) (by unfold maxLen; omega) (by simp)

set_option maxRecDepth 100000 in
set_option maxHeartbeats 400000 in
theorem cloneB_any (A : Option Addr) (n c : Nat) (bs : List Nat) (w : World) (hn : n ≤ 1000000000) (hr : Reads w w.heap.size 1 A n (bs.map byt)) :
    Calls Tryd.prog 70 #[.slice A n c] w (New w bs) := by
  obtain ⟨i0, hi, hz0, hz1, hz2⟩ := info_parts u8_info
  have hl : bs.length = n := by have := hr.1; simpa using this
  have hnil := fun W => Lib.run_eql_slice_nil (P := Tryd.prog) W 54 5 A n c 0 0 Tryd.underlying54
  rcases A with _ | ad
  · have h0 : n = 0 := by
      rcases Nat.eq_zero_or_pos n with h | h
      · exact h
      · obtain ⟨_, h, _⟩ := hr.2 h; cases h
    subst h0
    obtain rfl : bs = [] := List.eq_nil_of_length_eq_zero hl
    clear hl
    go_enter Tryd.func70, Tryd.ntmps70
    go_wp2_with fail
    go_ret
    exact ⟨_, rfl, World.ownsRow_nil _ _ _ _, Below.refl _ _⟩
  · have hsrc : Src Tryd.prog 1 54 (.slice (some ad) n c) n (bs.map byt) (w.alloc (.cells #[] 5)) := src_reads _ Tryd.underlying54 c (hr.alloc (Nat.le_refl _) _) (byt_one bs)
    have HS := Lib.hid hsrc
    have HL := Lib.hid hl
    clear hr hsrc hl
    go_enter Tryd.func70, Tryd.ntmps70
    go_wp2_with (at_builtin; refine wpList_append_row _ rfl (.tmp 5) (.tmp 6) 54 54 rfl w.heap.size 5 i0 (.int .u8 0) 1 1 Tryd.underlying54 hi hz0 hz1 hz2 rfl (by decide) _ _ _ rfl (owns_empty w 5 54) _ n (bs.map byt) rfl HS.out ?c2 ?c3 ?c4 ?_)
    case c2 => unfold maxLen; omega
    case c3 => omega
    case c4 => simp
    intro v2 w2 hown2 hg2
    have R : New w bs (.returned v2) w2 := ⟨v2, rfl, by rw [HL.out]; simpa using hown2, ((Below.refl _ w).alloc (Nat.le_refl _) _).trans (hg2.below (by simp) (fun g hg => by simp [Value.ownBlock] at hg; omega))⟩
    clear hown2 hg2
    go_wp2_with fail
    go_ret
    exact R

theorem put_new {w w1 w2 : World} {v : Value} {bs new : List Nat} {e : Ending} (hb : Below w.heap.size w w1) (hown : w1.ownsRow w.heap.size 5 1 v bs.length (bs.map byt)) (h : Put w.heap.size bs.length v (bs.map byt) w1 new e w2) : New w (bs ++ new) e w2 := by
  obtain ⟨v', rfl, hown', hg⟩ := h
  exact ⟨v', rfl, by rw [List.length_append, List.map_append]; exact hown', hb.trans (hg.below hb.size (fun g h => (hown.lt g h).1))⟩

set_option maxRecDepth 100000 in
set_option maxHeartbeats 400000 in
theorem int_any (A : Option Addr) (n c : Nat) (bs : List Nat) (z : Int) (w : World) (hn : n ≤ 1000000000) (hr : Reads w w.heap.size 1 A n (bs.map byt)) (hz1 : -9223372036854775808 ≤ z) (hz2 : z ≤ 9223372036854775807) :
    Calls Tryd.prog 51 #[.slice A n c, .int .i64 z] w (New w (bs ++ encI z)) := by
  have hl : bs.length = n := by have := hr.1; simpa using this
  have HL := Lib.hid hl
  have HC := Lib.hid (cloneB_any A n c bs w hn hr)
  clear hl hr
  go_enter Tryd.func51, Tryd.ntmps51
  go_wp2_with fail
  refine (HC.out).mono ?_
  rintro e w1 ⟨v1, rfl, hown1, hb1⟩
  have hsz := hb1.size
  have HP := Lib.hid (putInt_any w.heap.size bs.length v1 (bs.map byt) z w1 hown1 hsz (by rw [HL.out]; exact hn) hz1 hz2)
  have HO := Lib.hid hown1
  have HB := Lib.hid hb1
  clear hown1 hb1 HC
  go_wp2_with fail
  refine (HP.out).mono ?_
  intro e w2 h
  have R := put_new HB.out HO.out h
  obtain ⟨v', rfl, -, -⟩ := h
  go_wp2_with fail
  go_ret
  exact R

set_option maxRecDepth 100000 in
set_option maxHeartbeats 400000 in
theorem refInt_any (A : Option Addr) (n c : Nat) (bs : List Nat) (z : Int) (w : World) (hn : n ≤ 1000000000) (hr : Reads w w.heap.size 1 A n (bs.map byt)) (hz1 : -9223372036854775808 ≤ z) (hz2 : z ≤ 9223372036854775807) :
    Calls Tryd.prog 54 #[.slice A n c, .int .i64 z] w (New w (bs ++ encI z)) := by
  obtain ⟨i0, hi, hi0, hi1, hi2⟩ := info_parts u8_info
  have hl : bs.length = n := by have := hr.1; simpa using this
  have hlen := encI_len hz1 hz2
  obtain ⟨all, ha0⟩ : ∃ all, all = encI z := ⟨_, rfl⟩
  rw [← ha0] at hlen ⊢
  have hz : all = encU (zig z) := ha0
  have HZ := Lib.hid hz
  clear hz ha0
  have hst : ∀ v1 w1, Hid (w1.ownsRow w.heap.size 5 1 v1 n (bs.map byt)) → Hid (PutRel w.heap.size n v1 (bs.map byt) w1 all v1 (zig z) w1) := fun v1 w1 h => by rw [HZ.out]; exact PutRel.start _ h
  have HST := Lib.hid hst
  have hb1 := fun h => ref_zig z h hz1
  have hb2 := zig_pos z
  have HB1 := Lib.hid hb1
  have HZL := Lib.hid (zig_lt hz1 hz2)
  have HB2 := Lib.hid hb2
  have hsrc : Src Tryd.prog 1 54 (.slice A n c) n (bs.map byt) (w.alloc (.cells #[] 5)) := src_reads _ Tryd.underlying54 c (hr.alloc (Nat.le_refl _) _) (byt_one bs)
  have HS := Lib.hid hsrc
  have HL := Lib.hid hl
  clear hb1 hb2 hst hr hsrc hl
  by_cases hn0 : z < 0
  all_goals
    go_enter Tryd.func54, Tryd.ntmps54
    go_wp2_with (at_builtin; refine wpList_append_row _ rfl (.tmp 17) (.tmp 18) 54 54 rfl w.heap.size 5 i0 (.int .u8 0) 1 1 Tryd.underlying54 hi hi0 hi1 hi2 rfl (by decide) _ _ _ rfl (owns_empty w 5 54) _ n (bs.map byt) rfl HS.out (by unfold maxLen; omega) (by omega) (by simp) ?_)
    intro v1 w1 hown1 hg1
    have hst2 := HST.out v1 w1 (show World.ownsRow _ _ _ _ _ _ _ by simpa using hown1)
    have hbw : Below w.heap.size w w1 := ((Below.refl _ w).alloc (Nat.le_refl _) _).trans (hg1.below (by simp) (fun g hg => by simp [Value.ownBlock] at hg; omega))
    have hsz1 := hbw.size
    have HBW := Lib.hid hbw
    have ho1 : w1.ownsRow w.heap.size 5 1 v1 bs.length (bs.map byt) := by rw [HL.out]; simpa using hown1
    have HO1 := Lib.hid ho1
    clear hown1 hg1 hbw ho1
    go_wp2_with fail
    go_loopw [0, 5] (fun v' u wr => ∃ (x : Nat), Hid (x < 18446744073709551616) ∧ u = .int .u64 x ∧ PutRel w.heap.size n v1 (bs.map byt) w1 all v' x wr) (fun _ i _ => (intOf i).toNat)
    case atStart => exact ⟨zig z, HZL, by first | rw [HB1.out hn0] | rw [HB2.out hn0], hst2⟩
    case round =>
      obtain ⟨x, HXL, rfl, pre, ha, hown1, hg⟩ := hrel
      have hq := quo128 HXL.out
      have HX2 := Lib.hid (show x / 128 < 18446744073709551616 from by have := HXL.out; omega)
      have hl10 := le10 ha hlen
      have hsz := hg.size
      have HA := Lib.hid ha
      clear ha hz1 hz2
      by_cases hlt : 128 ≤ x
      · go_wp2_with (at_builtin; refine wpList_append_row _ rfl (.tmp 22) (.tmp 27) 54 54 rfl w.heap.size 5 i0 (.int .u8 0) 1 1 Tryd.underlying54 hi hi0 hi1 hi2 rfl (by decide) _ _ _ rfl (hown1.alloc _) _ 1 _ rfl (src_new _ Tryd.underlying54 [_] 1 1 1 5 rfl (fun u hu => by simp at hu; subst hu; rfl)) (by unfold maxLen; omega) (by omega) (by simp; omega) ?_)
        intro v2 w2 hown2 hg2
        have R := PutRel.step HA.out hg hlt hown2 hg2
        clear hown2 hg2 hown1
        go_wp2_with fail
        go_roundw
        case rel => exact ⟨x / 128, HX2, by go_num, R⟩
        case measure => simp [intOf]; omega
      · go_wp2_with (at_builtin; refine wpList_append_row _ rfl (.tmp 31) (.tmp 34) 54 54 rfl w.heap.size 5 i0 (.int .u8 0) 1 1 Tryd.underlying54 hi hi0 hi1 hi2 rfl (by decide) _ _ _ rfl (hown1.alloc _) _ 1 _ rfl (src_new _ Tryd.underlying54 [_] 1 1 1 5 rfl (fun u hu => by simp at hu; subst hu; rfl)) (by unfold maxLen; omega) (by omega) (by simp; omega) ?_)
        intro v2 w2 hown2 hg2
        have R := PutRel.done HA.out hg hlt hown2 hg2
        have R2 := put_new HBW.out HO1.out (by rw [HL.out]; exact R)
        clear hown2 hg2 hown1
        go_wp2_with fail
        go_ret
        exact R2


def St (base k : Nat) (v : Value) (xs : List Value) (w : World) (pre : List Nat) (v' : Value) (w' : World) : Prop :=
  w'.ownsRow base 5 1 v' (k + pre.length) (xs ++ pre.map byt) ∧ Grows w w' v v'

theorem St.start {base k : Nat} {v : Value} {xs : List Value} {w : World} (h : w.ownsRow base 5 1 v k xs) : St base k v xs w [] v w := ⟨by simpa using h, Grows.refl w v⟩
theorem St.put {base k : Nat} {v : Value} {xs : List Value} {w w1 w2 : World} {pre new : List Nat} {v1 : Value} {e : Ending} (h : St base k v xs w pre v1 w1) (hp : Put base (k + pre.length) v1 (xs ++ pre.map byt) w1 new e w2) :
    ∃ v2, e = .returned v2 ∧ St base k v xs w (pre ++ new) v2 w2 ∧ Grows w1 w2 v1 v2 := by
  obtain ⟨v2, rfl, hown, hg⟩ := hp
  exact ⟨v2, rfl, ⟨by rw [List.length_append, List.map_append, ← List.append_assoc, ← Nat.add_assoc]; exact hown, h.2.trans hg⟩, hg⟩
theorem St.done {base k : Nat} {v : Value} {xs : List Value} {w w1 : World} {pre : List Nat} {v1 : Value} (h : St base k v xs w pre v1 w1) : Put base k v xs w pre (.returned v1) w1 := ⟨v1, rfl, h.1, h.2⟩
theorem St.alloc {base k : Nat} {v : Value} {xs : List Value} {w w1 : World} {pre : List Nat} {v1 : Value} (h : St base k v xs w pre v1 w1) (o : Obj) : St base k v xs w pre v1 (w1.alloc o) := ⟨h.1.alloc o, h.2.alloc o⟩

set_option maxRecDepth 100000 in
set_option maxHeartbeats 400000 in
theorem putText_any (base k : Nat) (v : Value) (xs : List Value) (s : ByteArray) (w : World) (hown : w.ownsRow base 5 1 v k xs) (hbase : base ≤ w.heap.size) (hk : k + s.size ≤ 900000000) :
    Calls Tryd.prog 71 #[v, .string s] w (Put base k v xs w (encT s)) := by
  obtain ⟨i0, hi, hi0, hi1, hi2⟩ := info_parts u8_info
  have hl := encI_nat (n := s.size) (by omega)
  have HP := Lib.hid (putInt_any base k v xs s.size w hown hbase (by omega) (by omega) (by omega))
  go_enter Tryd.func71, Tryd.ntmps71
  go_wp2_with fail
  refine (HP.out).mono ?_
  intro e w1 h
  obtain ⟨v1, rfl, hst, hg1⟩ := (St.start hown).put (by simpa using h)
  have hsz := hg1.size
  have hown1 := hst.1
  simp only [List.nil_append] at hown1
  have HST := Lib.hid hst
  have HG := Lib.hid hg1
  clear h hst hg1 hown HP
  go_wp2_with (at_builtin; refine wpList_append_row _ rfl (.tmp 8) (.tmp 9) 54 9 rfl base 5 i0 (.int .u8 0) 1 1 Tryd.underlying54 hi hi0 hi1 hi2 rfl (by decide) _ _ _ rfl hown1 _ s.size (byteCells s) rfl (Src.ofString _ Tryd.underlying9 s) ?c1 ?c2 ?c3 ?_)
  case c1 => unfold maxLen; omega
  case c2 => omega
  case c3 => omega
  intro v2 w2 hown2 hg2
  have R : Put base k v xs w (encT s) (.returned v2) w2 := by
    refine ⟨v2, rfl, ?_, HG.out.trans hg2⟩
    unfold encT
    rw [List.length_append, List.map_append, txt_len, ← txt_cells]
    simpa [Nat.add_assoc] using hown2
  clear hown2 hg2 hown1
  go_wp2_with fail
  go_ret
  exact R

theorem new_reads {w w' : World} {bs : List Nat} {v : Value} (h : w'.ownsRow w.heap.size 5 1 v bs.length (bs.map byt)) : ∃ A c, v = .slice A bs.length c ∧ Reads w' w'.heap.size 1 A bs.length (bs.map byt) := by
  obtain ⟨A, c, e, hr, _⟩ := reads_of_owns h
  exact ⟨A, c, e, hr⟩

end Go.Proofs.YtdabmjcpiblofaaDoor
