/-
  Bytes, the program's. No condition.
-/
import Derived.Test.YtdabmjcpiblofaaDoorPkWb
import Derived.Test.YtdabmjcpiblofaaDoorPkH
namespace Go.Proofs.YtdabmjcpiblofaaDoor
open Go.RowKit
set_option linter.unusedVariables false

/-- the bytes of a node, of a pack -/
def encN (x : PN) : List Nat := encI x.1 ++ (encT x.2.1 ++ (encI (x.2.2.1.length : Int) ++ (x.2.2.1.flatMap encT ++ encL x.2.2.2)))
def encP (ns : List PN) (rs : List Int) : List Nat := encI (ns.length : Int) ++ (ns.flatMap encN ++ encL rs)
/-- bytes in a row of one's own -/
abbrev Acc (w : World) (base : Nat) (v : Value) (bs : List Nat) : Prop := w.ownsRow base 5 1 v bs.length (bs.map byt)
theorem acc_app {w : World} {base : Nat} {v : Value} {bs new : List Nat} (h : w.ownsRow base 5 1 v (bs.length + new.length) (bs.map byt ++ new.map byt)) : Acc w base v (bs ++ new) := by
  unfold Acc
  rw [List.length_append, List.map_append]; exact h
def AccPost (w : World) (base : Nat) (v : Value) (bs : List Nat) (e : Ending) (w' : World) : Prop := ∃ A c, e = .returned (.slice A bs.length c) ∧ Acc w' base (.slice A bs.length c) bs ∧ Grows w w' v (.slice A bs.length c)
theorem flat_succ {α : Type} (f : α → List Nat) {l : List α} {j : Nat} {x : α} (h : l[j]? = some x) : (l.take (j + 1)).flatMap f = (l.take j).flatMap f ++ f x := by
  rw [take_snoc' h, List.flatMap_append]; simp
theorem flat_len_le {α : Type} (f : α → List Nat) {l : List α} {j : Nat} {x : α} (h : l[j]? = some x) : ((l.take j).flatMap f).length + (f x).length ≤ (l.flatMap f).length := by
  obtain ⟨hlt, rfl⟩ := List.getElem?_eq_some_iff.1 h
  have e : l.flatMap f = (l.take j).flatMap f ++ (f l[j] ++ (l.drop (j + 1)).flatMap f) := by
    rw [← List.flatMap_cons (f := f), ← List.flatMap_append, ← List.drop_eq_getElem_cons hlt, List.take_append_drop]
  rw [e, List.length_append, List.length_append]; omega
theorem own_none {w : World} {base : Nat} : Acc w base (.slice none 0 0) [] := ⟨rfl, .inl ⟨rfl, rfl⟩⟩

set_option maxRecDepth 100000 in
set_option maxHeartbeats 1600000 in
theorem appendInts_any (base : Nat) (A1 : Option Addr) (c1 : Nat) (bs : List Nat) (A : Option Addr) (c B : Nat) (l : List Int) (w : World) (hacc : Acc w base (.slice A1 bs.length c1) bs) (hbase : base ≤ w.heap.size) (hr : Reads w B 1 A l.length (l.map (Value.int .i64))) (hB : B ≤ base) (hl : ∀ x ∈ l, inI64 x) (hll : l.length ≤ 1000000) (hsz : bs.length + (encL l).length ≤ 800000000) :
    Calls Tryd.prog 53 #[.slice A1 bs.length c1, .slice A l.length c] w (AccPost w base (.slice A1 bs.length c1) (bs ++ encL l)) := by
  obtain ⟨i0, hi, hz0, hz1, hz2⟩ := info_parts u8_info
  obtain ⟨n, hn⟩ : ∃ n, l.length = n := ⟨_, rfl⟩
  have hel : (encL l).length = (encI (n : Int)).length + (l.flatMap encI).length := by unfold encL; rw [List.length_append, hn]
  rw [hn] at hr hll ⊢
  have hlen := encI_nat (n := n) (by omega)
  have HC := Lib.hid (int_any none 0 0 [] (n : Int) w (by omega) Reads.none_ (by omega) (by omega))
  have HI := Lib.hid hi
  have HZ0 := Lib.hid hz0
  have HZ1 := Lib.hid hz1
  have HZ2 := Lib.hid hz2
  have HA := Lib.hid hacc
  have HR := Lib.hid hr
  have HN := Lib.hid hn
  have HL := Lib.hid hl
  have HEL := Lib.hid hel
  have hbg := own_from hacc
  have hbl := own_lt hacc
  clear hi hz0 hz1 hz2 hacc hr hn hl hel
  go_enter Tryd.func53, Tryd.ntmps53
  go_wp2_with fail
  refine (HC.out).mono ?_
  rintro e w1 ⟨v1, rfl, hown1, hb1⟩
  obtain ⟨A2, c2, rfl, hr2⟩ := new_reads hown1
  rw [List.nil_append] at hr2 ⊢
  have HA1 : Hid (Acc w1 base (.slice A1 bs.length c1) bs) := owns_below HA.out hb1 hbl
  have HB1 := Lib.hid hb1
  have HR2 := Lib.hid hr2
  have hz1' := hb1.size
  have hsz2 := HEL.out
  rw [hsz2] at hsz
  clear hown1 hb1 hr2 hsz2 HC
  go_wp2_with (at_builtin; refine wpList_append_row _ rfl (.tmp 7) (.tmp 10) 54 54 rfl base 5 i0 (.int .u8 0) 1 1 Tryd.underlying54 HI.out HZ0.out HZ1.out HZ2.out rfl (by decide) (.slice A1 bs.length c1) bs.length (bs.map byt) rfl HA1.out (.slice A2 (encI (n : Int)).length c2) (encI (n : Int)).length ((encI (n : Int)).map byt) rfl (src_reads _ Tryd.underlying54 c2 HR2.out (byt_one _)) ?c1 ?c2 ?c3 ?_)
  case c1 => unfold maxLen; omega
  case c2 => omega
  case c3 => omega
  intro v2 w2 hown2 hg2
  obtain ⟨A3, c3, rfl, -, -⟩ := reads_of_owns hown2
  obtain ⟨p0, hp0⟩ : ∃ p0, bs ++ encI (n : Int) = p0 := ⟨_, rfl⟩
  have hl0 : bs.length + (encI (n : Int)).length = p0.length := by rw [← hp0, List.length_append]
  have hown3 : Acc w2 base (.slice A3 p0.length c3) p0 := by rw [← hp0]; rw [← hp0, List.length_append] at *; exact acc_app hown2
  rw [hl0]
  rw [hl0] at hg2
  have HG2 : Hid (Grows w w2 (.slice A1 bs.length c1) (.slice A3 p0.length c3)) := (Grows.of_below _ HB1.out).trans hg2
  have HA3 := Lib.hid hown3
  have HP0 := Lib.hid hp0
  have hb2 : base ≤ w2.heap.size := by have := HG2.out.size; omega
  clear hown2 hg2 hown3 hp0
  go_wp2_with fail
  go_loopw [0, 14] (fun b i wr => ∃ (j : Nat) (A' : Option Addr) (c' : Nat) (pre : List Nat), j ≤ n ∧ i = .int .i64 (j : Int) ∧ b = .slice A' pre.length c' ∧ Hid (pre = p0 ++ (l.take j).flatMap encI) ∧ Hid (Acc wr base (.slice A' pre.length c') pre) ∧ Hid (Grows w wr (.slice A1 bs.length c1) (.slice A' pre.length c'))) (fun _ i _ => n - (intOf i).toNat)
  case atStart => exact ⟨0, A3, c3, p0, by omega, rfl, rfl, (by show p0 = _; simp), HA3, HG2⟩
  case round =>
    obtain ⟨j, A', c', pre, hj, rfl, rfl, HP, HAC, HG⟩ := hrel
    have hbr := HG.out.size
    by_cases hlt : j < n
    · obtain ⟨x, hx⟩ : ∃ x, l[j]? = some x := ⟨_, List.getElem?_eq_getElem (by rw [HN.out]; exact hlt)⟩
      obtain ⟨b1, o1, u1, rfl, -, hu1, g1⟩ := ((HR.out.grown HG.out.grown (by omega) (fun g hg => by have := hbg g hg; omega))).at1 hlt
      obtain rfl : u1 = .int .i64 x := by rw [List.getElem?_map, hx] at hu1; simpa using hu1.symm
      have hxl := HL.out x (List.mem_of_getElem? hx)
      have hxe := encI_len' hxl
      have HC := Lib.hid (int_any none 0 0 [] x wr (by omega) Reads.none_ hxl.1 hxl.2)
      have hle := flat_len_le encI hx
      have hpl : pre.length = p0.length + ((l.take j).flatMap encI).length := by rw [HP.out, List.length_append]
      have hb3 : pre.length + (encI x).length ≤ 800000000 := by omega
      have HNX : Hid (pre ++ encI x = p0 ++ (l.take (j + 1)).flatMap encI) := by
        unfold Hid
        rw [HP.out, flat_succ encI hx, List.append_assoc]
      clear hx hu1 hxl hle hpl hl0
      go_wp2_with fail
      refine (HC.out).mono ?_
      rintro e w3 ⟨v3, rfl, hown3, hb3'⟩
      obtain ⟨A4, c4, rfl, hr4⟩ := new_reads hown3
      rw [List.nil_append] at hr4 ⊢
      have HA4 : Hid (Acc w3 base (.slice A' pre.length c') pre) := owns_below HAC.out hb3' (own_lt HAC.out)
      have HB4 := Lib.hid hb3'
      have HR4 := Lib.hid hr4
      have hz3 := hb3'.size
      clear hown3 hb3' hr4 HC
      go_wp2_with (at_builtin; refine wpList_append_row _ rfl (.tmp 18) (.tmp 20) 54 54 rfl base 5 i0 (.int .u8 0) 1 1 Tryd.underlying54 HI.out HZ0.out HZ1.out HZ2.out rfl (by decide) (.slice A' pre.length c') pre.length (pre.map byt) rfl HA4.out (.slice A4 (encI x).length c4) (encI x).length ((encI x).map byt) rfl (src_reads _ Tryd.underlying54 c4 HR4.out (byt_one _)) ?c1 ?c2 ?c3 ?_)
      case c1 => unfold maxLen; omega
      case c2 => omega
      case c3 => omega
      intro v5 w5 hown5 hg5
      obtain ⟨A5, c5, rfl, -, -⟩ := reads_of_owns hown5
      obtain ⟨p5, hp5⟩ : ∃ p5, pre ++ encI x = p5 := ⟨_, rfl⟩
      have hl5 : pre.length + (encI x).length = p5.length := by rw [← hp5, List.length_append]
      have hac5 := acc_app hown5
      rw [hp5] at hac5
      rw [hl5] at hg5 hac5 ⊢
      have HG5 : Hid (Grows w w5 (.slice A1 bs.length c1) (.slice A5 p5.length c5)) := HG.out.trans ((Grows.of_below _ HB4.out).trans hg5)
      have HA5 := Lib.hid hac5
      have HP5 : Hid (p5 = p0 ++ (l.take (j + 1)).flatMap encI) := by rw [← hp5]; exact HNX
      clear hown5 hg5 hac5 hp5 hl5
      go_wp2_with fail
      go_roundw
      case rel => exact ⟨j + 1, A5, c5, p5, by omega, by go_num, rfl, HP5, HA5, HG5⟩
      case measure => simp [intOf]; omega
    · have HE : Hid (pre = bs ++ encL l) := by
        unfold Hid
        rw [HP.out, ← HP0.out, List.take_of_length_le (by rw [HN.out]; omega)]
        unfold encL
        rw [HN.out, List.append_assoc]
      have HE2 : Hid (AccPost w base (.slice A1 bs.length c1) (bs ++ encL l) (.returned (.slice A' pre.length c')) wr) := ⟨A', c', by rw [HE.out], by rw [← HE.out]; exact HAC.out, by rw [← HE.out]; exact HG.out⟩
      go_wp2_with fail
      go_ret
      exact HE2.out
end Go.Proofs.YtdabmjcpiblofaaDoor
