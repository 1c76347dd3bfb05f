/-
  The texts of leads and of kids, by which a pack knows its nodes. No condition.
-/
import Derived.Test.YtdabmjcpiblofaaDoorPkA
namespace Go.Proofs.YtdabmjcpiblofaaDoor
open Go.RowKit
set_option linter.unusedVariables false

/-- it only makes memory -/
def Ret (w : World) (v : Value) (e : Ending) (w' : World) : Prop := e = .returned v ∧ Below w.heap.size w w'
def leadK (s : ByteArray) : List UInt8 := Lib.itoa (s.size : Int) ++ [58] ++ s.data.toList
def leadsK (ls : List ByteArray) : List UInt8 := ls.flatMap leadK
def kidK (n : Int) : List UInt8 := Lib.itoa n ++ [44]
def kidsK (ns : List Int) : List UInt8 := ns.flatMap kidK
theorem builder_below {w w' : World} {B b : Nat} {p : Value} {bs : List Value} (h : Lib.BuilderAt 111 5 B b p bs w) (hb : Below w.heap.size w w') : Lib.BuilderAt 111 5 B b p bs w' := by
  have hlt := h.lt
  obtain ⟨hB, v, hbk, hown, hne⟩ := h
  exact ⟨hB, v, (hb.block b hlt).trans hbk, owns_below hown hb (own_lt hown), hne⟩
theorem isB_below {w w' : World} {B b : Nat} {bs : List Value} (h : IsB B b bs w) (hb : Below w.heap.size w w') : IsB B b bs w' := by
  rcases h with h | h
  · exact .inl (builder_below h hb)
  · exact .inr (builder_below h hb)
theorem bc_app (a b : List UInt8) : Lib.byteCells a ++ Lib.byteCells b = Lib.byteCells (a ++ b) := by simp [Lib.byteCells]
theorem bc_str (s : ByteArray) : Lib.strCells s = Lib.byteCells s.data.toList := rfl
theorem leadsK_succ {ls : List ByteArray} {j : Nat} {s : ByteArray} (h : ls[j]? = some s) : leadsK (ls.take (j + 1)) = leadsK (ls.take j) ++ leadK s := by
  unfold leadsK
  rw [List.take_add_one, h]
  simp
theorem leadsK_le (ls : List ByteArray) (j : Nat) : (leadsK (ls.take j)).length ≤ (leadsK ls).length := by
  have e : leadsK ls = leadsK (ls.take j) ++ leadsK (ls.drop j) := by
    unfold leadsK
    rw [← List.flatMap_append, List.take_append_drop]
  rw [e, List.length_append]; omega
theorem kidsK_succ {ls : List Int} {j : Nat} {s : Int} (h : ls[j]? = some s) : kidsK (ls.take (j + 1)) = kidsK (ls.take j) ++ kidK s := by
  unfold kidsK
  rw [List.take_add_one, h]
  simp
theorem kidsK_le (ls : List Int) (j : Nat) : (kidsK (ls.take j)).length ≤ (kidsK ls).length := by
  have e : kidsK ls = kidsK (ls.take j) ++ kidsK (ls.drop j) := by
    unfold kidsK
    rw [← List.flatMap_append, List.take_append_drop]
  rw [e, List.length_append]; omega
theorem decI_size (n : Int) : (decI n).size = (Lib.itoa n).length := by
  show (Lib.itoa n).toArray.size = _
  simp
theorem bc_len (l : List UInt8) : (Lib.byteCells l).length = l.length := by simp [Lib.byteCells]
theorem ba_size (s : ByteArray) : s.size = s.data.toList.length := by rw [Array.length_toList]; rfl
theorem leadK_len (s : ByteArray) : (leadK s).length = (Lib.itoa (s.size : Int)).length + 1 + s.size := by
  unfold leadK
  rw [List.length_append, List.length_append, List.length_singleton, ba_size s]
theorem kidK_len (n : Int) : (kidK n).length = (Lib.itoa n).length + 1 := by
  unfold kidK
  rw [List.length_append, List.length_singleton]

set_option maxHeartbeats 2000000 in
set_option maxRecDepth 100000 in
theorem leadsKey_any (A : Option Addr) (c B : Nat) (ls : List ByteArray) (w : World) (hr : Reads w B 1 A ls.length (ls.map Value.string)) (hB : B ≤ w.heap.size) (hlen : (leadsK ls).length ≤ 140737488355328) (hll : ls.length ≤ 140737488351232) (ht : Tab w) :
    Calls Tryd.prog 62 #[.slice A ls.length c] w (Ret w (.string ⟨(leadsK ls).toArray⟩)) := by
  obtain ⟨n, hn⟩ : ∃ n, ls.length = n := ⟨_, rfl⟩
  rw [hn] at hr hll ⊢
  have HR := Lib.hid hr
  have HN := Lib.hid hn
  have HT := Lib.hid ht
  have HLEN := Lib.hid hlen
  clear hr hn ht hlen
  go_enter Tryd.func62, Tryd.ntmps62
  go_wp2_with fail
  go_loopw [8] (fun i wr => ∃ j : Nat, j ≤ n ∧ i = .int .i64 (j : Int) ∧ Hid (IsB w.heap.size w.heap.size (Lib.byteCells (leadsK (ls.take j))) wr) ∧ Hid (Below w.heap.size w wr)) (fun i _ => n - (intOf i).toNat)
  case atStart => exact ⟨0, by omega, rfl, by show IsB _ _ _ _; rw [List.take_zero]; exact Lib.fresh_isBuilder 111 5 w, (Below.refl _ w).alloc (Nat.le_refl _) _⟩
  case round =>
    obtain ⟨j, hj, rfl, HS, HB⟩ := hrel
    have hz := HB.out.size
    by_cases hlt : j < n
    · obtain ⟨s, hs⟩ : ∃ s, ls[j]? = some s := ⟨_, List.getElem?_eq_getElem (by rw [HN.out]; exact hlt)⟩
      obtain ⟨b1, o1, u1, rfl, hb1, hu1, g1⟩ := ((HR.out.more hB).below HB.out).at1 hlt
      obtain rfl : u1 = Value.string s := by rw [List.getElem?_map, hs] at hu1; simpa using hu1.symm
      have hle := leadsK_le ls (j + 1)
      rw [leadsK_succ hs] at hle
      have hle0 := HLEN.out
      have hsz : s.size ≤ 140737488355328 := by
        rw [List.length_append, leadK_len] at hle
        omega
      have HK := Lib.hid (leadsK_succ hs)
      rw [List.length_append, leadK_len] at hle
      have HLE := Lib.hid hle
      have HI := Lib.hid (itoa_any (s.size : Int) wr (by omega) (by omega) (HT.out.below HB.out))
      clear hs hu1 hb1 hle
      go_wp2_with fail
      refine (HI.out).mono ?_
      rintro e w1 ⟨rfl, hb1⟩
      have hz1 := hb1.size
      have HW1 := Lib.hid (writeString_any _ _ _ (decI (s.size : Int)) w1 (isB_below HS.out hb1) (by have := HLE.out; rw [bc_len, decI_size]; omega) (by omega))
      have HB1 : Hid (Below w.heap.size w w1) := HB.out.trans (hb1.mono hz)
      clear hb1 HI HS
      go_wp2_with fail
      refine (HW1.out).mono ?_
      rintro e w2 ⟨rfl, hs2, hb2⟩
      have hz2 := hb2.size
      have HW2 := Lib.hid (writeByte_any _ _ _ 58 w2 hs2 (by have := HLE.out; rw [List.length_append, bc_len, Lib.strCells_length, decI_size]; omega) (by omega))
      have HB2 : Hid (Below w.heap.size w w2) := HB1.out.trans hb2
      clear hb2 hs2 HW1 HB1
      go_wp2_with fail
      refine (HW2.out).mono ?_
      rintro e w3 ⟨rfl, hs3, hb3⟩
      have hz3 := hb3.size
      have HW3 := Lib.hid (writeString_any _ _ _ s w3 hs3 (by have := HLE.out; rw [List.length_append, List.length_append, bc_len, Lib.strCells_length, decI_size, List.length_singleton]; omega) (by omega))
      have HB3 : Hid (Below w.heap.size w w3) := HB2.out.trans hb3
      clear hb3 hs3 HW2 HB2
      go_wp2_with fail
      refine (HW3.out).mono ?_
      rintro e w4 ⟨rfl, hs4, hb4⟩
      have HB4 : Hid (Below w.heap.size w w4) := HB3.out.trans hb4
      have HS4 : Hid (IsB w.heap.size w.heap.size (Lib.byteCells (leadsK (ls.take (j + 1)))) w4) := by
        show IsB _ _ _ _
        rw [HK.out]
        have e : Lib.byteCells (leadsK (ls.take j) ++ leadK s) = Lib.byteCells (leadsK (ls.take j)) ++ Lib.strCells (decI (s.size : Int)) ++ [Value.int .u8 58] ++ Lib.strCells s := by
          rw [bc_str, bc_str]
          have e58 : [Value.int .u8 58] = Lib.byteCells [58] := rfl
          rw [e58, bc_app, bc_app, bc_app]
          unfold leadK
          simp only [List.append_assoc]
          rfl
        rw [e]
        exact hs4
      clear hb4 hs4 HW3 HB3
      go_wp2_with fail
      go_roundw
      case rel => exact ⟨j + 1, by omega, by go_num, HS4, HB4⟩
      case measure => simp [intOf] <;> omega
    · have HE : Hid (ls.take j = ls) := by show _ = _; rw [List.take_of_length_le (by rw [HN.out]; omega)]
      have hs := HS.out
      rw [HE.out] at hs
      have HC := Lib.hid (Tryd.Builder_String_any w.heap.size w.heap.size (leadsK ls) wr hs hz)
      clear hs HS
      go_wp2_with fail
      refine (HC.out).mono ?_
      rintro e w1 ⟨rfl, hb1⟩
      have HB1 : Hid (Below w.heap.size w w1) := HB.out.trans hb1
      clear hb1
      go_wp2_with fail
      go_ret
      exact ⟨rfl, HB1.out⟩

set_option maxHeartbeats 2000000 in
set_option maxRecDepth 100000 in
theorem kidsKey_any (A : Option Addr) (c B : Nat) (ls : List Int) (w : World) (hr : Reads w B 1 A ls.length (ls.map (Value.int .i64))) (hB : B ≤ w.heap.size) (hlen : (kidsK ls).length ≤ 140737488355328) (hll : ls.length ≤ 140737488351232) (hi : ∀ x ∈ ls, -9223372036854775808 ≤ x ∧ x ≤ 9223372036854775807) (ht : Tab w) :
    Calls Tryd.prog 63 #[.slice A ls.length c] w (Ret w (.string ⟨(kidsK ls).toArray⟩)) := by
  obtain ⟨n, hn⟩ : ∃ n, ls.length = n := ⟨_, rfl⟩
  rw [hn] at hr hll ⊢
  have HR := Lib.hid hr
  have HN := Lib.hid hn
  have HT := Lib.hid ht
  have HLEN := Lib.hid hlen
  have HII := Lib.hid hi
  clear hr hn ht hlen hi
  go_enter Tryd.func63, Tryd.ntmps63
  go_wp2_with fail
  go_loopw [8] (fun i wr => ∃ j : Nat, j ≤ n ∧ i = .int .i64 (j : Int) ∧ Hid (IsB w.heap.size w.heap.size (Lib.byteCells (kidsK (ls.take j))) wr) ∧ Hid (Below w.heap.size w wr)) (fun i _ => n - (intOf i).toNat)
  case atStart => exact ⟨0, by omega, rfl, by show IsB _ _ _ _; rw [List.take_zero]; exact Lib.fresh_isBuilder 111 5 w, (Below.refl _ w).alloc (Nat.le_refl _) _⟩
  case round =>
    obtain ⟨j, hj, rfl, HS, HB⟩ := hrel
    have hz := HB.out.size
    by_cases hlt : j < n
    · obtain ⟨s, hs⟩ : ∃ s, ls[j]? = some s := ⟨_, List.getElem?_eq_getElem (by rw [HN.out]; exact hlt)⟩
      obtain ⟨b1, o1, u1, rfl, hb1, hu1, g1⟩ := ((HR.out.more hB).below HB.out).at1 hlt
      obtain rfl : u1 = Value.int .i64 s := by rw [List.getElem?_map, hs] at hu1; simpa using hu1.symm
      have hle := kidsK_le ls (j + 1)
      rw [kidsK_succ hs] at hle
      have hle0 := HLEN.out
      have hin := HII.out s (List.mem_of_getElem? hs)
      have HK := Lib.hid (kidsK_succ hs)
      rw [List.length_append, kidK_len] at hle
      have HLE := Lib.hid hle
      have HI := Lib.hid (itoa_any s wr hin.1 hin.2 (HT.out.below HB.out))
      clear hs hu1 hb1 hle
      go_wp2_with fail
      refine (HI.out).mono ?_
      rintro e w1 ⟨rfl, hb1⟩
      have hz1 := hb1.size
      have HW1 := Lib.hid (writeString_any _ _ _ (decI s) w1 (isB_below HS.out hb1) (by have := HLE.out; rw [bc_len, decI_size]; omega) (by omega))
      have HB1 : Hid (Below w.heap.size w w1) := HB.out.trans (hb1.mono hz)
      clear hb1 HI HS
      go_wp2_with fail
      refine (HW1.out).mono ?_
      rintro e w2 ⟨rfl, hs2, hb2⟩
      have hz2 := hb2.size
      have HW2 := Lib.hid (writeByte_any _ _ _ 44 w2 hs2 (by have := HLE.out; rw [List.length_append, bc_len, Lib.strCells_length, decI_size]; omega) (by omega))
      have HB2 : Hid (Below w.heap.size w w2) := HB1.out.trans hb2
      clear hb2 hs2 HW1 HB1
      go_wp2_with fail
      refine (HW2.out).mono ?_
      rintro e w4 ⟨rfl, hs4, hb4⟩
      have HB4 : Hid (Below w.heap.size w w4) := HB2.out.trans hb4
      have HS4 : Hid (IsB w.heap.size w.heap.size (Lib.byteCells (kidsK (ls.take (j + 1)))) w4) := by
        show IsB _ _ _ _
        rw [HK.out]
        have e : Lib.byteCells (kidsK (ls.take j) ++ kidK s) = Lib.byteCells (kidsK (ls.take j)) ++ Lib.strCells (decI s) ++ [Value.int .u8 44] := by
          rw [bc_str]
          have e44 : [Value.int .u8 44] = Lib.byteCells [44] := rfl
          rw [e44, bc_app, bc_app]
          unfold kidK
          simp only [List.append_assoc]
          rfl
        rw [e]
        exact hs4
      clear hb4 hs4 HW2 HB2
      go_wp2_with fail
      go_roundw
      case rel => exact ⟨j + 1, by omega, by go_num, HS4, HB4⟩
      case measure => simp [intOf] <;> omega
    · have HE : Hid (ls.take j = ls) := by show _ = _; rw [List.take_of_length_le (by rw [HN.out]; omega)]
      have hs := HS.out
      rw [HE.out] at hs
      have HC := Lib.hid (Tryd.Builder_String_any w.heap.size w.heap.size (kidsK ls) wr hs hz)
      clear hs HS
      go_wp2_with fail
      refine (HC.out).mono ?_
      rintro e w1 ⟨rfl, hb1⟩
      have HB1 : Hid (Below w.heap.size w w1) := HB.out.trans hb1
      clear hb1
      go_wp2_with fail
      go_ret
      exact ⟨rfl, HB1.out⟩
end Go.Proofs.YtdabmjcpiblofaaDoor
