/-
  strings.Builder's writers, by walks of one's own. The texts of leads and of kids, by which a pack knows its nodes. A pack, plain: its nodes' keys differ as the nodes do. The map by which a pack knows its nodes. No condition.
-/
import Derived.Test.YtdabmjcpiblofaaDoorRow
import Derived.Test.YtdabmjcpiblofaaDoorPkOwn
import Derived.Test.YtdabmjcpiblofaaDoorPkShelf
import Derived.Lib.AppendIntMem
import Derived.WalkSmall
import Derived.Laws.Externs
import Derived.Lib.AppendStr
import Derived.Maps.Own
import Derived.Maps.OwnOps
import Derived.Maps.OwnSet
import Derived.Maps.Views
import Derived.DeepKeys4
namespace Go.Proofs.YtdabmjcpiblofaaDoor
open Go.RowKit
set_option linter.unusedVariables false

theorem gTab : Tryd.prog.globalNamed "internal/strconv.uint64pow10" = some 0 := by kernel_rfl
/-- the library's table is as its text lays it -/
def Tab (w : World) : Prop := Lib.TabIs Tryd.prog w "internal/strconv.uint64pow10" .u64 Lib.pow10Tab ∧ 0 < w.heap.size
theorem Tab.below {w w' : World} (h : Tab w) (hb : Below w.heap.size w w') : Tab w' := ⟨var?_below hb gTab h.2 h.1, Nat.lt_of_lt_of_le h.2 hb.size⟩
theorem Tab.low {w w' : World} {B : Nat} (h : Tab w) (hB : 0 < B) (hb : Below B w w') : Tab w' := ⟨var?_below hb gTab hB h.1, Nat.lt_of_lt_of_le h.2 hb.size⟩

def dec (n : Nat) : ByteArray := ⟨(Lib.decDigits n).toArray⟩
def decI (n : Int) : ByteArray := ⟨(Lib.itoa n).toArray⟩
theorem itoa_any (n : Int) (w : World) (h0 : -9223372036854775808 ≤ n) (h1 : n ≤ 9223372036854775807) (ht : Tab w) : Calls Tryd.prog 77 #[.int .i64 n] w fun e w' => e = .returned (.string (decI n)) ∧ Below w.heap.size w w' := by
  refine (Tryd.strconv_Itoa n h0 h1 w ht.1).mono ?_
  rintro e w' ⟨rfl, k, os, rfl⟩
  exact ⟨rfl, Lib.below_grow _ _ (Nat.le_refl _) _ _⟩

theorem sizeBuilder : (Tryd.prog.info? 111).map (fun i => i.size) = some 2 := by kernel_rfl
theorem infoByte : (Tryd.prog.info? 5).map (fun i => (i.zero, i.size, i.bytes)) = some (some (.int .u8 0), 1, 1) := by kernel_rfl
theorem liesBuilder : liesAt Tryd.prog Tryd.prog.depth 111 (2 / Tryd.prog.cellsOf 111) 0 111 1 = true := by kernel_rfl
abbrev IsB (B b : Nat) (bs : List Value) (w : World) : Prop := Lib.IsBuilder 111 5 B b bs w

set_option maxHeartbeats 1000000 in
set_option maxRecDepth 100000 in
theorem copyCheck_any (B b : Nat) (bs : List Value) (w : World) (h : IsB B b bs w) :
    Calls Tryd.prog 82 #[.pointer (some ⟨b, 0, none⟩)] w fun e w' => e = .returned (.tuple #[]) ∧ Lib.BuilderAt 111 5 B b (.pointer (some ⟨b, 0, none⟩)) bs w' ∧ Below B w w' := by
  obtain ⟨j, hj, hjs⟩ := Option.map_eq_some_iff.1 sizeBuilder
  rcases h with h | h
  · have h0 := h.cell0
    have hsh := h.shape
    have hfz := h.frozen0
    have e1 := Lib.run_to_unsafe (P := Tryd.prog) w ⟨b, 0, none⟩ Tryd.underlying109 Tryd.underlying124 hj (by rw [hjs]; decide) hsh (Nat.zero_lt_succ 1)
    have e3 := Lib.run_from_unsafe (P := Tryd.prog) w ⟨b, 0, none⟩ Tryd.underlying124 Tryd.underlying109 hj hsh liesBuilder
    have HE : Hid (Lib.BuilderAt 111 5 B b (.pointer (some ⟨b, 0, none⟩)) bs (w.setCell ⟨b, 0, none⟩ (.pointer (some ⟨b, 0, none⟩))) ∧ Below B w (w.setCell ⟨b, 0, none⟩ (.pointer (some ⟨b, 0, none⟩)))) := ⟨h.used _, (Below.refl B w).setCell (p := ⟨b, 0, none⟩) h.1 _⟩
    go_enter Tryd.func82, Tryd.ntmps82
    go_wp2_with fail
    rw [run_callFunc_extern Tryd.func87 (by kernel_rfl) (by kernel_rfl) (by kernel_rfl) (e := Extern.AbiNoEscape.same) (by kernel_rfl), Lib.run_noEscape]
    simp only [Result.andThen]
    rw [Oper.upon_value]
    go_wp2_with fail
    go_end0
    exact ⟨rfl, HE.out⟩
  · have h0 := h.cell0
    have e1 := Lib.run_neq_ptr_same (P := Tryd.prog) w ⟨b, 0, none⟩ Tryd.underlying109 hj
    go_enter Tryd.func82, Tryd.ntmps82
    go_wp2_with fail
    go_end0
    exact ⟨rfl, h, Below.refl B _⟩

theorem builder_alloc {w : World} {B b : Nat} {p : Value} {bs : List Value} (h : Lib.BuilderAt 111 5 B b p bs w) (o : Obj) : Lib.BuilderAt 111 5 B b p bs (w.alloc o) := by
  have hlt := h.lt
  obtain ⟨hB, v, hbk, hown, hne⟩ := h
  exact ⟨hB, v, (Below.heap_alloc w o b hlt).trans hbk, hown.alloc o, hne⟩
/-- what the writers leave -/
theorem builder_put {w w1 w2 : World} {B b : Nat} {p v v' : Value} {bs news : List Value} (h : Lib.BuilderAt 111 5 B b p bs w1) (hv : w1.cell? ⟨b, 1, none⟩ = some v) (hb : Below B w w1) (hBw : B ≤ w.heap.size) (hg : w1.grownBy w2 v.ownBlock) (ho : w2.ownsRow B 5 1 v' (bs.length + news.length) (bs ++ news)) :
    Lib.BuilderAt 111 5 B b p (bs ++ news) (w2.setCell ⟨b, 1, none⟩ v') ∧ Below B w (w2.setCell ⟨b, 1, none⟩ v') ∧ w2.cell? ⟨b, 0, none⟩ = some p ∧ w2.cell? ⟨b, 1, none⟩ = some v ∧ w2.frozen? ⟨b, 1, none⟩ = false := by
  obtain ⟨hB, v0, hbk, hown, hne⟩ := h
  obtain rfl : v0 = v := by rw [Lib.cell_of_heap hbk] at hv; simpa using hv
  have hlt : b < w1.heap.size := by
    rcases Nat.lt_or_ge b w1.heap.size with h' | h'
    · exact h'
    · simp [Array.getElem?_eq_none h'] at hbk
  have hb2 : w2.heap[b]? = some (.cells #[p, v0] 111 (0, 0)) := by
    rw [hg.block b hlt (fun e => hne e.symm)]
    exact hbk
  have hz := hb.size
  refine ⟨Lib.BuilderAt.put (T := 111) (e := 5) hB hb2 (bs' := bs ++ news) (by simpa using ho) (by decide), ?_, by rw [Lib.cell_of_heap hb2]; rfl, by rw [Lib.cell_of_heap hb2]; rfl, Lib.frozen_of_heap hb2 1⟩
  exact (hb.grown hg (by omega) (fun k hk => own_from hown k hk)).setCell (p := ⟨b, 1, none⟩) hB _

set_option maxHeartbeats 2000000 in
set_option maxRecDepth 100000 in
theorem writeByte_any (B b : Nat) (bs : List Value) (c : Int) (w : World) (h : IsB B b bs w) (hlen : bs.length + 1 ≤ 140737488355328) (hBw : B ≤ w.heap.size) :
    Calls Tryd.prog 78 #[.pointer (some ⟨b, 0, none⟩), .int .u8 c] w fun e w' => e = .returned .nilIface ∧ IsB B b (bs ++ [.int .u8 c]) w' ∧ Below B w w' := by
  obtain ⟨i0, hi, hz0, hz1, hz2⟩ := info_parts infoByte
  have HC := Lib.hid (copyCheck_any B b bs w h)
  have HI := Lib.hid hi
  have HZ0 := Lib.hid hz0
  have HZ1 := Lib.hid hz1
  have HZ2 := Lib.hid hz2
  clear h hi hz0 hz1 hz2
  go_enter Tryd.func78, Tryd.ntmps78
  go_wp2_with fail
  refine (HC.out).mono ?_
  rintro e w1 ⟨rfl, h1, hb1⟩
  obtain ⟨hB, v, hbk, hown, hne⟩ := h1
  have c0 : w1.cell? ⟨b, 0, none⟩ = some (.pointer (some ⟨b, 0, none⟩)) := by rw [Lib.cell_of_heap hbk]; rfl
  have c1 : w1.cell? ⟨b, 1, none⟩ = some v := by rw [Lib.cell_of_heap hbk]; rfl
  have H1 : Hid (Lib.BuilderAt 111 5 B b (.pointer (some ⟨b, 0, none⟩)) bs w1) := ⟨hB, v, hbk, hown, hne⟩
  have HO := Lib.hid hown
  have HB1 := Lib.hid hb1
  have hz := hb1.size
  clear hbk hne hown hb1 HC
  go_wp2_with (at_builtin; refine wpList_append_row _ rfl _ _ 54 54 rfl B 5 i0 (.int .u8 0) 1 1 Tryd.underlying54 HI.out HZ0.out HZ1.out HZ2.out rfl (by decide) v bs.length bs rfl (HO.out.alloc _) (.slice (some ⟨w1.heap.size, 0, none⟩) 1 1) 1 [.int .u8 c] rfl (src_new w1 Tryd.underlying54 [.int .u8 c] 1 1 1 5 rfl ?c4) ?c1 ?c2 ?c3 ?_)
  case c4 => intro u hu; simp at hu; subst hu; rfl
  case c1 => unfold maxLen; omega
  case c2 => omega
  case c3 => simp; omega
  intro v2 w2 hown2 hg2
  obtain ⟨q1, q2, q3, q4, q5⟩ := builder_put (news := [.int .u8 c]) (builder_alloc H1.out (.cells #[.int .u8 c] 5)) ((World.cell?_alloc_lt w1 _ ⟨b, 1, none⟩ H1.out.lt).trans c1) (HB1.out.alloc (by omega) _) hBw hg2.grown (by simpa using hown2)
  have Q1 := Lib.hid q1
  have Q2 := Lib.hid q2
  obtain ⟨A2, n2, k2, rfl⟩ : ∃ A2 n2 k2, v2 = .slice A2 n2 k2 := by
    obtain ⟨A, k, h, -, -⟩ := reads_of_owns hown2
    exact ⟨A, _, k, h⟩
  clear hown2 hg2 q1 q2 H1 HO HB1 c0 c1
  go_wp2_with fail
  go_ret
  exact ⟨rfl, .inr Q1.out, Q2.out⟩

set_option maxHeartbeats 2000000 in
set_option maxRecDepth 100000 in
theorem writeString_any (B b : Nat) (bs : List Value) (s : ByteArray) (w : World) (h : IsB B b bs w) (hlen : bs.length + s.size ≤ 140737488355328) (hBw : B ≤ w.heap.size) :
    Calls Tryd.prog 76 #[.pointer (some ⟨b, 0, none⟩), .string s] w fun e w' => e = .returned (.tuple #[.int .i64 s.size, .nilIface]) ∧ IsB B b (bs ++ Lib.strCells s) w' ∧ Below B w w' := by
  obtain ⟨i0, hi, hz0, hz1, hz2⟩ := info_parts infoByte
  have HC := Lib.hid (copyCheck_any B b bs w h)
  have HI := Lib.hid hi
  have HZ0 := Lib.hid hz0
  have HZ1 := Lib.hid hz1
  have HZ2 := Lib.hid hz2
  clear h hi hz0 hz1 hz2
  go_enter Tryd.func76, Tryd.ntmps76
  go_wp2_with fail
  refine (HC.out).mono ?_
  rintro e w1 ⟨rfl, h1, hb1⟩
  obtain ⟨hB, v, hbk, hown, hne⟩ := h1
  have c0 : w1.cell? ⟨b, 0, none⟩ = some (.pointer (some ⟨b, 0, none⟩)) := by rw [Lib.cell_of_heap hbk]; rfl
  have c1 : w1.cell? ⟨b, 1, none⟩ = some v := by rw [Lib.cell_of_heap hbk]; rfl
  have H1 : Hid (Lib.BuilderAt 111 5 B b (.pointer (some ⟨b, 0, none⟩)) bs w1) := ⟨hB, v, hbk, hown, hne⟩
  have HO := Lib.hid hown
  have HB1 := Lib.hid hb1
  have hz := hb1.size
  clear hbk hne hown hb1 HC
  go_wp2_with (at_builtin; refine Lib.wpList_append_own_string _ rfl _ _ 54 9 rfl B 5 i0 Tryd.underlying54 Tryd.underlying9 HI.out HZ0.out HZ1.out HZ2.out _ _ _ rfl HO.out s rfl ?c1 ?c2 ?c3 ?_)
  case c1 => unfold maxLen; omega
  case c2 => omega
  case c3 => omega
  intro v2 w2 hown2 hg2 _
  obtain ⟨q1, q2, q3, q4, q5⟩ := builder_put (news := Lib.strCells s) H1.out c1 HB1.out hBw hg2 (by simpa [Lib.strCells_length] using hown2)
  have Q1 := Lib.hid q1
  have Q2 := Lib.hid q2
  obtain ⟨A2, n2, k2, rfl⟩ : ∃ A2 n2 k2, v2 = .slice A2 n2 k2 := by
    obtain ⟨A, k, h, -, -⟩ := reads_of_owns hown2
    exact ⟨A, _, k, h⟩
  clear hown2 hg2 q1 q2 H1 HO HB1 c0 c1
  go_wp2_with fail
  go_ret2
  exact ⟨rfl, .inr Q1.out, Q2.out⟩
end Go.Proofs.YtdabmjcpiblofaaDoor

namespace Go.Proofs.YtdabmjcpiblofaaDoor
open Go.RowKit
set_option linter.unusedVariables false

/-- it only makes memory -/
def Ret (w : World) (v : Value) (e : Ending) (w' : World) : Prop := e = .returned v ∧ Below w.heap.size w w'
def leadK (s : ByteArray) : List UInt8 := Lib.itoa (s.size : Int) ++ [58] ++ s.data.toList
def leadsK (ls : List ByteArray) : List UInt8 := ls.flatMap leadK
def kidK (n : Int) : List UInt8 := Lib.itoa n ++ [44]
def kidsK (ns : List Int) : List UInt8 := ns.flatMap kidK
theorem builder_below {w w' : World} {B b : Nat} {p : Value} {bs : List Value} (h : Lib.BuilderAt 111 5 B b p bs w) (hb : Below w.heap.size w w') : Lib.BuilderAt 111 5 B b p bs w' := by
  have hlt := h.lt
  obtain ⟨hB, v, hbk, hown, hne⟩ := h
  exact ⟨hB, v, (hb.block b hlt).trans hbk, owns_below hown hb (own_lt hown), hne⟩
theorem isB_below {w w' : World} {B b : Nat} {bs : List Value} (h : IsB B b bs w) (hb : Below w.heap.size w w') : IsB B b bs w' := by
  rcases h with h | h
  · exact .inl (builder_below h hb)
  · exact .inr (builder_below h hb)
theorem bc_app (a b : List UInt8) : Lib.byteCells a ++ Lib.byteCells b = Lib.byteCells (a ++ b) := by simp [Lib.byteCells]
theorem bc_str (s : ByteArray) : Lib.strCells s = Lib.byteCells s.data.toList := rfl
theorem leadsK_succ {ls : List ByteArray} {j : Nat} {s : ByteArray} (h : ls[j]? = some s) : leadsK (ls.take (j + 1)) = leadsK (ls.take j) ++ leadK s := by
  unfold leadsK
  rw [List.take_add_one, h]
  simp
theorem leadsK_le (ls : List ByteArray) (j : Nat) : (leadsK (ls.take j)).length ≤ (leadsK ls).length := by
  have e : leadsK ls = leadsK (ls.take j) ++ leadsK (ls.drop j) := by
    unfold leadsK
    rw [← List.flatMap_append, List.take_append_drop]
  rw [e, List.length_append]; omega
theorem kidsK_succ {ls : List Int} {j : Nat} {s : Int} (h : ls[j]? = some s) : kidsK (ls.take (j + 1)) = kidsK (ls.take j) ++ kidK s := by
  unfold kidsK
  rw [List.take_add_one, h]
  simp
theorem kidsK_le (ls : List Int) (j : Nat) : (kidsK (ls.take j)).length ≤ (kidsK ls).length := by
  have e : kidsK ls = kidsK (ls.take j) ++ kidsK (ls.drop j) := by
    unfold kidsK
    rw [← List.flatMap_append, List.take_append_drop]
  rw [e, List.length_append]; omega
theorem decI_size (n : Int) : (decI n).size = (Lib.itoa n).length := by
  show (Lib.itoa n).toArray.size = _
  simp
theorem bc_len (l : List UInt8) : (Lib.byteCells l).length = l.length := by simp [Lib.byteCells]
theorem ba_size (s : ByteArray) : s.size = s.data.toList.length := by rw [Array.length_toList]; rfl
theorem leadK_len (s : ByteArray) : (leadK s).length = (Lib.itoa (s.size : Int)).length + 1 + s.size := by
  unfold leadK
  rw [List.length_append, List.length_append, List.length_singleton, ba_size s]
theorem kidK_len (n : Int) : (kidK n).length = (Lib.itoa n).length + 1 := by
  unfold kidK
  rw [List.length_append, List.length_singleton]

set_option maxHeartbeats 2000000 in
set_option maxRecDepth 100000 in
theorem leadsKey_any (A : Option Addr) (c B : Nat) (ls : List ByteArray) (w : World) (hr : Reads w B 1 A ls.length (ls.map Value.string)) (hB : B ≤ w.heap.size) (hlen : (leadsK ls).length ≤ 140737488355328) (hll : ls.length ≤ 140737488351232) (ht : Tab w) :
    Calls Tryd.prog 62 #[.slice A ls.length c] w (Ret w (.string ⟨(leadsK ls).toArray⟩)) := by
  obtain ⟨n, hn⟩ : ∃ n, ls.length = n := ⟨_, rfl⟩
  rw [hn] at hr hll ⊢
  have HR := Lib.hid hr
  have HN := Lib.hid hn
  have HT := Lib.hid ht
  have HLEN := Lib.hid hlen
  clear hr hn ht hlen
  go_enter Tryd.func62, Tryd.ntmps62
  go_wp2_with fail
  go_loopw [8] (fun i wr => ∃ j : Nat, j ≤ n ∧ i = .int .i64 (j : Int) ∧ Hid (IsB w.heap.size w.heap.size (Lib.byteCells (leadsK (ls.take j))) wr) ∧ Hid (Below w.heap.size w wr)) (fun i _ => n - (intOf i).toNat)
  case atStart => exact ⟨0, by omega, rfl, by show IsB _ _ _ _; rw [List.take_zero]; exact Lib.fresh_isBuilder 111 5 w, (Below.refl _ w).alloc (Nat.le_refl _) _⟩
  case round =>
    obtain ⟨j, hj, rfl, HS, HB⟩ := hrel
    have hz := HB.out.size
    by_cases hlt : j < n
    · obtain ⟨s, hs⟩ : ∃ s, ls[j]? = some s := ⟨_, List.getElem?_eq_getElem (by rw [HN.out]; exact hlt)⟩
      obtain ⟨b1, o1, u1, rfl, hb1, hu1, g1⟩ := ((HR.out.more hB).below HB.out).at1 hlt
      obtain rfl : u1 = Value.string s := by rw [List.getElem?_map, hs] at hu1; simpa using hu1.symm
      have hle := leadsK_le ls (j + 1)
      rw [leadsK_succ hs] at hle
      have hle0 := HLEN.out
      have hsz : s.size ≤ 140737488355328 := by
        rw [List.length_append, leadK_len] at hle
        omega
      have HK := Lib.hid (leadsK_succ hs)
      rw [List.length_append, leadK_len] at hle
      have HLE := Lib.hid hle
      have HI := Lib.hid (itoa_any (s.size : Int) wr (by omega) (by omega) (HT.out.below HB.out))
      clear hs hu1 hb1 hle
      go_wp2_with fail
      refine (HI.out).mono ?_
      rintro e w1 ⟨rfl, hb1⟩
      have hz1 := hb1.size
      have HW1 := Lib.hid (writeString_any _ _ _ (decI (s.size : Int)) w1 (isB_below HS.out hb1) (by have := HLE.out; rw [bc_len, decI_size]; omega) (by omega))
      have HB1 : Hid (Below w.heap.size w w1) := HB.out.trans (hb1.mono hz)
      clear hb1 HI HS
      go_wp2_with fail
      refine (HW1.out).mono ?_
      rintro e w2 ⟨rfl, hs2, hb2⟩
      have hz2 := hb2.size
      have HW2 := Lib.hid (writeByte_any _ _ _ 58 w2 hs2 (by have := HLE.out; rw [List.length_append, bc_len, Lib.strCells_length, decI_size]; omega) (by omega))
      have HB2 : Hid (Below w.heap.size w w2) := HB1.out.trans hb2
      clear hb2 hs2 HW1 HB1
      go_wp2_with fail
      refine (HW2.out).mono ?_
      rintro e w3 ⟨rfl, hs3, hb3⟩
      have hz3 := hb3.size
      have HW3 := Lib.hid (writeString_any _ _ _ s w3 hs3 (by have := HLE.out; rw [List.length_append, List.length_append, bc_len, Lib.strCells_length, decI_size, List.length_singleton]; omega) (by omega))
      have HB3 : Hid (Below w.heap.size w w3) := HB2.out.trans hb3
      clear hb3 hs3 HW2 HB2
      go_wp2_with fail
      refine (HW3.out).mono ?_
      rintro e w4 ⟨rfl, hs4, hb4⟩
      have HB4 : Hid (Below w.heap.size w w4) := HB3.out.trans hb4
      have HS4 : Hid (IsB w.heap.size w.heap.size (Lib.byteCells (leadsK (ls.take (j + 1)))) w4) := by
        show IsB _ _ _ _
        rw [HK.out]
        have e : Lib.byteCells (leadsK (ls.take j) ++ leadK s) = Lib.byteCells (leadsK (ls.take j)) ++ Lib.strCells (decI (s.size : Int)) ++ [Value.int .u8 58] ++ Lib.strCells s := by
          rw [bc_str, bc_str]
          have e58 : [Value.int .u8 58] = Lib.byteCells [58] := rfl
          rw [e58, bc_app, bc_app, bc_app]
          unfold leadK
          simp only [List.append_assoc]
          rfl
        rw [e]
        exact hs4
      clear hb4 hs4 HW3 HB3
      go_wp2_with fail
      go_roundw
      case rel => exact ⟨j + 1, by omega, by go_num, HS4, HB4⟩
      case measure => simp [intOf] <;> omega
    · have HE : Hid (ls.take j = ls) := by show _ = _; rw [List.take_of_length_le (by rw [HN.out]; omega)]
      have hs := HS.out
      rw [HE.out] at hs
      have HC := Lib.hid (Tryd.Builder_String_any w.heap.size w.heap.size (leadsK ls) wr hs hz)
      clear hs HS
      go_wp2_with fail
      refine (HC.out).mono ?_
      rintro e w1 ⟨rfl, hb1⟩
      have HB1 : Hid (Below w.heap.size w w1) := HB.out.trans hb1
      clear hb1
      go_wp2_with fail
      go_ret
      exact ⟨rfl, HB1.out⟩

set_option maxHeartbeats 2000000 in
set_option maxRecDepth 100000 in
theorem kidsKey_any (A : Option Addr) (c B : Nat) (ls : List Int) (w : World) (hr : Reads w B 1 A ls.length (ls.map (Value.int .i64))) (hB : B ≤ w.heap.size) (hlen : (kidsK ls).length ≤ 140737488355328) (hll : ls.length ≤ 140737488351232) (hi : ∀ x ∈ ls, -9223372036854775808 ≤ x ∧ x ≤ 9223372036854775807) (ht : Tab w) :
    Calls Tryd.prog 63 #[.slice A ls.length c] w (Ret w (.string ⟨(kidsK ls).toArray⟩)) := by
  obtain ⟨n, hn⟩ : ∃ n, ls.length = n := ⟨_, rfl⟩
  rw [hn] at hr hll ⊢
  have HR := Lib.hid hr
  have HN := Lib.hid hn
  have HT := Lib.hid ht
  have HLEN := Lib.hid hlen
  have HII := Lib.hid hi
  clear hr hn ht hlen hi
  go_enter Tryd.func63, Tryd.ntmps63
  go_wp2_with fail
  go_loopw [8] (fun i wr => ∃ j : Nat, j ≤ n ∧ i = .int .i64 (j : Int) ∧ Hid (IsB w.heap.size w.heap.size (Lib.byteCells (kidsK (ls.take j))) wr) ∧ Hid (Below w.heap.size w wr)) (fun i _ => n - (intOf i).toNat)
  case atStart => exact ⟨0, by omega, rfl, by show IsB _ _ _ _; rw [List.take_zero]; exact Lib.fresh_isBuilder 111 5 w, (Below.refl _ w).alloc (Nat.le_refl _) _⟩
  case round =>
    obtain ⟨j, hj, rfl, HS, HB⟩ := hrel
    have hz := HB.out.size
    by_cases hlt : j < n
    · obtain ⟨s, hs⟩ : ∃ s, ls[j]? = some s := ⟨_, List.getElem?_eq_getElem (by rw [HN.out]; exact hlt)⟩
      obtain ⟨b1, o1, u1, rfl, hb1, hu1, g1⟩ := ((HR.out.more hB).below HB.out).at1 hlt
      obtain rfl : u1 = Value.int .i64 s := by rw [List.getElem?_map, hs] at hu1; simpa using hu1.symm
      have hle := kidsK_le ls (j + 1)
      rw [kidsK_succ hs] at hle
      have hle0 := HLEN.out
      have hin := HII.out s (List.mem_of_getElem? hs)
      have HK := Lib.hid (kidsK_succ hs)
      rw [List.length_append, kidK_len] at hle
      have HLE := Lib.hid hle
      have HI := Lib.hid (itoa_any s wr hin.1 hin.2 (HT.out.below HB.out))
      clear hs hu1 hb1 hle
      go_wp2_with fail
      refine (HI.out).mono ?_
      rintro e w1 ⟨rfl, hb1⟩
      have hz1 := hb1.size
      have HW1 := Lib.hid (writeString_any _ _ _ (decI s) w1 (isB_below HS.out hb1) (by have := HLE.out; rw [bc_len, decI_size]; omega) (by omega))
      have HB1 : Hid (Below w.heap.size w w1) := HB.out.trans (hb1.mono hz)
      clear hb1 HI HS
      go_wp2_with fail
      refine (HW1.out).mono ?_
      rintro e w2 ⟨rfl, hs2, hb2⟩
      have hz2 := hb2.size
      have HW2 := Lib.hid (writeByte_any _ _ _ 44 w2 hs2 (by have := HLE.out; rw [List.length_append, bc_len, Lib.strCells_length, decI_size]; omega) (by omega))
      have HB2 : Hid (Below w.heap.size w w2) := HB1.out.trans hb2
      clear hb2 hs2 HW1 HB1
      go_wp2_with fail
      refine (HW2.out).mono ?_
      rintro e w4 ⟨rfl, hs4, hb4⟩
      have HB4 : Hid (Below w.heap.size w w4) := HB2.out.trans hb4
      have HS4 : Hid (IsB w.heap.size w.heap.size (Lib.byteCells (kidsK (ls.take (j + 1)))) w4) := by
        show IsB _ _ _ _
        rw [HK.out]
        have e : Lib.byteCells (kidsK (ls.take j) ++ kidK s) = Lib.byteCells (kidsK (ls.take j)) ++ Lib.strCells (decI s) ++ [Value.int .u8 44] := by
          rw [bc_str]
          have e44 : [Value.int .u8 44] = Lib.byteCells [44] := rfl
          rw [e44, bc_app, bc_app]
          unfold kidK
          simp only [List.append_assoc]
          rfl
        rw [e]
        exact hs4
      clear hb4 hs4 HW2 HB2
      go_wp2_with fail
      go_roundw
      case rel => exact ⟨j + 1, by omega, by go_num, HS4, HB4⟩
      case measure => simp [intOf] <;> omega
    · have HE : Hid (ls.take j = ls) := by show _ = _; rw [List.take_of_length_le (by rw [HN.out]; omega)]
      have hs := HS.out
      rw [HE.out] at hs
      have HC := Lib.hid (Tryd.Builder_String_any w.heap.size w.heap.size (kidsK ls) wr hs hz)
      clear hs HS
      go_wp2_with fail
      refine (HC.out).mono ?_
      rintro e w1 ⟨rfl, hb1⟩
      have HB1 : Hid (Below w.heap.size w w1) := HB.out.trans hb1
      clear hb1
      go_wp2_with fail
      go_ret
      exact ⟨rfl, HB1.out⟩
end Go.Proofs.YtdabmjcpiblofaaDoor

namespace Go.Proofs.YtdabmjcpiblofaaDoor
open Go.RowKit
set_option linter.unusedVariables false

/-- a node of a pack: kind, text, leads, kids -/
abbrev PN := Int × ByteArray × List ByteArray × List Int
def decVal (l : List UInt8) : Nat := l.foldl (fun a c => a * 10 + (c.toNat - 48)) 0
theorem dig_val {d : Nat} (h : d < 10) : (UInt8.ofNat (48 + d)).toNat = 48 + d := by
  rw [UInt8.toNat_ofNat']; omega
theorem decVal_dec (n : Nat) : decVal (Lib.decDigits n) = n := by
  induction n using Nat.strongRecOn with
  | _ n ih =>
    rw [Lib.decDigits]
    split
    · rename_i h
      unfold decVal
      simp only [List.foldl_cons, List.foldl_nil]
      rw [dig_val h]
      omega
    · rename_i h
      have := ih (n / 10) (by omega)
      unfold decVal at this ⊢
      rw [List.foldl_append, this]
      simp only [List.foldl_cons, List.foldl_nil]
      rw [dig_val (by omega)]
      omega
theorem dec_in (n : Nat) : ∀ c ∈ Lib.decDigits n, 48 ≤ c.toNat ∧ c.toNat ≤ 57 := by
  induction n using Nat.strongRecOn with
  | _ n ih =>
    rw [Lib.decDigits]
    split
    · rename_i h
      intro c hc
      rw [List.mem_singleton] at hc
      subst hc
      rw [dig_val h]; omega
    · rename_i h
      intro c hc
      rcases List.mem_append.1 hc with hc | hc
      · exact ih (n / 10) (by omega) c hc
      · rw [List.mem_singleton] at hc
        subst hc
        rw [dig_val (show n % 10 < 10 by omega)]; omega
theorem itoa_in (n : Int) : ∀ c ∈ Lib.itoa n, c.toNat = 45 ∨ (48 ≤ c.toNat ∧ c.toNat ≤ 57) := by
  unfold Lib.itoa
  intro c hc
  split at hc
  · rcases List.mem_cons.1 hc with rfl | hc
    · exact .inl rfl
    · exact .inr (dec_in _ c hc)
  · exact .inr (dec_in _ c hc)
theorem dec_inj {a b : Nat} (h : Lib.decDigits a = Lib.decDigits b) : a = b := by
  rw [← decVal_dec a, h, decVal_dec]
theorem itoa_inj {a b : Int} (h : Lib.itoa a = Lib.itoa b) : a = b := by
  unfold Lib.itoa at h
  split at h <;> split at h
  · injection h with _ h
    have := dec_inj h
    omega
  · have := dec_in b.toNat 45 (by rw [← h]; exact List.mem_cons_self)
    exact absurd this.1 (by decide)
  · have := dec_in a.toNat 45 (by rw [h]; exact List.mem_cons_self)
    exact absurd this.1 (by decide)
  · have := dec_inj h
    omega
theorem cut_eq {c : UInt8} : ∀ {a a' r r' : List UInt8}, c ∉ a → c ∉ a' → a ++ c :: r = a' ++ c :: r' → a = a' ∧ r = r' := by
  intro a
  induction a with
  | nil =>
    intro a' r r' _ h2 h
    cases a' with
    | nil => simp at h; exact ⟨rfl, h⟩
    | cons x xs =>
      simp at h
      exact absurd (h.1 ▸ List.mem_cons_self) h2
  | cons x xs ih =>
    intro a' r r' h1 h2 h
    cases a' with
    | nil =>
      simp at h
      exact absurd (h.1 ▸ List.mem_cons_self) h1
    | cons y ys =>
      simp at h
      obtain ⟨h3, h4⟩ := ih (fun hm => h1 (List.mem_cons_of_mem _ hm)) (fun hm => h2 (List.mem_cons_of_mem _ hm)) h.2
      exact ⟨by rw [h.1, h3], h4⟩
theorem kidsK_cons (n : Int) (ns : List Int) : kidsK (n :: ns) = Lib.itoa n ++ 44 :: kidsK ns := by simp [kidsK, kidK]
theorem leadsK_cons (s : ByteArray) (ls : List ByteArray) : leadsK (s :: ls) = Lib.itoa (s.size : Int) ++ 58 :: (s.data.toList ++ leadsK ls) := by simp [leadsK, leadK]
theorem no44 (n : Int) : (44 : UInt8) ∉ Lib.itoa n := fun h => by
  have := itoa_in n 44 h
  have e : (44 : UInt8).toNat = 44 := rfl
  omega
theorem no58 (n : Int) : (58 : UInt8) ∉ Lib.itoa n := fun h => by
  have := itoa_in n 58 h
  have e : (58 : UInt8).toNat = 58 := rfl
  omega
theorem kidsK_inj : ∀ {a b : List Int}, kidsK a = kidsK b → a = b := by
  intro a
  induction a with
  | nil =>
    intro b h
    cases b with
    | nil => rfl
    | cons y ys => rw [kidsK_cons] at h; simp [kidsK] at h
  | cons x xs ih =>
    intro b h
    cases b with
    | nil => rw [kidsK_cons] at h; simp [kidsK] at h
    | cons y ys =>
      rw [kidsK_cons, kidsK_cons] at h
      obtain ⟨h1, h2⟩ := cut_eq (no44 x) (no44 y) h
      rw [itoa_inj h1, ih h2]
theorem leadsK_inj : ∀ {a b : List ByteArray}, leadsK a = leadsK b → a = b := by
  intro a
  induction a with
  | nil =>
    intro b h
    cases b with
    | nil => rfl
    | cons y ys => rw [leadsK_cons] at h; simp [leadsK] at h
  | cons x xs ih =>
    intro b h
    cases b with
    | nil => rw [leadsK_cons] at h; simp [leadsK] at h
    | cons y ys =>
      rw [leadsK_cons, leadsK_cons] at h
      obtain ⟨h1, h2⟩ := cut_eq (no58 _) (no58 _) h
      have h3 := itoa_inj h1
      obtain ⟨h4, h5⟩ := List.append_inj h2 (by rw [← ba_size, ← ba_size]; omega)
      have h6 : x = y := by
        cases x; cases y
        simp at h4
        rw [h4]
      rw [h6, ih h5]
/-- the key of a node -/
def shp (x : PN) : Value := .agg #[.int .i64 x.1, .string x.2.1, .string ⟨(leadsK x.2.2.1).toArray⟩, .string ⟨(kidsK x.2.2.2).toArray⟩]
theorem shp_inj {x y : PN} (h : shp x = shp y) : x = y := by
  unfold shp at h
  simp at h
  obtain ⟨h1, h2, h3, h4⟩ := h
  obtain ⟨a, b, c, d⟩ := x
  obtain ⟨a', b', c', d'⟩ := y
  simp at h1 h2 h3 h4
  rw [h1, h2, leadsK_inj h3, kidsK_inj h4]

/-- the place of a node among others -/
def findN (l : List PN) (x : PN) : Option Nat := l.findIdx? (fun y => decide (y = x))
def putN (l : List PN) (x : PN) : List PN × Nat := match findN l x with
  | some i => (l, i)
  | none => (l ++ [x], l.length)
theorem findN_none {l : List PN} {x : PN} : findN l x = none ↔ x ∉ l := by
  unfold findN
  rw [List.findIdx?_eq_none_iff]
  constructor
  · intro h hm
    have := h x hm
    simp at this
  · intro h y hy
    simp
    exact fun e => h (e ▸ hy)
theorem findN_some {l : List PN} {x : PN} {i : Nat} (h : findN l x = some i) : l[i]? = some x ∧ x ∈ l := by
  unfold findN at h
  rw [List.findIdx?_eq_some_iff_getElem] at h
  obtain ⟨hi, h1, -⟩ := h
  simp at h1
  exact ⟨by rw [List.getElem?_eq_getElem hi, h1], h1 ▸ List.getElem_mem hi⟩
theorem findN_snoc {l : List PN} {x y : PN} (h : x ≠ y) : findN (l ++ [y]) x = findN l x := by
  unfold findN
  rw [List.findIdx?_append]
  have e : [y].findIdx? (fun z => decide (z = x)) = none := by
    rw [List.findIdx?_eq_none_iff]
    intro z hz
    simp at hz
    subst hz
    simp
    exact fun e => h e.symm
  rw [e]
  simp
theorem findN_new {l : List PN} {x : PN} (h : x ∉ l) : findN (l ++ [x]) x = some l.length := by
  unfold findN
  rw [List.findIdx?_append]
  have e := findN_none.2 h
  unfold findN at e
  rw [e]
  simp
end Go.Proofs.YtdabmjcpiblofaaDoor

namespace Go.Proofs.YtdabmjcpiblofaaDoor
open Go.RowKit Go.Maps
set_option linter.unusedVariables false

theorem laidOut : laidOutB Tryd.prog = true := by kernel_rfl
theorem shapeLaw : Keyed Tryd.prog 100 := Keyed.of_law (deep_law_laid laidOut (m := 9) (by decide) (of_decide_eq_true (by kernel_rfl)) (by kernel_rfl) (by kernel_rfl))
/-- a node whose key is a key -/
structure GoodN (x : PN) : Prop where
  kind : -9223372036854775808 ≤ x.1 ∧ x.1 ≤ 9223372036854775807
  text : x.2.1.size ≤ 9223372036854775807
  leads : (leadsK x.2.2.1).length ≤ 140737488355328
  kids : (kidsK x.2.2.2).length ≤ 140737488355328
theorem key_shp {x : PN} (h : GoodN x) : ∃ l, keyOf Tryd.prog 100 (shp x) = some l := by
  have h1 : Tryd.prog.keyType 100 = true := by kernel_rfl
  have hc : Tryd.prog.cellsOf 100 = 4 := by kernel_rfl
  have hci : Tryd.prog.cellsOf 3 = 1 := by kernel_rfl
  have hcs : Tryd.prog.cellsOf 9 = 1 := by kernel_rfl
  have hts : ∃ m, Tryd.prog.types.size + 1 = m + 2 := ⟨_, rfl⟩
  obtain ⟨m, hm⟩ := hts
  have hw : (Lit.int .i64 x.1).wf = true := by
    have := h.kind
    simp [Lit.wf, IntKind.min, IntKind.max, IntKind.signed, IntKind.bits]
    omega
  have g1 : x.2.1.size ≤ maxLen := by unfold maxLen; exact h.text
  have g2 : (⟨(leadsK x.2.2.1).toArray⟩ : ByteArray).size ≤ maxLen := by
    show (leadsK x.2.2.1).toArray.size ≤ _
    have := h.leads
    unfold maxLen; simp; omega
  have g3 : (⟨(kidsK x.2.2.2).toArray⟩ : ByteArray).size ≤ maxLen := by
    show (kidsK x.2.2.2).toArray.size ≤ _
    have := h.kids
    unfold maxLen; simp; omega
  unfold keyOf shp
  rw [Tryd.underlying100, hm]
  simp [h1, Value.formed, Tryd.underlying100, hc, Program.keyLits, Value.cells, hci, hcs, Tryd.underlying3, Tryd.underlying9, hw, g1, g2, g3]
/-- the map knows just these nodes, each by its place -/
def Knows (D : DataW Unit) (xs : List PN) : Prop :=
  IsMap D ∧ ∀ x l, keyOf Tryd.prog 100 (shp x) = some l → Maps.has D l = (findN xs x).isSome ∧ ∀ i, findN xs x = some i → D.atKey l (.lit (.int .i64 0)) = .lit (.int .i64 (i : Int))
theorem Knows.start : Knows (.map []) [] := ⟨isMap_empty, fun x l _ => ⟨by simp [Maps.has, findN], fun i hi => by simp [findN] at hi⟩⟩
set_option maxRecDepth 100000 in
theorem Knows.step {D : DataW Unit} {xs : List PN} {x : PN} {l : Lit} (h : Knows D xs) (hx : x ∉ xs) (hl : keyOf Tryd.prog 100 (shp x) = some l) : Knows (D.put l (.lit (.int .i64 (xs.length : Int)))) (xs ++ [x]) := by
  obtain ⟨hm, hk⟩ := h
  refine ⟨hm.put l _, fun y l' hl' => ?_⟩
  by_cases e : y = x
  · subst e
    obtain rfl : l' = l := Option.some.inj (hl'.symm.trans hl)
    refine ⟨?_, fun i hi => ?_⟩
    · rw [has_put_same hm (shapeLaw.key hl), findN_new hx]; rfl
    · rw [findN_new hx] at hi
      injection hi with hi
      subst hi
      exact atKey_put_same hm (shapeLaw.key hl) _ _
  · have hne : l' ≠ l := fun e' => e (shp_inj (shapeLaw.inj hl' (e' ▸ hl)))
    obtain ⟨h1, h2⟩ := hk y l' hl'
    refine ⟨?_, fun i hi => ?_⟩
    · rw [has_put_other hne, h1, findN_snoc e]
    · rw [findN_snoc e] at hi
      rw [atKey_put_other hne]
      exact h2 i hi
end Go.Proofs.YtdabmjcpiblofaaDoor
