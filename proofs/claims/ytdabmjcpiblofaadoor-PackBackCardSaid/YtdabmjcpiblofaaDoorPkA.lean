/-
  strings.Builder's writers, by walks of one's own. No condition.
-/
import Derived.Test.YtdabmjcpiblofaaDoorRow
import Derived.Test.YtdabmjcpiblofaaDoorOwn
import Derived.Test.YtdabmjcpiblofaaDoorPkShelf
import Derived.Lib.AppendIntMem
import Derived.WalkSmall
import Derived.Laws.Externs
import Derived.Lib.AppendStr
namespace Go.Proofs.YtdabmjcpiblofaaDoor
open Go.RowKit
set_option linter.unusedVariables false

theorem gTab : Tryd.prog.globalNamed "internal/strconv.uint64pow10" = some 0 := by kernel_rfl
/-- the library's table is as its text lays it -/
def Tab (w : World) : Prop := Lib.TabIs Tryd.prog w "internal/strconv.uint64pow10" .u64 Lib.pow10Tab ∧ 0 < w.heap.size
theorem Tab.below {w w' : World} (h : Tab w) (hb : Below w.heap.size w w') : Tab w' := ⟨var?_below hb gTab h.2 h.1, Nat.lt_of_lt_of_le h.2 hb.size⟩
theorem Tab.low {w w' : World} {B : Nat} (h : Tab w) (hB : 0 < B) (hb : Below B w w') : Tab w' := ⟨var?_below hb gTab hB h.1, Nat.lt_of_lt_of_le h.2 hb.size⟩

def dec (n : Nat) : ByteArray := ⟨(Lib.decDigits n).toArray⟩
def decI (n : Int) : ByteArray := ⟨(Lib.itoa n).toArray⟩
theorem itoa_any (n : Int) (w : World) (h0 : -9223372036854775808 ≤ n) (h1 : n ≤ 9223372036854775807) (ht : Tab w) : Calls Tryd.prog 77 #[.int .i64 n] w fun e w' => e = .returned (.string (decI n)) ∧ Below w.heap.size w w' := by
  refine (Tryd.strconv_Itoa n h0 h1 w ht.1).mono ?_
  rintro e w' ⟨rfl, k, os, rfl⟩
  exact ⟨rfl, Lib.below_grow _ _ (Nat.le_refl _) _ _⟩

theorem sizeBuilder : (Tryd.prog.info? 111).map (fun i => i.size) = some 2 := by kernel_rfl
theorem infoByte : (Tryd.prog.info? 5).map (fun i => (i.zero, i.size, i.bytes)) = some (some (.int .u8 0), 1, 1) := by kernel_rfl
theorem liesBuilder : liesAt Tryd.prog Tryd.prog.depth 111 (2 / Tryd.prog.cellsOf 111) 0 111 1 = true := by kernel_rfl
abbrev IsB (B b : Nat) (bs : List Value) (w : World) : Prop := Lib.IsBuilder 111 5 B b bs w

set_option maxHeartbeats 1000000 in
set_option maxRecDepth 100000 in
theorem copyCheck_any (B b : Nat) (bs : List Value) (w : World) (h : IsB B b bs w) :
    Calls Tryd.prog 82 #[.pointer (some ⟨b, 0, none⟩)] w fun e w' => e = .returned (.tuple #[]) ∧ Lib.BuilderAt 111 5 B b (.pointer (some ⟨b, 0, none⟩)) bs w' ∧ Below B w w' := by
  obtain ⟨j, hj, hjs⟩ := Option.map_eq_some_iff.1 sizeBuilder
  rcases h with h | h
  · have h0 := h.cell0
    have hsh := h.shape
    have hfz := h.frozen0
    have e1 := Lib.run_to_unsafe (P := Tryd.prog) w ⟨b, 0, none⟩ Tryd.underlying109 Tryd.underlying124 hj (by rw [hjs]; decide) hsh (Nat.zero_lt_succ 1)
    have e3 := Lib.run_from_unsafe (P := Tryd.prog) w ⟨b, 0, none⟩ Tryd.underlying124 Tryd.underlying109 hj hsh liesBuilder
    have HE : Hid (Lib.BuilderAt 111 5 B b (.pointer (some ⟨b, 0, none⟩)) bs (w.setCell ⟨b, 0, none⟩ (.pointer (some ⟨b, 0, none⟩))) ∧ Below B w (w.setCell ⟨b, 0, none⟩ (.pointer (some ⟨b, 0, none⟩)))) := ⟨h.used _, (Below.refl B w).setCell (p := ⟨b, 0, none⟩) h.1 _⟩
    go_enter Tryd.func82, Tryd.ntmps82
    go_wp2_with fail
    rw [run_callFunc_extern Tryd.func87 (by kernel_rfl) (by kernel_rfl) (by kernel_rfl) (e := Extern.AbiNoEscape.same) (by kernel_rfl), Lib.run_noEscape]
    simp only [Result.andThen]
    rw [Oper.upon_value]
    go_wp2_with fail
    go_end0
    exact ⟨rfl, HE.out⟩
  · have h0 := h.cell0
    have e1 := Lib.run_neq_ptr_same (P := Tryd.prog) w ⟨b, 0, none⟩ Tryd.underlying109 hj
    go_enter Tryd.func82, Tryd.ntmps82
    go_wp2_with fail
    go_end0
    exact ⟨rfl, h, Below.refl B _⟩

theorem builder_alloc {w : World} {B b : Nat} {p : Value} {bs : List Value} (h : Lib.BuilderAt 111 5 B b p bs w) (o : Obj) : Lib.BuilderAt 111 5 B b p bs (w.alloc o) := by
  have hlt := h.lt
  obtain ⟨hB, v, hbk, hown, hne⟩ := h
  exact ⟨hB, v, (Below.heap_alloc w o b hlt).trans hbk, hown.alloc o, hne⟩
/-- what the writers leave -/
theorem builder_put {w w1 w2 : World} {B b : Nat} {p v v' : Value} {bs news : List Value} (h : Lib.BuilderAt 111 5 B b p bs w1) (hv : w1.cell? ⟨b, 1, none⟩ = some v) (hb : Below B w w1) (hBw : B ≤ w.heap.size) (hg : w1.grownBy w2 v.ownBlock) (ho : w2.ownsRow B 5 1 v' (bs.length + news.length) (bs ++ news)) :
    Lib.BuilderAt 111 5 B b p (bs ++ news) (w2.setCell ⟨b, 1, none⟩ v') ∧ Below B w (w2.setCell ⟨b, 1, none⟩ v') ∧ w2.cell? ⟨b, 0, none⟩ = some p ∧ w2.cell? ⟨b, 1, none⟩ = some v ∧ w2.frozen? ⟨b, 1, none⟩ = false := by
  obtain ⟨hB, v0, hbk, hown, hne⟩ := h
  obtain rfl : v0 = v := by rw [Lib.cell_of_heap hbk] at hv; simpa using hv
  have hlt : b < w1.heap.size := by
    rcases Nat.lt_or_ge b w1.heap.size with h' | h'
    · exact h'
    · simp [Array.getElem?_eq_none h'] at hbk
  have hb2 : w2.heap[b]? = some (.cells #[p, v0] 111 (0, 0)) := by
    rw [hg.block b hlt (fun e => hne e.symm)]
    exact hbk
  have hz := hb.size
  refine ⟨Lib.BuilderAt.put (T := 111) (e := 5) hB hb2 (bs' := bs ++ news) (by simpa using ho) (by decide), ?_, by rw [Lib.cell_of_heap hb2]; rfl, by rw [Lib.cell_of_heap hb2]; rfl, Lib.frozen_of_heap hb2 1⟩
  exact (hb.grown hg (by omega) (fun k hk => own_from hown k hk)).setCell (p := ⟨b, 1, none⟩) hB _

set_option maxHeartbeats 2000000 in
set_option maxRecDepth 100000 in
theorem writeByte_any (B b : Nat) (bs : List Value) (c : Int) (w : World) (h : IsB B b bs w) (hlen : bs.length + 1 ≤ 140737488355328) (hBw : B ≤ w.heap.size) :
    Calls Tryd.prog 78 #[.pointer (some ⟨b, 0, none⟩), .int .u8 c] w fun e w' => e = .returned .nilIface ∧ IsB B b (bs ++ [.int .u8 c]) w' ∧ Below B w w' := by
  obtain ⟨i0, hi, hz0, hz1, hz2⟩ := info_parts infoByte
  have HC := Lib.hid (copyCheck_any B b bs w h)
  have HI := Lib.hid hi
  have HZ0 := Lib.hid hz0
  have HZ1 := Lib.hid hz1
  have HZ2 := Lib.hid hz2
  clear h hi hz0 hz1 hz2
  go_enter Tryd.func78, Tryd.ntmps78
  go_wp2_with fail
  refine (HC.out).mono ?_
  rintro e w1 ⟨rfl, h1, hb1⟩
  obtain ⟨hB, v, hbk, hown, hne⟩ := h1
  have c0 : w1.cell? ⟨b, 0, none⟩ = some (.pointer (some ⟨b, 0, none⟩)) := by rw [Lib.cell_of_heap hbk]; rfl
  have c1 : w1.cell? ⟨b, 1, none⟩ = some v := by rw [Lib.cell_of_heap hbk]; rfl
  have H1 : Hid (Lib.BuilderAt 111 5 B b (.pointer (some ⟨b, 0, none⟩)) bs w1) := ⟨hB, v, hbk, hown, hne⟩
  have HO := Lib.hid hown
  have HB1 := Lib.hid hb1
  have hz := hb1.size
  clear hbk hne hown hb1 HC
  go_wp2_with (at_builtin; refine wpList_append_row _ rfl _ _ 54 54 rfl B 5 i0 (.int .u8 0) 1 1 Tryd.underlying54 HI.out HZ0.out HZ1.out HZ2.out rfl (by decide) v bs.length bs rfl (HO.out.alloc _) (.slice (some ⟨w1.heap.size, 0, none⟩) 1 1) 1 [.int .u8 c] rfl (src_new w1 Tryd.underlying54 [.int .u8 c] 1 1 1 5 rfl ?c4) ?c1 ?c2 ?c3 ?_)
  case c4 => intro u hu; simp at hu; subst hu; rfl
  case c1 => unfold maxLen; omega
  case c2 => omega
  case c3 => simp; omega
  intro v2 w2 hown2 hg2
  obtain ⟨q1, q2, q3, q4, q5⟩ := builder_put (news := [.int .u8 c]) (builder_alloc H1.out (.cells #[.int .u8 c] 5)) ((World.cell?_alloc_lt w1 _ ⟨b, 1, none⟩ H1.out.lt).trans c1) (HB1.out.alloc (by omega) _) hBw hg2.grown (by simpa using hown2)
  have Q1 := Lib.hid q1
  have Q2 := Lib.hid q2
  obtain ⟨A2, n2, k2, rfl⟩ : ∃ A2 n2 k2, v2 = .slice A2 n2 k2 := by
    obtain ⟨A, k, h, -, -⟩ := reads_of_owns hown2
    exact ⟨A, _, k, h⟩
  clear hown2 hg2 q1 q2 H1 HO HB1 c0 c1
  go_wp2_with fail
  go_ret
  exact ⟨rfl, .inr Q1.out, Q2.out⟩

set_option maxHeartbeats 2000000 in
set_option maxRecDepth 100000 in
theorem writeString_any (B b : Nat) (bs : List Value) (s : ByteArray) (w : World) (h : IsB B b bs w) (hlen : bs.length + s.size ≤ 140737488355328) (hBw : B ≤ w.heap.size) :
    Calls Tryd.prog 76 #[.pointer (some ⟨b, 0, none⟩), .string s] w fun e w' => e = .returned (.tuple #[.int .i64 s.size, .nilIface]) ∧ IsB B b (bs ++ Lib.strCells s) w' ∧ Below B w w' := by
  obtain ⟨i0, hi, hz0, hz1, hz2⟩ := info_parts infoByte
  have HC := Lib.hid (copyCheck_any B b bs w h)
  have HI := Lib.hid hi
  have HZ0 := Lib.hid hz0
  have HZ1 := Lib.hid hz1
  have HZ2 := Lib.hid hz2
  clear h hi hz0 hz1 hz2
  go_enter Tryd.func76, Tryd.ntmps76
  go_wp2_with fail
  refine (HC.out).mono ?_
  rintro e w1 ⟨rfl, h1, hb1⟩
  obtain ⟨hB, v, hbk, hown, hne⟩ := h1
  have c0 : w1.cell? ⟨b, 0, none⟩ = some (.pointer (some ⟨b, 0, none⟩)) := by rw [Lib.cell_of_heap hbk]; rfl
  have c1 : w1.cell? ⟨b, 1, none⟩ = some v := by rw [Lib.cell_of_heap hbk]; rfl
  have H1 : Hid (Lib.BuilderAt 111 5 B b (.pointer (some ⟨b, 0, none⟩)) bs w1) := ⟨hB, v, hbk, hown, hne⟩
  have HO := Lib.hid hown
  have HB1 := Lib.hid hb1
  have hz := hb1.size
  clear hbk hne hown hb1 HC
  go_wp2_with (at_builtin; refine Lib.wpList_append_own_string _ rfl _ _ 54 9 rfl B 5 i0 Tryd.underlying54 Tryd.underlying9 HI.out HZ0.out HZ1.out HZ2.out _ _ _ rfl HO.out s rfl ?c1 ?c2 ?c3 ?_)
  case c1 => unfold maxLen; omega
  case c2 => omega
  case c3 => omega
  intro v2 w2 hown2 hg2 _
  obtain ⟨q1, q2, q3, q4, q5⟩ := builder_put (news := Lib.strCells s) H1.out c1 HB1.out hBw hg2 (by simpa [Lib.strCells_length] using hown2)
  have Q1 := Lib.hid q1
  have Q2 := Lib.hid q2
  obtain ⟨A2, n2, k2, rfl⟩ : ∃ A2 n2 k2, v2 = .slice A2 n2 k2 := by
    obtain ⟨A, k, h, -, -⟩ := reads_of_owns hown2
    exact ⟨A, _, k, h⟩
  clear hown2 hg2 q1 q2 H1 HO HB1 c0 c1
  go_wp2_with fail
  go_ret2
  exact ⟨rfl, .inr Q1.out, Q2.out⟩
end Go.Proofs.YtdabmjcpiblofaaDoor
