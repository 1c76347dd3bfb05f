/-
  What putText, putInts and putCommit append. No condition.
-/
import Derived.Test.YtnnclopojiegfaaInts
import Derived.Test.YtnnclopojiegfaaWData
namespace Go.Proofs.Ytnnclopojiegfaa
open Go.RowKit
set_option linter.unusedVariables false

/-- so far 'pre' has been appended -/
def St (base k : Nat) (v : Value) (xs : List Value) (w : World) (pre : List Nat) (v' : Value) (w' : World) : Prop :=
  w'.ownsRow base 5 1 v' (k + pre.length) (xs ++ pre.map byt) ∧ Grows w w' v v'

theorem St.start {base k : Nat} {v : Value} {xs : List Value} {w : World} (h : w.ownsRow base 5 1 v k xs) : St base k v xs w [] v w := ⟨by simpa using h, Grows.refl w v⟩
theorem St.put {base k : Nat} {v : Value} {xs : List Value} {w w1 w2 : World} {pre new : List Nat} {v1 : Value} {e : Ending} (h : St base k v xs w pre v1 w1) (hp : Put base (k + pre.length) v1 (xs ++ pre.map byt) w1 new e w2) :
    ∃ v2, e = .returned v2 ∧ St base k v xs w (pre ++ new) v2 w2 ∧ Grows w1 w2 v1 v2 := by
  obtain ⟨v2, rfl, hown, hg⟩ := hp
  exact ⟨v2, rfl, ⟨by rw [List.length_append, List.map_append, ← List.append_assoc, ← Nat.add_assoc]; exact hown, h.2.trans hg⟩, hg⟩
theorem St.done {base k : Nat} {v : Value} {xs : List Value} {w w1 : World} {pre : List Nat} {v1 : Value} (h : St base k v xs w pre v1 w1) : Put base k v xs w pre (.returned v1) w1 := ⟨v1, rfl, h.1, h.2⟩
theorem St.alloc {base k : Nat} {v : Value} {xs : List Value} {w w1 : World} {pre : List Nat} {v1 : Value} (h : St base k v xs w pre v1 w1) (o : Obj) : St base k v xs w pre v1 (w1.alloc o) := ⟨h.1.alloc o, h.2.alloc o⟩

set_option maxRecDepth 100000 in
set_option maxHeartbeats 400000 in
theorem putText_any (base k : Nat) (v : Value) (xs : List Value) (s : ByteArray) (w : World) (hown : w.ownsRow base 5 1 v k xs) (hbase : base ≤ w.heap.size) (hk : k + s.size ≤ 900000000) :
    Calls Try.prog 36 #[v, .string s] w (Put base k v xs w (encT s)) := by
  obtain ⟨i0, hi, hi0, hi1, hi2⟩ := info_parts u8_info
  have hl := encI_nat (n := s.size) (by omega)
  have HP := Lib.hid (putInt_any base k v xs s.size w hown hbase (by omega) (by omega) (by omega))
  go_enter Try.func36, Try.ntmps36
  go_wp2_with fail
  refine (HP.out).mono ?_
  intro e w1 h
  obtain ⟨v1, rfl, hst, hg1⟩ := (St.start hown).put (by simpa using h)
  have hsz := hg1.size
  have hown1 := hst.1
  simp only [List.nil_append] at hown1
  have HST := Lib.hid hst
  have HG := Lib.hid hg1
  clear h hst hg1 hown HP
  go_wp2_with (at_builtin; refine wpList_append_row _ rfl (.tmp 8) (.tmp 9) 22 9 rfl base 5 i0 (.int .u8 0) 1 1 Try.underlying22 hi hi0 hi1 hi2 rfl (by decide) _ _ _ rfl hown1 _ s.size (byteCells s) rfl (Src.ofString _ Try.underlying9 s) ?c1 ?c2 ?c3 ?_)
  case c1 => unfold maxLen; omega
  case c2 => omega
  case c3 => omega
  intro v2 w2 hown2 hg2
  have R : Put base k v xs w (encT s) (.returned v2) w2 := by
    refine ⟨v2, rfl, ?_, HG.out.trans hg2⟩
    unfold encT
    rw [List.length_append, List.map_append, txt_len, ← txt_cells]
    simpa [Nat.add_assoc] using hown2
  clear hown2 hg2 hown1
  go_wp2_with fail
  go_ret
  exact R

theorem take_flat (l : List Int) (j : Nat) (x : Int) (h : l[j]? = some x) : (l.take (j + 1)).flatMap encI = (l.take j).flatMap encI ++ encI x := by
  have hj : j < l.length := (List.getElem?_eq_some_iff.1 h).1
  rw [List.take_add_one, h, List.flatMap_append]
  simp

set_option maxRecDepth 100000 in
set_option maxHeartbeats 400000 in
theorem putInts_any (base k : Nat) (v : Value) (xs : List Value) (A : Option Addr) (n c : Nat) (l : List Int) (w : World) (hown : w.ownsRow base 5 1 v k xs) (hbase : base ≤ w.heap.size)
    (hr : Reads w base 1 A n (l.map (Value.int .i64))) (hl : ∀ x ∈ l, inI64 x) (hk : k + 10 * n ≤ 900000000) :
    Calls Try.prog 45 #[v, .slice A n c] w (Put base k v xs w (encL l)) := by
  have hn : l.length = n := by have := hr.1; simpa using this
  have hlen := encI_nat (n := n) (by omega)
  have HP := Lib.hid (putInt_any base k v xs (n : Int) w hown hbase (by omega) (by omega) (by omega))
  have HN := Lib.hid hn
  have HR := Lib.hid hr
  have HO := Lib.hid hown
  have HLo := Lib.hid hl
  clear hn hr hl hown
  go_enter Try.func45, Try.ntmps45
  go_wp2_with fail
  refine (HP.out).mono ?_
  intro e w1 h
  obtain ⟨v1, rfl, hst, hg1⟩ := (St.start HO.out).put (by simpa using h)
  simp only [List.nil_append] at hst
  have HST := Lib.hid hst
  clear h hst hg1 HP
  go_wp2_with fail
  go_loopw [0, 13] (fun v' i wr => ∃ j : Nat, j ≤ n ∧ i = .int .i64 (j : Int) ∧ St base k v xs w (encI (n : Int) ++ (l.take j).flatMap encI) v' wr) (fun _ i _ => n - (intOf i).toNat)
  case atStart => exact ⟨0, by omega, rfl, by simpa using HST.out⟩
  case round =>
    obtain ⟨j, hj, rfl, hst⟩ := hrel
    have hsz := hst.2.size
    by_cases hlt : j < n
    · obtain ⟨x, hx⟩ : ∃ x, l[j]? = some x := ⟨l[j]'(by rw [HN.out]; exact hlt), List.getElem?_eq_getElem _⟩
      have hxi := HLo.out x (List.mem_of_getElem? hx)
      obtain ⟨b, off, u, rfl, had, hu, hcell⟩ := (hst.2.reads HR.out hbase (fun g hg => (HO.out.lt g hg).1)).at1 hlt
      obtain rfl : u = .int .i64 x := by
        rw [List.getElem?_map, hx] at hu
        simpa using hu.symm
      have hfl : ((l.take j).flatMap encI).length ≤ 10 * j := by
        have := flatI_len (l := l.take j) (fun y hy => HLo.out y (List.mem_of_mem_take hy))
        have h2 : (l.take j).length ≤ j := List.length_take_le _ _
        omega
      have HP := Lib.hid (putInt_any base _ u0 _ x wr hst.1 (by omega) (by rw [List.length_append]; omega) hxi.1 hxi.2)
      have HX := Lib.hid hx
      have HST2 := Lib.hid hst
      clear hst hx hu hxi
      go_wp2_with fail
      refine (HP.out).mono ?_
      intro e w2 h
      obtain ⟨v2, rfl, hst2, -⟩ := HST2.out.put h
      rw [List.append_assoc, ← take_flat l j x HX.out] at hst2
      have HST3 := Lib.hid hst2
      clear h hst2 HP
      go_wp2_with fail
      go_roundw
      case rel => exact ⟨j + 1, by omega, by go_num, HST3.out⟩
      case measure => simp [intOf]; omega
    · have R : Put base k v xs w (encL l) (.returned u0) wr := by
        have h1 := hst.done
        have e1 : l.take j = l := List.take_of_length_le (by rw [HN.out]; omega)
        rw [e1] at h1
        unfold encL
        rw [HN.out]
        exact h1
      clear hst
      go_wp2_with fail
      go_ret
      exact R
end Go.Proofs.Ytnnclopojiegfaa
