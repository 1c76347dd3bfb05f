/-
  What putInt appends. No condition.
-/
import Derived.Test.YtdabmjcpiblofaaDoorRows
import Derived.Test.YtdabmjcpiblofaaDoorBase
import Derived.Test.YtdabmjcpiblofaaDoorWMath
import Derived.WalkKit
import Derived.WalkSpells
import Derived.WalkLawsBesides
import Derived.Outline
namespace Go.Proofs.YtdabmjcpiblofaaDoor
open Go.RowKit
set_option linter.unusedVariables false

theorem u8_info : (Tryd.prog.info? 5).map (fun i => (i.zero, i.size, i.bytes)) = some (some (.int .u8 0), 1, 1) := by kernel_rfl

/-- the call returns a row of its own to which 'new' has been appended -/
def Put (base k : Nat) (v : Value) (xs : List Value) (w : World) (new : List Nat) (e : Ending) (w' : World) : Prop :=
  ∃ v', e = .returned v' ∧ w'.ownsRow base 5 1 v' (k + new.length) (xs ++ new.map byt) ∧ Grows w w' v v'

def PutRel (base k : Nat) (v : Value) (xs : List Value) (w : World) (all : List Nat) (v' : Value) (x : Nat) (w' : World) : Prop :=
  ∃ pre : List Nat, all = pre ++ encU x ∧ w'.ownsRow base 5 1 v' (k + pre.length) (xs ++ pre.map byt) ∧ Grows w w' v v'

theorem PutRel.start {base k : Nat} {v : Value} {xs : List Value} {w : World} (x : Nat) (h : w.ownsRow base 5 1 v k xs) : PutRel base k v xs w (encU x) v x w :=
  ⟨[], rfl, by simpa using h, Grows.refl w v⟩
theorem PutRel.step {base k : Nat} {v : Value} {xs : List Value} {w w' w'' : World} {all : List Nat} {v' v'' : Value} {x : Nat} {o : Obj} {pre : List Nat}
    (ha : all = pre ++ encU x) (hg : Grows w w' v v') (hx : 128 ≤ x)
    (hown : w''.ownsRow base 5 1 v'' (k + pre.length + 1) (xs ++ (pre.map byt ++ [.int .u8 ((x : Int) % 128 + 128)]))) (hg2 : Grows (w'.alloc o) w'' v' v'') : PutRel base k v xs w all v'' (x / 128) w'' := by
  refine ⟨pre ++ [x % 128 + 128], by rw [ha, encU_ge hx, List.append_assoc]; rfl, ?_, (hg.alloc o).trans hg2⟩
  have e : byt (x % 128 + 128) = .int .u8 ((x : Int) % 128 + 128) := by unfold byt; congr 1
  rw [List.map_append, List.length_append]
  simpa [e, Nat.add_assoc] using hown
theorem PutRel.done {base k : Nat} {v : Value} {xs : List Value} {w w' w'' : World} {all : List Nat} {v' v'' : Value} {x : Nat} {o : Obj} {pre : List Nat}
    (ha : all = pre ++ encU x) (hg : Grows w w' v v') (hx : ¬ 128 ≤ x)
    (hown : w''.ownsRow base 5 1 v'' (k + pre.length + 1) (xs ++ (pre.map byt ++ [.int .u8 (x : Int)]))) (hg2 : Grows (w'.alloc o) w'' v' v'') : Put base k v xs w all (.returned v'') w'' := by
  refine ⟨v'', rfl, ?_, (hg.alloc o).trans hg2⟩
  rw [ha, encU_lt (by omega), List.map_append, List.length_append]
  simpa [byt, Nat.add_assoc] using hown
theorem le10 {all pre : List Nat} {x : Nat} (ha : all = pre ++ encU x) (hl : all.length ≤ 10) : pre.length + 1 ≤ 10 := by
  have := encU_pos x; rw [ha, List.length_append] at hl; omega

set_option maxRecDepth 100000 in
set_option maxHeartbeats 400000 in
theorem putInt_any (base k : Nat) (v : Value) (xs : List Value) (n : Int) (w : World) (hown : w.ownsRow base 5 1 v k xs) (hbase : base ≤ w.heap.size) (hk : k ≤ 1000000000) (hn1 : -9223372036854775808 ≤ n) (hn2 : n ≤ 9223372036854775807) :
    Calls Tryd.prog 69 #[v, .int .i64 n] w (Put base k v xs w (encI n)) := by
  obtain ⟨i0, hi, hz0, hz1, hz2⟩ := info_parts u8_info
  have hlen := encI_len hn1 hn2
  obtain ⟨all, ha0⟩ : ∃ all, all = encI n := ⟨_, rfl⟩
  rw [← ha0] at hlen ⊢
  have hz : all = encU (zig n) := ha0
  have HZ := Lib.hid hz
  clear hz ha0
  have hst : Hid (PutRel base k v xs w all v (zig n) w) := by rw [HZ.out]; exact PutRel.start _ hown
  have hb1 := fun h => bits_zig n h hn1
  have hb2 := zig_pos n
  have HB1 := Lib.hid hb1
  have HB2 := Lib.hid hb2
  clear hb1 hb2
  by_cases hn : n < 0
  all_goals
    go_enter Tryd.func69, Tryd.ntmps69
    go_wp2_with fail
    go_loopw [0, 5] (fun v' u wr => ∃ (x : Nat), u = .int .u64 x ∧ PutRel base k v xs w all v' x wr) (fun _ i _ => (intOf i).toNat)
    case atStart => exact ⟨zig n, by first | rw [HB1.out hn] | rw [HB2.out hn], hst⟩
    case round =>
      obtain ⟨x, rfl, pre, ha, hown1, hg⟩ := hrel
      have hl10 := le10 ha hlen
      have hsz := hg.size
      have HA := Lib.hid ha
      have hor := bits_or128 x
      clear hown ha hn1 hn2
      by_cases hlt : 128 ≤ x
      · go_wp2_with (at_builtin; refine wpList_append_row _ rfl (.tmp 15) (.tmp 19) 54 54 rfl base 5 i0 (.int .u8 0) 1 1 Tryd.underlying54 hi hz0 hz1 hz2 rfl (by decide) _ _ _ rfl (hown1.alloc _) _ 1 _ rfl (src_new _ Tryd.underlying54 [_] 1 1 1 5 rfl (fun u hu => by simp at hu; subst hu; rfl)) (by unfold maxLen; omega) (by omega) (by simp; omega) ?_)
        intro v2 w2 hown2 hg2
        have R := PutRel.step HA.out hg hlt hown2 hg2
        clear hown2 hg2 hown1 hor
        go_wp2_with fail
        go_roundw
        case rel => exact ⟨x / 128, by go_num, R⟩
        case measure => simp [intOf]; omega
      · go_wp2_with (at_builtin; refine wpList_append_row _ rfl (.tmp 23) (.tmp 26) 54 54 rfl base 5 i0 (.int .u8 0) 1 1 Tryd.underlying54 hi hz0 hz1 hz2 rfl (by decide) _ _ _ rfl (hown1.alloc _) _ 1 _ rfl (src_new _ Tryd.underlying54 [_] 1 1 1 5 rfl (fun u hu => by simp at hu; subst hu; rfl)) (by unfold maxLen; omega) (by omega) (by simp; omega) ?_)
        intro v2 w2 hown2 hg2
        have R := PutRel.done HA.out hg hlt hown2 hg2
        clear hown2 hg2 hown1 hor
        go_wp2_with fail
        go_ret
        exact R
end Go.Proofs.YtdabmjcpiblofaaDoor
