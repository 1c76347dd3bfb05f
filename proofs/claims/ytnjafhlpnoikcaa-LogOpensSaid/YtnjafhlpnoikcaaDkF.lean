/-
  forget: the pending writes are dropped. No condition.
-/
import Derived.Test.YtnjafhlpnoikcaaDkE
namespace Go.Proofs.Ytnjafhlpnoikcaa
open Go.RowKit
set_option linter.unusedVariables false

theorem wr_info : (Try.prog.info? 77).map (fun i => (i.zero, i.size, i.bytes)) = some (some (.agg #[.int .i64 0, .slice none 0 0]), 2, 32) := by kernel_rfl

section
variable {P : Program} {w : World}
theorem wpList_clear {ops : Array Oper} {rest : List Oper} {o : Oper} {a : Act} {Q : Exit → Act → World → Prop} (hgd : o.guard = none) (x : Operand) (t : TypeId)
    (ho : o.op = .call { callee := .builtin .clear, args := #[x], argTypes := #[t] }) (v : Value) (hx : a.eval x = v) (w' : World) (hrun : (Builtin.clear_ #[t] o.type #[v]).run P w = .ok (.tuple #[]) w')
    (h : wpList P ops Q rest (a.put o.dst (.tuple #[])) w') : wpList P ops Q (o :: rest) a w :=
  wpList_plain hgd fun K hK => by
    unfold Oper.wp execOp
    simp only [ho, resolve, invoke, builtin, Sem.run_bind, Sem.run_pure, Result.andThen_ok, List.map_toArray, List.map_cons, List.map_nil, hx, hrun]
    exact hK _ _ h
end
/-- the slice without its elements -/
def cutV (v : Value) : Value := match v with | .slice A _ c => .slice A 0 c | v => v
theorem clear_own {w : World} {v : Value} {n : Nat} {xs : List Value} (ty : TypeId) (h : w.ownsRow 0 77 2 v n xs) : ∃ w', (Builtin.clear_ #[67] ty #[v]).run Try.prog w = .ok (.tuple #[]) w' ∧ w'.ownsRow 0 77 2 (cutV v) 0 [] ∧ w.grownBy w' v.ownBlock ∧ w'.heap.size = w.heap.size := by
  obtain ⟨i0, hi, hz, hs, hb⟩ := info_parts wr_info
  have hu := @run_underlying Try.prog 67 _ (w := w) Try.underlying67
  have hzv : (zeroValue 77).run Try.prog w = .ok (.agg #[.int .i64 0, .slice none 0 0]) w := by simp [zeroValue, typeInfo, hi, hz]
  rcases h.2 with ⟨rfl, rfl⟩ | ⟨g, cap, cur, rfl, hbase, hh, hnc, hcm, hcs, htake⟩
  · refine ⟨w, by simp [Builtin.clear_, hu], ⟨rfl, .inl ⟨rfl, rfl⟩⟩, World.grownBy.refl _ _, rfl⟩
  · rcases Nat.eq_zero_or_pos n with h0 | h0
    · subst h0
      exact ⟨w, by simp [Builtin.clear_, hu], ⟨rfl, .inr ⟨g, cap, cur, rfl, hbase, hh, Nat.zero_le _, hcm, hcs, by simp⟩⟩, World.grownBy.refl _ _, rfl⟩
    · have hsz : (Builtin.zeroCells (Value.cells (.agg #[.int .i64 0, .slice none 0 0])) n).toList.length = n * 2 := by simp [size_zeroCells, Value.cells]
      have hst := run_storeCells_at Try.prog g 0 77 (Builtin.zeroCells (Value.cells (.agg #[.int .i64 0, .slice none 0 0])) n).toList 0 cur w hh (by rw [hsz, hcs]; have := Nat.mul_le_mul_right 2 hnc; omega) (fun v hv => by
        simp [Builtin.zeroCells, Value.cells] at hv
        obtain ⟨k, _, rfl⟩ := hv
        rcases Nat.mod_two_eq_zero_or_one k with e | e <;> simp [e, Value.oneCell'])
      obtain ⟨C, hC⟩ : ∃ C, C = (List.take (0 + 0) cur.toList ++ (Builtin.zeroCells (Value.cells (.agg #[.int .i64 0, .slice none 0 0])) n).toList ++ List.drop (0 + 0 + (Builtin.zeroCells (Value.cells (.agg #[.int .i64 0, .slice none 0 0])) n).toList.length) cur.toList).toArray := ⟨_, rfl⟩
      rw [← hC] at hst
      have hCs : C.size = cap * 2 := by
        rw [hC]
        simp only [List.size_toArray, List.length_append, List.length_take, List.length_drop, Array.length_toList, hsz]
        have := Nat.mul_le_mul_right 2 hnc
        omega
      refine ⟨w.setRow g C, ?_, ⟨rfl, .inr ⟨g, cap, C, rfl, hbase, setRow_heap w g cur C 77 _ hh, Nat.zero_le _, hcm, hCs, by simp⟩⟩, ⟨rfl, rfl, rfl, by simp [World.setRow], fun k _ hk => setRow_other w g k C (fun e => hk (by simp [Value.ownBlock, e]))⟩, by simp [World.setRow]⟩
      obtain ⟨m, rfl⟩ : ∃ m, n = m + 1 := ⟨n - 1, by omega⟩
      simp [Builtin.clear_, hu, hzv, hst]
end Go.Proofs.Ytnjafhlpnoikcaa
