/-
  copy: bytes over bytes of a block. No condition.
-/
import Derived.Test.YtnjafhlpnoikcaaDkG
namespace Go.Proofs.Ytnjafhlpnoikcaa
open Go.RowKit
set_option linter.unusedVariables false

theorem byte_size : (Try.prog.info? 5).map (·.size) = some 1 := by kernel_rfl
section
variable {w : World}
theorem copy_bytes (ty : TypeId) {g off dLen dCap sLen sCap : Nat} {dp sp : Option Addr} {l b : List Nat} (hg : Blk w g 5 (l.map byt).toArray) (hb : b.length = Nat.min sLen dLen)
    (hpos : 0 < b.length → dp = some ⟨g, off, none⟩ ∧ ∃ ad, sp = some ad ∧ ∀ j u, (b.map byt)[j]? = some u → w.cell? (ad.add j) = some u) (hfit : off + b.length ≤ l.length) :
    ∃ w', (Builtin.copy_ #[32, 32] ty #[.slice dp dLen dCap, .slice sp sLen sCap]).run Try.prog w = .ok (goInt b.length) w' ∧ Blk w' g 5 ((spl l off b).map byt).toArray ∧ w.grownBy w' (some g) ∧ w'.heap.size = w.heap.size := by
  by_cases h0 : b.length = 0
  · obtain rfl : b = [] := List.eq_nil_of_length_eq_zero h0
    have hrun := run_copy_none (P := Try.prog) w 32 32 ty 5 dp sp dLen dCap sLen sCap Try.underlying32 byte_size (by simpa using hb.symm)
    exact ⟨w, by simpa using hrun, by rw [spl_nil]; exact hg, World.grownBy.refl _ _, rfl⟩
  · obtain ⟨rfl, ad, rfl, hsrc⟩ := hpos (by omega)
    have hrun := run_copy_row (P := Try.prog) w 32 32 ty 5 g off dLen dCap ad sLen sCap (l.map byt).toArray 5 (b.map byt) Try.underlying32 byte_size hg (by simpa using hb) hsrc (by simpa using hfit) (byt_one b)
    obtain ⟨C, hC⟩ : ∃ C, C = ((l.map byt).take off ++ (b.map byt ++ (l.map byt).drop (off + b.length))).toArray := ⟨_, rfl⟩
    have hrun' : (Builtin.copy_ #[32, 32] ty #[.slice (some ⟨g, off, none⟩) dLen dCap, .slice (some ad) sLen sCap]).run Try.prog w = .ok (goInt b.length) (w.setRow g C) := by
      rw [hC]
      simpa using hrun
    refine ⟨w.setRow g C, hrun', ?_, ⟨rfl, rfl, rfl, by simp [World.setRow], fun k _ hk => setRow_other w g k C (fun e => hk (by rw [e]))⟩, by simp [World.setRow]⟩
    have := setRow_heap w g (l.map byt).toArray C 5 (0, 0) hg
    unfold Blk
    rw [show (spl l off b).map byt = (l.map byt).take off ++ (b.map byt ++ (l.map byt).drop (off + b.length)) from by simp [spl, List.map_take, List.map_drop], ← hC]
    exact this
theorem wpList_copy_b {ops : Array Oper} {rest : List Oper} {o : Oper} {a : Act} {Q : Exit → Act → World → Prop} (hgd : o.guard = none) (d s : Operand)
    (ho : o.op = .call { callee := .builtin .copy, args := #[d, s], argTypes := #[32, 32] }) {g off dLen dCap sLen sCap : Nat} {dp sp : Option Addr} {l b : List Nat} (hd : a.eval d = .slice dp dLen dCap) (hs : a.eval s = .slice sp sLen sCap) (hg : Blk w g 5 (l.map byt).toArray) (hb : b.length = Nat.min sLen dLen)
    (hpos : 0 < b.length → dp = some ⟨g, off, none⟩ ∧ ∃ ad, sp = some ad ∧ ∀ j u, (b.map byt)[j]? = some u → w.cell? (ad.add j) = some u) (hfit : off + b.length ≤ l.length)
    (h : ∀ w', Blk w' g 5 ((spl l off b).map byt).toArray → w.grownBy w' (some g) → w'.heap.size = w.heap.size → wpList Try.prog ops Q rest (a.put o.dst (goInt b.length)) w') : wpList Try.prog ops Q (o :: rest) a w :=
  wpList_plain hgd fun K hK => by
    obtain ⟨w', hrun, h1, h2, h3⟩ := copy_bytes o.type (dCap := dCap) (sCap := sCap) hg hb hpos hfit
    unfold Oper.wp
    simp [execOp, ho, resolve, invoke, builtin, hd, hs, hrun, Result.andThen]
    exact hK _ _ (h w' h1 h2 h3)
theorem step_copy_b {ops : Array Oper} {o : Oper} {a : Act} {K : Act → World → Prop} {Q : Exit → Act → World → Prop} {E : Prop} (hgd : o.guard = none) (d s : Operand)
    (ho : o.op = .call { callee := .builtin .copy, args := #[d, s], argTypes := #[32, 32] }) {g off dLen dCap sLen sCap : Nat} {dp sp : Option Addr} {l b : List Nat} (hd : a.eval d = .slice dp dLen dCap) (hs : a.eval s = .slice sp sLen sCap) (hg : Blk w g 5 (l.map byt).toArray) (hb : b.length = Nat.min sLen dLen)
    (hpos : 0 < b.length → dp = some ⟨g, off, none⟩ ∧ ∃ ad, sp = some ad ∧ ∀ j u, (b.map byt)[j]? = some u → w.cell? (ad.add j) = some u) (hfit : off + b.length ≤ l.length)
    (h : ∀ w', Blk w' g 5 ((spl l off b).map byt).toArray → w.grownBy w' (some g) → w'.heap.size = w.heap.size → K (a.put o.dst (goInt b.length)) w') : if Region.wanted o (yielded ops a.tmps) = true then Oper.wp Try.prog o a w K Q else E := by
  have hw : Region.wanted o (yielded ops a.tmps) = true := by simp [Region.wanted, hgd]
  rw [if_pos hw]
  obtain ⟨w', hrun, h1, h2, h3⟩ := copy_bytes o.type (dCap := dCap) (sCap := sCap) hg hb hpos hfit
  unfold Oper.wp
  simp [execOp, ho, resolve, invoke, builtin, hd, hs, hrun, Result.andThen]
  exact h w' h1 h2 h3
end
/-- the bytes that are copied stand where the source's are, and go to a place in block g -/
def CopyOk (w : World) (dp sp : Option Addr) (g off : Nat) (b : List Nat) : Prop := 0 < b.length → dp = some ⟨g, off, none⟩ ∧ ∃ ad, sp = some ad ∧ ∀ j u, (b.map byt)[j]? = some u → w.cell? (ad.add j) = some u
theorem copyOk_nil (w : World) (dp sp : Option Addr) (g off : Nat) : CopyOk w dp sp g off [] := fun h => absurd h (by simp)
theorem copyOk_reads {w : World} {B : Nat} {A : Option Addr} {b : List Nat} (h : Reads w B 1 A b.length (b.map byt)) (g off : Nat) : CopyOk w (some ⟨g, off, none⟩) A g off b := fun hp => by
  obtain ⟨ad, e, _, hc⟩ := h.2 hp
  exact ⟨rfl, ad, e, hc⟩
section
variable {w : World}
theorem copy_rows (ty : TypeId) {g c off dLen dCap sLen sCap : Nat} {dp sp : Option Addr} {l b : List Nat} (hg : RowB w g c l) (hb : b.length = Nat.min sLen dLen) (hpos : CopyOk w dp sp g off b) (hfit : off + b.length ≤ l.length) :
    ∃ w', (Builtin.copy_ #[32, 32] ty #[.slice dp dLen dCap, .slice sp sLen sCap]).run Try.prog w = .ok (goInt b.length) w' ∧ RowB w' g c (spl l off b) ∧ w.grownBy w' (some g) ∧ w'.heap.size = w.heap.size := by
  obtain ⟨cs, h1, h2, h3, h4⟩ := hg
  by_cases h0 : b.length = 0
  · obtain rfl : b = [] := List.eq_nil_of_length_eq_zero h0
    have hrun := run_copy_none (P := Try.prog) w 32 32 ty 5 dp sp dLen dCap sLen sCap Try.underlying32 byte_size (by simpa using hb.symm)
    exact ⟨w, by simpa using hrun, by rw [spl_nil]; exact ⟨cs, h1, h2, h3, h4⟩, World.grownBy.refl _ _, rfl⟩
  · obtain ⟨rfl, ad, rfl, hsrc⟩ := hpos (by omega)
    have hrun := run_copy_row (P := Try.prog) w 32 32 ty 5 g off dLen dCap ad sLen sCap cs 5 (b.map byt) Try.underlying32 byte_size h1 (by simpa using hb) hsrc (by simp; omega) (byt_one b)
    obtain ⟨C, hC⟩ : ∃ C, C = (cs.toList.take off ++ b.map byt ++ cs.toList.drop (off + b.length)).toArray := ⟨_, rfl⟩
    have hrun' : (Builtin.copy_ #[32, 32] ty #[.slice (some ⟨g, off, none⟩) dLen dCap, .slice (some ad) sLen sCap]).run Try.prog w = .ok (goInt b.length) (w.setRow g C) := by
      rw [hC]
      simpa using hrun
    have hcl : cs.toList.length = c := by simpa using h2
    refine ⟨w.setRow g C, hrun', ⟨C, setRow_heap w g cs C 5 (0, 0) h1, ?_, ?_, ?_⟩, ⟨rfl, rfl, rfl, by simp [World.setRow], fun k _ hk => setRow_other w g k C (fun e => hk (by rw [e]))⟩, by simp [World.setRow]⟩
    · rw [hC]
      simp only [List.size_toArray, List.length_append, List.length_take, List.length_drop, List.length_map]
      omega
    · rw [spl_len hfit]; exact h3
    · rw [spl_len hfit, hC]
      have e1 : cs.toList.take off = (l.take off).map byt := by
        rw [List.map_take, ← h4, List.take_take, Nat.min_eq_left (by omega)]
      have e2 : (cs.toList.drop (off + b.length)).take (l.length - (off + b.length)) = (l.drop (off + b.length)).map byt := by
        rw [List.map_drop, ← h4, List.drop_take]
      unfold spl
      rw [List.map_append, List.map_append, ← e1, ← e2]
      show List.take l.length (List.take off cs.toList ++ List.map byt b ++ List.drop (off + b.length) cs.toList) = _
      have e3 : (cs.toList.take off ++ b.map byt).length = off + b.length := by simp; omega
      rw [List.take_append, e3, List.take_of_length_le (by omega), List.append_assoc]
theorem wpList_copy_r {ops : Array Oper} {rest : List Oper} {o : Oper} {a : Act} {Q : Exit → Act → World → Prop} (hgd : o.guard = none) (d s : Operand)
    (ho : o.op = .call { callee := .builtin .copy, args := #[d, s], argTypes := #[32, 32] }) {g c off dLen dCap sLen sCap : Nat} {dp sp : Option Addr} {l b : List Nat} (hd : a.eval d = .slice dp dLen dCap) (hs : a.eval s = .slice sp sLen sCap) (hg : RowB w g c l) (hb : b.length = Nat.min sLen dLen)
    (hpos : CopyOk w dp sp g off b) (hfit : off + b.length ≤ l.length)
    (h : ∀ w', RowB w' g c (spl l off b) → w.grownBy w' (some g) → w'.heap.size = w.heap.size → wpList Try.prog ops Q rest (a.put o.dst (goInt b.length)) w') : wpList Try.prog ops Q (o :: rest) a w :=
  wpList_plain hgd fun K hK => by
    obtain ⟨w', hrun, h1, h2, h3⟩ := copy_rows o.type (dCap := dCap) (sCap := sCap) hg hb hpos hfit
    unfold Oper.wp
    simp [execOp, ho, resolve, invoke, builtin, hd, hs, hrun, Result.andThen]
    exact hK _ _ (h w' h1 h2 h3)
theorem step_copy_r {ops : Array Oper} {o : Oper} {a : Act} {K : Act → World → Prop} {Q : Exit → Act → World → Prop} {E : Prop} (hgd : o.guard = none) (d s : Operand)
    (ho : o.op = .call { callee := .builtin .copy, args := #[d, s], argTypes := #[32, 32] }) {g c off dLen dCap sLen sCap : Nat} {dp sp : Option Addr} {l b : List Nat} (hd : a.eval d = .slice dp dLen dCap) (hs : a.eval s = .slice sp sLen sCap) (hg : RowB w g c l) (hb : b.length = Nat.min sLen dLen)
    (hpos : CopyOk w dp sp g off b) (hfit : off + b.length ≤ l.length)
    (h : ∀ w', RowB w' g c (spl l off b) → w.grownBy w' (some g) → w'.heap.size = w.heap.size → K (a.put o.dst (goInt b.length)) w') : if Region.wanted o (yielded ops a.tmps) = true then Oper.wp Try.prog o a w K Q else E := by
  have hw : Region.wanted o (yielded ops a.tmps) = true := by simp [Region.wanted, hgd]
  rw [if_pos hw]
  obtain ⟨w', hrun, h1, h2, h3⟩ := copy_rows o.type (dCap := dCap) (sCap := sCap) hg hb hpos hfit
  unfold Oper.wp
  simp [execOp, ho, resolve, invoke, builtin, hd, hs, hrun, Result.andThen]
  exact h w' h1 h2 h3
end

end Go.Proofs.Ytnjafhlpnoikcaa
