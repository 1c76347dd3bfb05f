/-
  Arguments as data: a slice of bytes that came in reads as bytes. No condition.
-/
import Derived.Test.YtnnclopojiegfaaBase
import Derived.ProofKit
import Derived.OpenShut
import Derived.ShutString
import Derived.ChangeOld
namespace Go.Proofs.Ytnnclopojiegfaa
open Go.ChangeShapes Go.WideShapes Go.ChangeAt Go.RowKit
set_option linter.unusedVariables false

theorem wf_u8 {n : Int} (h : (Lit.int .u8 n).wf = true) : 0 ≤ n ∧ n ≤ 255 := by simpa [Lit.wf, IntKind.min, IntKind.max, IntKind.signed, IntKind.bits] using h
theorem wf_i64 {n : Int} (h : (Lit.int .i64 n).wf = true) : -9223372036854775808 ≤ n ∧ n ≤ 9223372036854775807 := by simpa [Lit.wf, IntKind.min, IntKind.max, IntKind.signed, IntKind.bits] using h

theorem reads_of_ints {W : World} {k : IntKind} {x : Addr} {len cap : Nat} {zs : List Int} (hl : len ≤ cap) (hz : zs.length = cap) (hcell : ∀ i, i < zs.length → W.cell? (x.add i) = some (.int k (zs.getD i 0))) :
    Reads W W.heap.size 1 (some x) len ((zs.take len).map (Value.int k)) := by
  refine ⟨by simp; omega, fun hn => ⟨x, rfl, ?_, fun j u hj => ?_⟩⟩
  · have h0 := hcell 0 (by omega)
    have := World.block_lt_of_cell? W _ h0
    rwa [block_of_add] at this
  · have hj' : j < (zs.take len).length := by
      have := (List.getElem?_eq_some_iff.1 hj).1
      simpa using this
    have hj2 : j < zs.length := by rw [List.length_take] at hj'; omega
    rw [hcell j hj2]
    rw [List.getElem?_map, List.getElem?_eq_getElem hj'] at hj
    simp only [Option.map_some, Option.some.injEq] at hj
    rw [← hj]
    simp [List.getD, List.getElem?_eq_getElem hj2]

theorem bytes_of_ints {W : World} {A : Option Addr} {len : Nat} {zs : List Int} (h : Reads W W.heap.size 1 A len ((zs.take len).map (Value.int .u8))) (hw : ∀ n ∈ zs, (Lit.int .u8 n).wf = true) :
    ∃ bs : List Nat, Reads W W.heap.size 1 A len (bs.map byt) ∧ ∀ x ∈ bs, x < 256 := by
  refine ⟨(zs.take len).map Int.toNat, ?_, fun x hx => ?_⟩
  · have e : ((zs.take len).map Int.toNat).map byt = (zs.take len).map (Value.int .u8) := by
      rw [List.map_map]
      refine List.map_congr_left (fun n hn => ?_)
      have := wf_u8 (hw n (List.mem_of_mem_take hn))
      simp only [Function.comp, byt]
      congr 1
      omega
    rw [e]
    exact h
  · obtain ⟨n, hn, rfl⟩ := List.mem_map.1 hx
    have := wf_u8 (hw n (List.mem_of_mem_take hn))
    omega

section
variable {H : Type} {enc : TypeId × Value → H} {P : Program} {W : World} {spare : Nat → Bool} {held : Bool}
/-- a slice of bytes that came in -/
theorem open_bytes {t e : TypeId} {a : Option Addr} {len cap : Nat} {d : DataW H} {p : List MemPlace} (ht : P.underlying t = some (.slice e)) (he : P.underlying e = some (.int .u8)) (hc : P.cellsOf e = 1)
    (h : DataW.Trod enc P W 0 (fun _ => true) held t (.slice a len cap) d p) : len ≤ maxLen ∧ ∃ bs : List Nat, Reads W W.heap.size 1 a len (bs.map byt) ∧ ∀ x ∈ bs, x < 256 := by
  obtain ⟨fuel, hf⟩ := h
  rcases open_ints ht he hc hf with ⟨hcs, _⟩ | ⟨x, l, c, zs, hcs, _, hl, hm, hz, _, hcell, hwz⟩
  · simp [Value.cells] at hcs
    obtain ⟨rfl, rfl, rfl⟩ := hcs
    exact ⟨Nat.zero_le _, [], Reads.none_, fun _ h => by cases h⟩
  · simp [Value.cells] at hcs
    obtain ⟨rfl, rfl, rfl⟩ := hcs
    exact ⟨by omega, bytes_of_ints (reads_of_ints hl (by simpa using hz) hcell) hwz⟩
/-- a slice of ints that came in -/
theorem open_i64s {t e : TypeId} {a : Option Addr} {len cap : Nat} {d : DataW H} {p : List MemPlace} (ht : P.underlying t = some (.slice e)) (he : P.underlying e = some (.int .i64)) (hc : P.cellsOf e = 1)
    (h : DataW.Trod enc P W 0 (fun _ => true) held t (.slice a len cap) d p) : len ≤ maxLen ∧ ∃ l : List Int, Reads W W.heap.size 1 a len (l.map (Value.int .i64)) ∧ ∀ x ∈ l, -9223372036854775808 ≤ x ∧ x ≤ 9223372036854775807 := by
  obtain ⟨fuel, hf⟩ := h
  rcases open_ints ht he hc hf with ⟨hcs, _⟩ | ⟨x, l, c, zs, hcs, _, hl, hm, hz, _, hcell, hwz⟩
  · simp [Value.cells] at hcs
    obtain ⟨rfl, rfl, rfl⟩ := hcs
    exact ⟨Nat.zero_le _, [], Reads.none_, fun _ h => by cases h⟩
  · simp [Value.cells] at hcs
    obtain ⟨rfl, rfl, rfl⟩ := hcs
    exact ⟨by omega, zs.take len, reads_of_ints hl (by simpa using hz) hcell, fun x hx => wf_i64 (hwz x (List.mem_of_mem_take hx))⟩
end
end Go.Proofs.Ytnnclopojiegfaa
