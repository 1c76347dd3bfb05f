/-
  What WireBack needs: bytes of commits, what was written is read back. No condition.
-/
import Derived.Test.YtnnclopojiegfaaWtS
import Derived.Test.YtnnclopojiegfaaCmC
namespace Go.Proofs.Ytnnclopojiegfaa
open Go.RowKit
set_option linter.unusedVariables false

theorem encb_t (s : ByteArray) : ∀ x ∈ encT s, x < 256 := fun x hx => by
  rcases List.mem_append.1 hx with h | h
  · exact encI_byte _ x h
  · exact txt_byte s x h
theorem encb_l (l : List Int) : ∀ x ∈ encL l, x < 256 := fun x hx => by
  rcases List.mem_append.1 hx with h | h
  · exact encI_byte _ x h
  · obtain ⟨y, -, hy⟩ := List.mem_flatMap.1 h
    exact encI_byte _ x hy
theorem encb_c (c : WCell) : ∀ x ∈ encC c, x < 256 := fun x hx => by
  unfold encC at hx
  simp only [List.mem_append] at hx
  rcases hx with ((((h | h) | h) | h) | h) | h
  · exact encI_byte _ x h
  · exact encI_byte _ x h
  · exact encI_byte _ x h
  · unfold encF at h
    split at h <;> simp at h <;> omega
  · exact encb_t _ x h
  · exact encI_byte _ x h
theorem encb_com (c : WCommit) : ∀ x ∈ encCommit c, x < 256 := fun x hx => by
  unfold encCommit at hx
  simp only [List.mem_append] at hx
  rcases hx with ((((h | h) | h) | h) | h) | h
  · exact encI_byte _ x h
  · exact encb_l _ x h
  · exact encb_l _ x h
  · exact encb_t _ x h
  · exact encI_byte _ x h
  · obtain ⟨y, -, hy⟩ := List.mem_flatMap.1 h
    exact encb_c _ x hy
theorem encb_xs (l : List CX) : ∀ x ∈ encXs l, x < 256 := fun x hx => by
  rcases List.mem_append.1 hx with h | h
  · exact encI_byte _ x h
  · obtain ⟨y, -, hy⟩ := List.mem_flatMap.1 h
    exact encb_com _ x hy
theorem own_cap {w : World} {base : Nat} {e : TypeId} {size n m c : Nat} {A : Option Addr} {xs : List Value} (h : w.ownsRow base e size (.slice A m c) n xs) : n ≤ c := by
  rcases h.2 with ⟨h1, rfl⟩ | ⟨g, cap, cur, h1, _, _, hc, _⟩
  · exact Nat.zero_le _
  · injection h1 with _ _ h3
    subst h3
    exact hc
theorem new_readsC {w w' : World} {bs : List Nat} {v : Value} (h : w'.ownsRow w.heap.size 5 1 v bs.length (bs.map byt)) : ∃ A c, v = .slice A bs.length c ∧ bs.length ≤ c ∧ Reads w' w'.heap.size 1 A bs.length (bs.map byt) := by
  obtain ⟨A, c, rfl, hr⟩ := new_reads h
  exact ⟨A, c, rfl, own_cap h, hr⟩
theorem fit_of {w : World} {x : CX} (h : GoodC w x) (hs : x.c.size ≤ 2000) : x.c.fit := by
  unfold WCommit.size at hs
  refine ⟨h.ok, by omega, by omega, by omega, by omega, fun y hy => ⟨h.ok.2.2.2 y hy, ?_⟩⟩
  have := sum_mem hy
  omega
theorem encXs_map (xs : List CX) : encXs xs = encCommits (xs.map CX.c) := by
  unfold encXs encCommits encX
  rw [List.length_map, List.flatMap_map]
theorem commits_back {w : World} {xs : List CX} (h : ∀ x ∈ xs, GoodC w x) (hs : xs.length + sumC xs ≤ 2000) : commitsP (encXs xs) = some (xs.map CX.c) := by
  rw [encXs_map]
  refine commitsP_enc (by rw [List.length_map]; omega) (fun c hc => ?_)
  obtain ⟨x, hx, rfl⟩ := List.mem_map.1 hc
  have := sumC_mem hx
  exact fit_of (h x hx) (by omega)
theorem encXs_len {w : World} {xs : List CX} (h : ∀ x ∈ xs, GoodC w x) (hs : xs.length + sumC xs ≤ 2000) : (encXs xs).length ≤ 1000000000 := by
  unfold encXs
  have h1 := encX_len h (by omega)
  have h2 := encI_nat (n := xs.length) (by omega)
  rw [List.length_append]
  omega
/-- the bytes of WireBack -/
theorem back_num {b1 b2 : List Nat} {z : Int} {s : ByteArray} (hz : inI64 z) : getI (b1 ++ encI z ++ encT s ++ b2) (b1.length : Int) = some (z, b1.length + (encI z).length) := by
  rw [getI_ok (n := (b1 ++ encI z ++ encT s ++ b2).length) rfl (by simp only [List.length_append]; omega)]
  refine numP_enc hz (rest := encT s ++ b2) ?_
  rw [List.append_assoc, List.append_assoc, List.drop_left]
theorem back_text {b1 b2 : List Nat} {z : Int} {s : ByteArray} (hs : s.size ≤ 1000000000) : getT (b1 ++ encI z ++ encT s ++ b2) ((b1.length + (encI z).length : Nat) : Int) = some (s, b1.length + (encI z).length + (encT s).length) := by
  rw [getT_ok (n := (b1 ++ encI z ++ encT s ++ b2).length) rfl (by simp only [List.length_append]; omega)]
  refine textP_enc hs (by simp only [List.length_append]; omega) (rest := b2) ?_
  have e : b1.length + (encI z).length = (b1 ++ encI z).length := by rw [List.length_append]
  rw [e, List.append_assoc, List.drop_left]
theorem back_byte {b1 b2 : List Nat} {z : Int} {s : ByteArray} (h1 : ∀ x ∈ b1, x < 256) (h2 : ∀ x ∈ b2, x < 256) : ∀ x ∈ b1 ++ encI z ++ encT s ++ b2, x < 256 := fun x hx => by
  simp only [List.mem_append] at hx
  rcases hx with ((h | h) | h) | h
  · exact h1 x h
  · exact encI_byte _ x h
  · exact encb_t _ x h
  · exact h2 x h
end Go.Proofs.Ytnnclopojiegfaa
