/-
  Arguments as data: texts, rows of texts, rows of flags. No condition.
-/
import Derived.Test.YtikabbpipdekfaaPsW
namespace Go.Proofs.Ytikabbpipdekfaa
open Go.ChangeShapes Go.WideShapes Go.ChangeAt Go.RowKit Go.Deep
open Go.ChangeMaps (open_string)
set_option linter.unusedVariables false
section
variable {H : Type} {enc : TypeId × Value → H} {W : World} {held : Bool}
theorem open_list_lt {P : Program} {α : Type} [Inhabited α] {t e : TypeId} {size fuel len cap : Nat} {A : Option Addr} {d : DataW H} {p : List MemPlace} (ht : P.underlying t = some (.slice e)) (hc : P.cellsOf e = size) (hs : 0 < size) (cells : α → List Value) (good : α → Prop) (hl : ∀ x, (cells x).length = size)
    (each : ∀ cs' d' pl n, n < fuel → DataW.trod enc P W 0 (fun _ => true) held n e cs' = some (d', pl) → Sm P e d' → cs'.length = size → ∃ x, cs' = cells x ∧ good x)
    (h : DataW.trod enc P W 0 (fun _ => true) held fuel t [.slice A len cap] = some (d, p)) (hsm : Sm P t d) :
    len ≤ cap ∧ cap ≤ maxLen ∧ len * P.bytesOf e ≤ 140737488351232 ∧ ∃ xs : List α, xs.length = len ∧ Reads W W.heap.size size A len (xs.flatMap cells) ∧ ∀ x ∈ xs, good x := by
  rcases DataW.trod_slice ht h with ⟨h0, -⟩ | ⟨a, len', cap', elems, rest, n, hfu, hcs, hx, -, hlc, hm, hlen, hel, -, -⟩
  · simp at h0
    obtain ⟨rfl, rfl, rfl⟩ := h0
    exact ⟨Nat.le_refl _, Nat.zero_le _, by simp, [], rfl, Reads.none_, fun x hx => by cases hx⟩
  · simp at hcs
    obtain ⟨rfl, rfl, rfl⟩ := hcs
    injection hx with hd hp
    subst hd
    refine ⟨hlc, hm, ?_, ?_⟩
    · have h1 := sm_len hsm ht
      simp only [List.length_map] at h1
      rw [← hlen]
      exact Nat.le_trans (Nat.mul_le_mul_right _ (Nat.le_add_right _ _)) h1
    · have ea : ∀ i, i < len → ∃ x, good x ∧ ∀ r u, (cells x)[r]? = some u → W.cell? (a.add (i * size + r)) = some u := by
        intro i hi
        have h1 := hel i hi
        obtain ⟨y, hy⟩ : ∃ y, elems[i]? = some y := ⟨_, List.getElem?_eq_getElem (by omega)⟩
        rw [hy, hc] at h1
        obtain ⟨cs', h2, h3⟩ := Option.bind_eq_some_iff.1 h1
        have h4 := World.cells?_some h2
        obtain ⟨x, hx, hg⟩ := each cs' y.1 y.2 n (by omega) h3 (sm_elem hsm ht (List.mem_map.2 ⟨y, List.mem_of_getElem? hy, rfl⟩)) h4.2.1
        subst hx
        refine ⟨x, hg, fun r u hu => ?_⟩
        have hru := (List.getElem?_eq_some_iff.1 hu).1
        rw [hl] at hru
        rw [← hu, ← h4.2.2 r hru, add_of_add]
      obtain ⟨f, hf⟩ := choose_lt ea
      refine ⟨(List.range len).map f, by simp, ⟨by rw [flat_len hl]; simp, fun hn => ⟨a, rfl, ?_, fun j u hu => ?_⟩⟩, fun x hx => ?_⟩
      · obtain ⟨u, hu⟩ : ∃ u, (cells (f 0))[0]? = some u := ⟨_, List.getElem?_eq_getElem (by rw [hl]; exact hs)⟩
        have := World.block_lt_of_cell? W _ ((hf 0 hn).2 0 u hu)
        rwa [block_of_add] at this
      · have hj := (List.getElem?_eq_some_iff.1 hu).1
        rw [flat_len hl] at hj
        simp only [List.length_map, List.length_range] at hj
        have hk : j / size < len := Nat.div_lt_of_lt_mul (by rw [Nat.mul_comm]; exact hj)
        have hr' : j % size < size := Nat.mod_lt _ hs
        have hjj : j / size * size + j % size = j := by rw [Nat.mul_comm]; exact Nat.div_add_mod j size
        have h1 := flat_at hl ((List.range len).map f) (j / size) (j % size) (f (j / size)) (by rw [List.getElem?_map, List.getElem?_range hk]; rfl) hr'
        rw [hjj, hu] at h1
        have h2 := (hf _ hk).2 _ _ h1.symm
        rwa [hjj] at h2
      · obtain ⟨i, hi, rfl⟩ := List.mem_map.1 hx
        exact (hf i (by simpa using hi)).1
theorem open_txts {P : Program} {t e : TypeId} {fuel len cap : Nat} {A : Option Addr} {d : DataW H} {p : List MemPlace} (ht : P.underlying t = some (.slice e)) (he : P.underlying e = some .string) (hc : P.cellsOf e = 1) (h : DataW.trod enc P W 0 (fun _ => true) held fuel t [.slice A len cap] = some (d, p)) (hsm : Sm P t d) :
    len ≤ cap ∧ len * P.bytesOf e ≤ 140737488351232 ∧ ∃ xs : List ByteArray, xs.length = len ∧ Reads W W.heap.size 1 A len (xs.map Value.string) ∧ ∀ x ∈ xs, x.size ≤ 140737488351232 := by
  obtain ⟨h1, -, h3, xs, h4, h5, h6⟩ := open_list_lt ht hc (by omega) (fun x : ByteArray => [.string x]) (fun x => x.size ≤ 140737488351232) (fun _ => rfl) (fun cs' d' pl n _ htr hs hlen => by
    obtain ⟨z, rfl, hd, -⟩ := DataW.trod_string he htr
    refine ⟨z, rfl, ?_⟩
    injection hd with hd hd2
    subst hd
    have := sm_str hs
    rw [size_data] at this
    exact this) h hsm
  rw [map_flat] at h5
  exact ⟨h1, h3, xs, h4, h5, h6⟩
end
end Go.Proofs.Ytikabbpipdekfaa
