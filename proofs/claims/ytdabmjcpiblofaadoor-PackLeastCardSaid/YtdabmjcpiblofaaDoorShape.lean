/-
  Slices of any elements that came in: each element opened, and how large it can be. No condition.
-/
import Derived.Test.YtdabmjcpiblofaaDoorRow
import Derived.Deep.Slices
namespace Go.Proofs.YtdabmjcpiblofaaDoor
open Go.ChangeShapes Go.WideShapes Go.ChangeAt Go.RowKit Go.Deep
set_option linter.unusedVariables false

section
variable {H : Type} {P : Program}
/-- a datum of which every part fits into memory -/
def Sm (P : Program) (t : TypeId) (d : DataW H) : Prop := ∀ n ∈ d.weights P t, n ≤ 140737488351232
theorem sm_arg {ts : List TypeId} {ds : List (DataW H)} (h : (DataW.weightsEach P ts ds).all (· ≤ reachBytes) = true) {j : Nat} {t : TypeId} {d : DataW H} (ht : ts[j]? = some t) (hd : ds[j]? = some d) : Sm P t d := fun n hn => by
  have := List.all_eq_true.1 h _ (DataW.weights_mem_each ht hd n hn)
  have e : reachBytes = 140737488351232 := by decide
  rw [← e]
  simpa using this
theorem weights_all {e : TypeId} : ∀ {elems : List (DataW H)} {d : DataW H}, d ∈ elems → ∀ n ∈ d.weights P e, n ∈ DataW.weightsAll P e elems
  | x :: r, d, hd, n, hn => by
    simp only [DataW.weightsAll, List.mem_append]
    rcases List.mem_cons.1 hd with rfl | hd
    · exact .inl hn
    · exact .inr (weights_all hd n hn)
theorem sm_elem {t e : TypeId} {elems spare : List (DataW H)} (h : Sm P t (.slice elems spare)) (ht : P.underlying t = some (.slice e)) {d : DataW H} (hd : d ∈ elems) : Sm P e d := fun n hn =>
  h n (by simp only [DataW.weights, ht, List.mem_cons, List.mem_append]; exact .inr (.inl (weights_all hd n hn)))
theorem sm_len {t e : TypeId} {elems spare : List (DataW H)} (h : Sm P t (.slice elems spare)) (ht : P.underlying t = some (.slice e)) : (elems.length + spare.length) * P.bytesOf e ≤ 140737488351232 :=
  h _ (by simp [DataW.weights, ht])
theorem sm_str {t : TypeId} {bytes : List UInt8} (h : Sm (H := H) P t (.lit (.string bytes))) : bytes.length ≤ 140737488351232 := h _ (by simp [DataW.weights])
theorem sm_part {t : TypeId} {fs : Array Field} {parts : List (DataW H)} (h : Sm P t (.agg parts)) (ht : P.underlying t = some (.struct fs)) {i : Nat} {f : Field} {d : DataW H} (hf : fs[i]? = some f) (hd : parts[i]? = some d) : Sm P f.type d := fun n hn =>
  h n (by
    simp only [DataW.weights, ht]
    exact DataW.weights_mem_each (j := i) (by simp [hf]) hd n hn)
end

theorem flat_len {α : Type} {cells : α → List Value} {size : Nat} (hl : ∀ x, (cells x).length = size) (xs : List α) : (xs.flatMap cells).length = xs.length * size := by
  induction xs with
  | nil => simp
  | cons x xs ih => rw [List.flatMap_cons, List.length_append, hl, ih, List.length_cons, Nat.add_mul]; omega
theorem flat_at {α : Type} {cells : α → List Value} {size : Nat} (hl : ∀ x, (cells x).length = size) : ∀ (xs : List α) (k r : Nat) (x : α), xs[k]? = some x → r < size → (xs.flatMap cells)[k * size + r]? = (cells x)[r]?
  | [], k, r, x, h, _ => by simp at h
  | y :: xs, 0, r, x, h, hr => by
    simp at h; subst h
    rw [List.flatMap_cons, Nat.zero_mul, Nat.zero_add, List.getElem?_append_left (by rw [hl]; exact hr)]
  | y :: xs, k + 1, r, x, h, hr => by
    have h' : xs[k]? = some x := by simpa using h
    rw [List.flatMap_cons, List.getElem?_append_right (by rw [hl, Nat.add_mul]; omega), hl, show (k + 1) * size + r - size = k * size + r by rw [Nat.add_mul]; omega]
    exact flat_at hl xs k r x h' hr

section
variable {H : Type} {enc : TypeId × Value → H} {P : Program} {W : World} {held : Bool}
theorem open_list {α : Type} [Inhabited α] {t e : TypeId} {size fuel len cap : Nat} {A : Option Addr} {d : DataW H} {p : List MemPlace} (ht : P.underlying t = some (.slice e)) (hc : P.cellsOf e = size) (hs : 0 < size) (cells : α → List Value) (good : α → Prop) (hl : ∀ x, (cells x).length = size)
    (each : ∀ cs' d' pl n, DataW.trod enc P W 0 (fun _ => true) held n e cs' = some (d', pl) → Sm P e d' → cs'.length = size → ∃ x, cs' = cells x ∧ good x)
    (h : DataW.trod enc P W 0 (fun _ => true) held fuel t [.slice A len cap] = some (d, p)) (hsm : Sm P t d) :
    len ≤ cap ∧ cap ≤ maxLen ∧ (0 < P.bytesOf e → len ≤ 140737488351232) ∧ ∃ xs : List α, xs.length = len ∧ Reads W W.heap.size size A len (xs.flatMap cells) ∧ ∀ x ∈ xs, good x := by
  rcases open_slice ht h with ⟨h0, -⟩ | ⟨a, len', cap', m, n, D, Pl, hcs, -, hlc, hm, hmm, hx, hr⟩
  · simp at h0
    obtain ⟨rfl, rfl, rfl⟩ := h0
    exact ⟨Nat.le_refl _, Nat.zero_le _, fun _ => Nat.zero_le _, [], rfl, Reads.none_, fun x hx => by cases hx⟩
  · simp at hcs
    obtain ⟨rfl, rfl, rfl⟩ := hcs
    simp at hmm
    subst hmm
    injection hx with hd hp
    subst hd
    refine ⟨hlc, hm, fun hb => ?_, ?_⟩
    · have h1 := sm_len hsm ht
      simp only [List.length_map, List.length_range] at h1
      have h2 : (len + (m - len)) * 1 ≤ (len + (m - len)) * P.bytesOf e := Nat.mul_le_mul_left _ hb
      omega
    · have ea : ∀ i, i < len → ∃ x, good x ∧ ∀ r u, (cells x)[r]? = some u → W.cell? (a.add (i * size + r)) = some u := by
        intro i hi
        obtain ⟨cs', h1, h2⟩ := hr i (by omega)
        rw [hc] at h1
        have h3 := World.cells?_some h1
        obtain ⟨x, hx, hg⟩ := each cs' _ _ _ h2 (sm_elem hsm ht (List.mem_map.2 ⟨i, by simpa using hi, rfl⟩)) h3.2.1
        subst hx
        refine ⟨x, hg, fun r u hu => ?_⟩
        have hru := (List.getElem?_eq_some_iff.1 hu).1
        rw [hl] at hru
        rw [← hu, ← h3.2.2 r hru, add_of_add]
      obtain ⟨f, hf⟩ := choose_lt ea
      refine ⟨(List.range len).map f, by simp, ⟨by rw [flat_len hl]; simp, fun hn => ⟨a, rfl, ?_, fun j u hu => ?_⟩⟩, fun x hx => ?_⟩
      · obtain ⟨u, hu⟩ : ∃ u, (cells (f 0))[0]? = some u := ⟨_, List.getElem?_eq_getElem (by rw [hl]; exact hs)⟩
        have := World.block_lt_of_cell? W _ ((hf 0 hn).2 0 u hu)
        rwa [block_of_add] at this
      · have hj := (List.getElem?_eq_some_iff.1 hu).1
        rw [flat_len hl] at hj
        simp only [List.length_map, List.length_range] at hj
        have hk : j / size < len := Nat.div_lt_of_lt_mul (by rw [Nat.mul_comm]; exact hj)
        have hr' : j % size < size := Nat.mod_lt _ hs
        have hjj : j / size * size + j % size = j := by rw [Nat.mul_comm]; exact Nat.div_add_mod j size
        have h1 := flat_at hl ((List.range len).map f) (j / size) (j % size) (f (j / size)) (by rw [List.getElem?_map, List.getElem?_range hk]; rfl) hr'
        rw [hjj, hu] at h1
        have h2 := (hf _ hk).2 _ _ h1.symm
        rwa [hjj] at h2
      · obtain ⟨i, hi, rfl⟩ := List.mem_map.1 hx
        exact (hf i (by simpa using hi)).1
theorem map_flat {α : Type} (f : α → Value) (xs : List α) : xs.flatMap (fun x => [f x]) = xs.map f := by
  induction xs with
  | nil => rfl
  | cons x xs ih => simp [ih]
/-- bytes -/
theorem open_bytesS {t e : TypeId} {fuel len cap : Nat} {A : Option Addr} {d : DataW H} {p : List MemPlace} (ht : P.underlying t = some (.slice e)) (he : P.underlying e = some (.int .u8)) (hc : P.cellsOf e = 1) (hb : 0 < P.bytesOf e) (h : DataW.trod enc P W 0 (fun _ => true) held fuel t [.slice A len cap] = some (d, p)) (hsm : Sm P t d) :
    len ≤ cap ∧ len ≤ 140737488351232 ∧ ∃ xs : List Nat, xs.length = len ∧ Reads W W.heap.size 1 A len (xs.map byt) ∧ ∀ x ∈ xs, x < 256 := by
  obtain ⟨h1, -, h3, xs, h4, h5, h6⟩ := open_list ht hc (by omega) (fun x : Nat => [byt x]) (fun x => x < 256) (fun _ => rfl) (fun cs' d' pl n htr _ hlen => by
    obtain ⟨z, rfl, -, hw⟩ := DataW.trod_int he htr
    have := wf_u8 hw
    exact ⟨z.toNat, by simp [byt]; omega, by omega⟩) h hsm
  rw [map_flat] at h5
  exact ⟨h1, h3 hb, xs, h4, h5, h6⟩
/-- flags -/
theorem open_boolsS {t e : TypeId} {fuel len cap : Nat} {A : Option Addr} {d : DataW H} {p : List MemPlace} (ht : P.underlying t = some (.slice e)) (he : P.underlying e = some .bool) (hc : P.cellsOf e = 1) (hb : 0 < P.bytesOf e) (h : DataW.trod enc P W 0 (fun _ => true) held fuel t [.slice A len cap] = some (d, p)) (hsm : Sm P t d) :
    len ≤ cap ∧ len ≤ 140737488351232 ∧ ∃ xs : List Bool, xs.length = len ∧ Reads W W.heap.size 1 A len (xs.map Value.bool) := by
  obtain ⟨h1, -, h3, xs, h4, h5, h6⟩ := open_list ht hc (by omega) (fun x : Bool => [.bool x]) (fun _ => True) (fun _ => rfl) (fun cs' d' pl n htr _ hlen => by
    obtain ⟨b, rfl, -⟩ := DataW.trod_bool he htr
    exact ⟨b, rfl, trivial⟩) h hsm
  rw [map_flat] at h5
  exact ⟨h1, h3 hb, xs, h4, h5⟩
/-- a value of a slice's type is a slice -/
theorem slice_form {t e : TypeId} {fuel : Nat} {v : Value} {x : DataW H × List MemPlace} (ht : P.underlying t = some (.slice e)) (h : DataW.trod enc P W 0 (fun _ => true) held fuel t [v] = some x) : ∃ A len cap, v = .slice A len cap := by
  rcases open_slice ht h with ⟨h0, -⟩ | ⟨a, len', cap', m, n, D, Pl, hcs, -⟩
  · simp at h0; exact ⟨_, _, _, h0⟩
  · simp at hcs; exact ⟨_, _, _, hcs⟩
end
end Go.Proofs.YtdabmjcpiblofaaDoor
