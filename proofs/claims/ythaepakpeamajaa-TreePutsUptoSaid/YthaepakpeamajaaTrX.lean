/-
  A tree out of its datum, with its size. No condition.
-/
import Derived.Test.YthaepakpeamajaaTrP
import Derived.Test.YthaepakpeamajaaUpto
namespace Go.Proofs.Ythaepakpeamajaa
open Go.ChangeShapes Go.WideShapes Go.ChangeAt Go.RowKit Go.Deep Go.Joins
set_option linter.unusedVariables false

section
variable {H : Type} {enc : TypeId × Value → H} {W : World} {held : Bool}
theorem sum_le {α : Type} (cost : α → Nat) : ∀ (l : List (DataW H)) (f : Nat → α), (∀ (i : Nat) d, l[i]? = some d → cost (f i) ≤ Rows.uptoBulk d) → (((List.range l.length).map f).map cost).sum ≤ Rows.uptoBulkAll l
  | [], f, h => by simp
  | d :: l, f, h => by
    have h1 := sum_le cost l (fun i => f (i + 1)) (fun i d hd => h (i + 1) d (by simpa using hd))
    have h0 := h 0 d (by simp)
    rw [List.length_cons, List.range_succ_eq_map]
    simp only [List.map_cons, List.map_map, List.sum_cons, Rows.uptoBulkAll] at h1 ⊢
    have e : (List.map (cost ∘ f ∘ Nat.succ) (List.range l.length)).sum = (List.map (cost ∘ fun i => f (i + 1)) (List.range l.length)).sum := rfl
    omega
theorem open_list_bulk {P : Program} {α : Type} [Inhabited α] {t e : TypeId} {size fuel len cap : Nat} {A : Option Addr} {d : DataW H} {p : List MemPlace} (cost : α → Nat) (ht : P.underlying t = some (.slice e)) (hc : P.cellsOf e = size) (hs : 0 < size) (cells : α → List Value) (good : α → Prop) (hl : ∀ x, (cells x).length = size)
    (each : ∀ cs' d' pl n, n < fuel → DataW.trod enc P W 0 (fun _ => true) held n e cs' = some (d', pl) → Sm P e d' → cs'.length = size → ∃ x, cs' = cells x ∧ good x ∧ cost x ≤ Rows.uptoBulk d')
    (h : DataW.trod enc P W 0 (fun _ => true) held fuel t [.slice A len cap] = some (d, p)) (hsm : Sm P t d) :
    len ≤ cap ∧ cap ≤ maxLen ∧ len * P.bytesOf e ≤ 140737488351232 ∧ ∃ xs : List α, xs.length = len ∧ Reads W W.heap.size size A len (xs.flatMap cells) ∧ (∀ x ∈ xs, good x) ∧ (xs.map cost).sum ≤ Rows.uptoBulk d := by
  rcases DataW.trod_slice ht h with ⟨h0, -⟩ | ⟨a, len', cap', elems, rest, n, hfu, hcs, hx, -, hlc, hm, hlen, hel, -, -⟩
  · simp at h0
    obtain ⟨rfl, rfl, rfl⟩ := h0
    exact ⟨Nat.le_refl _, Nat.zero_le _, by simp, [], rfl, Reads.none_, (fun x hx => by cases hx), by simp⟩
  · simp at hcs
    obtain ⟨rfl, rfl, rfl⟩ := hcs
    injection hx with hd hp
    subst hd
    refine ⟨hlc, hm, ?_, ?_⟩
    · have h1 := sm_len hsm ht
      simp only [List.length_map] at h1
      rw [← hlen]
      exact Nat.le_trans (Nat.mul_le_mul_right _ (Nat.le_add_right _ _)) h1
    · have ea : ∀ i, i < len → ∃ x, (good x ∧ ∀ y, elems[i]? = some y → cost x ≤ Rows.uptoBulk y.1) ∧ ∀ r u, (cells x)[r]? = some u → W.cell? (a.add (i * size + r)) = some u := by
        intro i hi
        have h1 := hel i hi
        obtain ⟨y, hy⟩ : ∃ y, elems[i]? = some y := ⟨_, List.getElem?_eq_getElem (by omega)⟩
        rw [hy, hc] at h1
        obtain ⟨cs', h2, h3⟩ := Option.bind_eq_some_iff.1 h1
        have h4 := World.cells?_some h2
        obtain ⟨x, hx, hg, hco⟩ := each cs' y.1 y.2 n (by omega) h3 (sm_elem hsm ht (List.mem_map.2 ⟨y, List.mem_of_getElem? hy, rfl⟩)) h4.2.1
        subst hx
        refine ⟨x, ⟨hg, fun y' hy' => by rw [hy] at hy'; injection hy' with hy'; subst hy'; exact hco⟩, fun r u hu => ?_⟩
        have hru := (List.getElem?_eq_some_iff.1 hu).1
        rw [hl] at hru
        rw [← hu, ← h4.2.2 r hru, add_of_add]
      obtain ⟨f, hf⟩ := choose_lt ea
      refine ⟨(List.range len).map f, by simp, ⟨by rw [flat_len hl]; simp, fun hn => ⟨a, rfl, ?_, fun j u hu => ?_⟩⟩, fun x hx => ?_, ?_⟩
      · obtain ⟨u, hu⟩ : ∃ u, (cells (f 0))[0]? = some u := ⟨_, List.getElem?_eq_getElem (by rw [hl]; exact hs)⟩
        have := World.block_lt_of_cell? W _ ((hf 0 hn).2 0 u hu)
        rwa [block_of_add] at this
      · have hj := (List.getElem?_eq_some_iff.1 hu).1
        rw [flat_len hl] at hj
        simp only [List.length_map, List.length_range] at hj
        have hk : j / size < len := Nat.div_lt_of_lt_mul (by rw [Nat.mul_comm]; exact hj)
        have hr' : j % size < size := Nat.mod_lt _ hs
        have hjj : j / size * size + j % size = j := by rw [Nat.mul_comm]; exact Nat.div_add_mod j size
        have h1 := flat_at hl ((List.range len).map f) (j / size) (j % size) (f (j / size)) (by rw [List.getElem?_map, List.getElem?_range hk]; rfl) hr'
        rw [hjj, hu] at h1
        have h2 := (hf _ hk).2 _ _ h1.symm
        rwa [hjj] at h2
      · obtain ⟨i, hi, rfl⟩ := List.mem_map.1 hx
        exact (hf i (by simpa using hi)).1.1
      · have := sum_le cost (elems.map Prod.fst) f (fun i d hd => by
          rw [List.getElem?_map] at hd
          obtain ⟨y, hy, rfl⟩ := Option.map_eq_some_iff.1 hd
          have hil := (List.getElem?_eq_some_iff.1 hy).1
          exact (hf i (by omega)).1.2 y hy)
        rw [List.length_map, hlen] at this
        have e : Rows.uptoBulkAll (List.map Prod.fst elems) ≤ Rows.uptoBulk (DataW.slice (List.map Prod.fst elems) (List.map Prod.fst rest)) := by simp only [Rows.uptoBulk]; omega
        exact Nat.le_trans this e
theorem sizes_sum (l : List TX) : T.sizes (l.map TX.plain) = (l.map fun k => k.plain.size).sum := by
  induction l with
  | nil => simp [T.sizes]
  | cons k l ih => rw [List.map_cons, T.sizes, ih]; simp
/-- a tree out of its datum: by induction on the reading's fuel -/
theorem open_tree4B (fuel : Nat) : ∀ {cs : List Value} {d : DataW H} {p : List MemPlace}, DataW.trod enc Try.prog W 0 (fun _ => true) held fuel 25 cs = some (d, p) → Sm Try.prog 25 d → cs.length = 4 → ∃ t, cs = TX.cells t ∧ Tr W W.heap.size t ∧ t.plain.size ≤ Rows.uptoBulk d := by
  induction fuel using Nat.strongRecOn with
  | _ fuel ih =>
  intro cs d p htr hs hlen
  have hb25 : Try.prog.bytesOf 25 = 72 := by kernel_rfl
  have hb9 : Try.prog.bytesOf 9 = 16 := by kernel_rfl
  have hc3 : Try.prog.cellsOf 3 = 1 := by kernel_rfl
  have hc9 : Try.prog.cellsOf 9 = 1 := by kernel_rfl
  have hc22 : Try.prog.cellsOf 22 = 1 := by kernel_rfl
  have hc23 : Try.prog.cellsOf 23 = 1 := by kernel_rfl
  obtain ⟨ys, m, hfu, hx, -, hyl, hfd⟩ := DataW.trod_struct Try.underlying25 htr
  obtain ⟨c0, c1, c2, c3, rfl⟩ : ∃ c0 c1 c2 c3, cs = [c0, c1, c2, c3] := by
    match cs, hlen with
    | [c0, c1, c2, c3], _ => exact ⟨c0, c1, c2, c3, rfl⟩
  obtain ⟨y0, y1, y2, y3, rfl⟩ : ∃ y0 y1 y2 y3, ys = [y0, y1, y2, y3] := by
    match ys, hyl with
    | [y0, y1, y2, y3], _ => exact ⟨y0, y1, y2, y3, rfl⟩
  have hd : d = .agg [y0.1, y1.1, y2.1, y3.1] := by injection hx
  subst hd
  have e0 := hfd 0 _ rfl
  have e1 := hfd 1 _ rfl
  have e2 := hfd 2 _ rfl
  have e3 := hfd 3 _ rfl
  have s2 := sm_part hs Try.underlying25 (i := 2) rfl (d := y2.1) rfl
  have s3 := sm_part hs Try.underlying25 (i := 3) rfl (d := y3.1) rfl
  simp [hc3, hc9, hc22, hc23] at e0 e1 e2 e3
  obtain ⟨z0, q0, -, g0⟩ := DataW.trod_int Try.underlying3 e0
  obtain ⟨z1, q1, -⟩ := DataW.trod_string Try.underlying9 e1
  simp at q0 q1
  subst q0 q1
  obtain ⟨A2, l2, c2, rfl⟩ := slice_form Try.underlying22 e2
  obtain ⟨A3, l3, k3, rfl⟩ := slice_form Try.underlying23 e3
  obtain ⟨-, u1, ls, rfl, u2⟩ := open_strsS (d := y2.1) (p := y2.2) Try.underlying22 Try.underlying9 hc9 e2 s2
  obtain ⟨k1, -, k2, ks, rfl, k4, k5, k6⟩ := open_list_bulk (α := TX) (d := y3.1) (p := y3.2) (fun k => k.plain.size) Try.underlying23 (by kernel_rfl : Try.prog.cellsOf 25 = 4) (by omega) TX.cells (Tr W W.heap.size) TX.cells_len (fun cs' d' pl n hn htr' hs' hlen' => ih n (by omega) htr' hs' hlen') e3 s3
  rw [hb25] at k2
  rw [hb9] at u1
  refine ⟨.node z0 z1 A2 ls c2 A3 ks k3, rfl, .mk _ k4 u2 k2 k1 u1 (wf_i64 g0) k5, ?_⟩
  rw [TX.plain_eq, T.size]
  show 1 + T.sizes (ks.map TX.plain) ≤ _
  rw [sizes_sum]
  simp only [Rows.uptoBulk, Rows.uptoBulkAll]
  omega
theorem arg_treeB {r : Reach} {b0 : Nat} {v : Value} {d : DataW H} {p : List MemPlace} (hv : Value.okWide Try.prog W r b0 25 v) (h : DataW.Trod enc Try.prog W 0 (fun _ => true) held 25 v d p) (hs : Sm Try.prog 25 d) : ∃ t, v = t.val ∧ Tr W W.heap.size t ∧ t.plain.size ≤ Rows.uptoBulk d := by
  obtain ⟨cs, rfl, hsz⟩ := okWide_struct Try.underlying25 hv
  have hc : Try.prog.cellsOf 25 = 4 := by kernel_rfl
  obtain ⟨fuel, hf⟩ := h
  obtain ⟨t, ht, htr, hb⟩ := open_tree4B fuel hf hs (by simpa [Value.cells] using hsz.trans hc)
  exact ⟨t, val_of_cells (by simpa [Value.cells] using ht), htr, hb⟩
end
end Go.Proofs.Ythaepakpeamajaa
