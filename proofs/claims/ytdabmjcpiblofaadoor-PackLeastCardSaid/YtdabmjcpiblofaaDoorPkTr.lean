/-
  Trees, plain and as they lie in memory (a pack's own seat). No condition.
-/
import Derived.Test.YtdabmjcpiblofaaDoorRows
import Derived.Test.YtdabmjcpiblofaaDoorShape
import Derived.Test.YtdabmjcpiblofaaDoorPkOwn
import Derived.WalkKit
import Derived.WalkSpells
import Derived.WalkLawsBesides
import Derived.Outline
import Derived.BigQuiet
import Derived.KernelRfl
import Derived.Deep.DeepCutAuto
import Derived.Deep.RegionHeld3
import Derived.Deep.RegionLaw
namespace Go.Proofs.YtdabmjcpiblofaaDoor
open Go.ChangeShapes Go.WideShapes Go.ChangeAt Go.RowKit Go.Deep
set_option linter.unusedVariables false

/-- a plain tree -/
inductive T where
  | node (kind : Int) (text : ByteArray) (leads : List ByteArray) (kids : List T)
def T.kids : T → List T
  | .node _ _ _ ks => ks
def T.kind : T → Int
  | .node k _ _ _ => k
def T.text : T → ByteArray
  | .node _ s _ _ => s
def T.leads : T → List ByteArray
  | .node _ _ l _ => l
mutual
def T.size : T → Nat
  | .node _ _ _ ks => 1 + T.sizes ks
def T.sizes : List T → Nat
  | [] => 0
  | k :: ks => T.size k + T.sizes ks
end
mutual
def T.dW : T → Int
  | .node _ _ _ ks => wrap64 (T.dWs ks + 1)
def T.dWs : List T → Int
  | [] => 0
  | k :: ks => max (T.dW k) (T.dWs ks)
end
/-- a tree as it lies in memory -/
inductive TX where
  | node (kind : Int) (text : ByteArray) (lA : Option Addr) (leads : List ByteArray) (lc : Nat) (kA : Option Addr) (kids : List TX) (kc : Nat)
instance : Inhabited TX := ⟨.node 0 ByteArray.empty none [] 0 none [] 0⟩
mutual
def TX.plain : TX → T
  | .node kind text _ leads _ _ kids _ => .node kind text leads (TX.plains kids)
def TX.plains : List TX → List T
  | [] => []
  | k :: ks => TX.plain k :: TX.plains ks
end
theorem TX.plains_map (l : List TX) : TX.plains l = l.map TX.plain := by
  induction l with
  | nil => rw [TX.plains]; rfl
  | cons k ks ih => rw [TX.plains, ih]; rfl
theorem T.sizes_append (a b : List T) : T.sizes (a ++ b) = T.sizes a + T.sizes b := by
  induction a with
  | nil => rw [List.nil_append, T.sizes]; omega
  | cons k ks ih => rw [List.cons_append, T.sizes, T.sizes, ih]; omega
theorem T.dWs_pos (a : List T) : 0 ≤ T.dWs a := by
  induction a with
  | nil => rw [T.dWs]; omega
  | cons k ks ih => rw [T.dWs]; omega
theorem T.dWs_append (a b : List T) : T.dWs (a ++ b) = max (T.dWs a) (T.dWs b) := by
  have hb := T.dWs_pos b
  induction a with
  | nil => rw [List.nil_append, T.dWs]; omega
  | cons k ks ih => rw [List.cons_append, T.dWs, T.dWs, ih]; omega
theorem wrap64_bd (a : Int) : -9223372036854775808 ≤ wrap64 a ∧ wrap64 a ≤ 9223372036854775807 := by unfold wrap64; omega
theorem T.dWs_le (a : List T) : T.dWs a ≤ 9223372036854775807 := by
  induction a with
  | nil => rw [T.dWs]; omega
  | cons k ks ih =>
    rw [T.dWs]
    have h : T.dW k ≤ 9223372036854775807 := by
      cases k with
      | node _ _ _ l => rw [T.dW]; exact (wrap64_bd _).2
    omega
def TX.kind : TX → Int | .node k _ _ _ _ _ _ _ => k
def TX.text : TX → ByteArray | .node _ s _ _ _ _ _ _ => s
def TX.lA : TX → Option Addr | .node _ _ a _ _ _ _ _ => a
def TX.leads : TX → List ByteArray | .node _ _ _ l _ _ _ _ => l
def TX.lc : TX → Nat | .node _ _ _ _ c _ _ _ => c
def TX.kA : TX → Option Addr | .node _ _ _ _ _ a _ _ => a
def TX.kids : TX → List TX | .node _ _ _ _ _ _ k _ => k
def TX.kc : TX → Nat | .node _ _ _ _ _ _ _ c => c
def TX.cells (t : TX) : List Value := [.int .i64 t.kind, .string t.text, .slice t.lA t.leads.length t.lc, .slice t.kA t.kids.length t.kc]
theorem TX.plain_eq (t : TX) : t.plain = .node t.kind t.text t.leads (t.kids.map TX.plain) := by
  cases t with
  | node kind text lA leads lc kA kids kc => rw [TX.plain, TX.plains_map]; rfl
theorem TX.cells_len (t : TX) : t.cells.length = 4 := rfl
/-- induction over trees -/
theorem TX.ind {P : TX → Prop} (h : ∀ t : TX, (∀ k ∈ t.kids, P k) → P t) : ∀ t, P t := by
  exact fun t => TX.rec (motive_1 := P) (motive_2 := fun l => ∀ k ∈ l, P k) (fun kind text lA leads lc kA kids kc ih => h _ ih) (fun k hk => by cases hk) (fun k ks h1 h2 x hx => by
    rcases List.mem_cons.1 hx with rfl | hx
    · exact h1
    · exact h2 x hx) t

/-- a tree that can be read in w, in blocks below B -/
inductive Tr (w : World) (B : Nat) : TX → Prop where
  | mk (t : TX) (hk : Reads w B 4 t.kA t.kids.length (t.kids.flatMap TX.cells)) (hl : Reads w B 1 t.lA t.leads.length (t.leads.map Value.string)) (kb : t.kids.length * 72 ≤ 140737488351232) (kc : t.kids.length ≤ t.kc) (lb : t.leads.length * 16 ≤ 140737488351232) (kr : -9223372036854775808 ≤ t.kind ∧ t.kind ≤ 9223372036854775807) (sub : ∀ k ∈ t.kids, Tr w B k) : Tr w B t
section
variable {w w' : World} {B B' : Nat} {t : TX}
theorem Tr.rk (h : Tr w B t) : Reads w B 4 t.kA t.kids.length (t.kids.flatMap TX.cells) := by cases h; assumption
theorem Tr.rl (h : Tr w B t) : Reads w B 1 t.lA t.leads.length (t.leads.map Value.string) := by cases h; assumption
theorem Tr.kbs (h : Tr w B t) : t.kids.length * 72 ≤ 140737488351232 := by cases h; assumption
theorem Tr.kb (h : Tr w B t) : t.kids.length ≤ 140737488351232 := by have := h.kbs; omega
theorem Tr.kcap (h : Tr w B t) : t.kids.length ≤ t.kc := by cases h; assumption
theorem Tr.lbs (h : Tr w B t) : t.leads.length * 16 ≤ 140737488351232 := by cases h; assumption
theorem Tr.lb (h : Tr w B t) : t.leads.length ≤ 140737488351232 := by have := h.lbs; omega
theorem Tr.kr (h : Tr w B t) : -9223372036854775808 ≤ t.kind ∧ t.kind ≤ 9223372036854775807 := by cases h; assumption
theorem Tr.sub (h : Tr w B t) : ∀ k ∈ t.kids, Tr w B k := by cases h; assumption
theorem Tr.low (h : Tr w B t) (hb : Below B w w') : Tr w' B t := by
  induction h with
  | mk t hk hl kb kc lb kr sub ih => exact .mk t (hk.below hb) (hl.below hb) kb kc lb kr (fun k hk => ih k hk)
theorem Tr.more (h : Tr w B t) (hB : B ≤ B') : Tr w B' t := by
  induction h with
  | mk t hk hl kb kc lb kr sub ih => exact .mk t (hk.more hB) (hl.more hB) kb kc lb kr (fun k hk => ih k hk)
theorem Tr.up (h : Tr w B t) (hB : B ≤ w.heap.size) (hb : Below w.heap.size w w') : Tr w' w'.heap.size t := (h.low (hb.mono hB)).more (Nat.le_trans hB hb.size)
/-- a kid's cells -/
theorem Tr.at_ (h : Tr w B t) {i : Nat} {k : TX} (hi : t.kids[i]? = some k) : ∃ ab ao, t.kA = some ⟨ab, ao, none⟩ ∧ ab < B ∧ w.cell? ⟨ab, ao + i * 4, none⟩ = some (.int .i64 k.kind) ∧ w.cell? ⟨ab, ao + i * 4 + 1, none⟩ = some (.string k.text) ∧ w.cell? ⟨ab, ao + i * 4 + 2, none⟩ = some (.slice k.lA k.leads.length k.lc) ∧ w.cell? ⟨ab, ao + i * 4 + 3, none⟩ = some (.slice k.kA k.kids.length k.kc) := by
  have hkl := (List.getElem?_eq_some_iff.1 hi).1
  obtain ⟨ab, ao, e, hb, hc⟩ := h.rk.head (by omega) (by omega)
  refine ⟨ab, ao, e, hb, ?_, ?_, ?_, ?_⟩
  · exact hc (i * 4) _ (flat_at TX.cells_len t.kids i 0 k hi (by omega))
  · have := hc (i * 4 + 1) _ (flat_at TX.cells_len t.kids i 1 k hi (by omega)); rwa [← Nat.add_assoc] at this
  · have := hc (i * 4 + 2) _ (flat_at TX.cells_len t.kids i 2 k hi (by omega)); rwa [← Nat.add_assoc] at this
  · have := hc (i * 4 + 3) _ (flat_at TX.cells_len t.kids i 3 k hi (by omega)); rwa [← Nat.add_assoc] at this
end
/-- a tree's value, its block -/
def TX.val (t : TX) : Value := .agg #[.int .i64 t.kind, .string t.text, .slice t.lA t.leads.length t.lc, .slice t.kA t.kids.length t.kc]
def TX.arr (t : TX) : Array Value := #[.int .i64 t.kind, .string t.text, .slice t.lA t.leads.length t.lc, .slice t.kA t.kids.length t.kc]

section
variable {H : Type} {enc : TypeId × Value → H} {W : World} {held : Bool}
theorem open_intsS {P : Program} {t e : TypeId} {fuel len cap : Nat} {A : Option Addr} {d : DataW H} {p : List MemPlace} (ht : P.underlying t = some (.slice e)) (he : P.underlying e = some (.int .i64)) (hc : P.cellsOf e = 1) (hb : 0 < P.bytesOf e) (h : DataW.trod enc P W 0 (fun _ => true) held fuel t [.slice A len cap] = some (d, p)) (hsm : Sm P t d) :
    len ≤ cap ∧ len ≤ 140737488351232 ∧ ∃ xs : List Int, xs.length = len ∧ Reads W W.heap.size 1 A len (xs.map (Value.int .i64)) ∧ ∀ x ∈ xs, -9223372036854775808 ≤ x ∧ x ≤ 9223372036854775807 := by
  obtain ⟨h1, -, h3, xs, h4, h5, h6⟩ := open_list ht hc (by omega) (fun x : Int => [.int .i64 x]) (fun x => -9223372036854775808 ≤ x ∧ x ≤ 9223372036854775807) (fun _ => rfl) (fun cs' d' pl n htr _ hlen => by
    obtain ⟨z, rfl, -, hw⟩ := DataW.trod_int he htr
    exact ⟨z, rfl, wf_i64 hw⟩) h hsm
  rw [map_flat] at h5
  exact ⟨h1, h3 hb, xs, h4, h5, h6⟩
theorem open_list_lt {P : Program} {α : Type} [Inhabited α] {t e : TypeId} {size fuel len cap : Nat} {A : Option Addr} {d : DataW H} {p : List MemPlace} (ht : P.underlying t = some (.slice e)) (hc : P.cellsOf e = size) (hs : 0 < size) (cells : α → List Value) (good : α → Prop) (hl : ∀ x, (cells x).length = size)
    (each : ∀ cs' d' pl n, n < fuel → DataW.trod enc P W 0 (fun _ => true) held n e cs' = some (d', pl) → Sm P e d' → cs'.length = size → ∃ x, cs' = cells x ∧ good x)
    (h : DataW.trod enc P W 0 (fun _ => true) held fuel t [.slice A len cap] = some (d, p)) (hsm : Sm P t d) :
    len ≤ cap ∧ cap ≤ maxLen ∧ len * P.bytesOf e ≤ 140737488351232 ∧ ∃ xs : List α, xs.length = len ∧ Reads W W.heap.size size A len (xs.flatMap cells) ∧ ∀ x ∈ xs, good x := by
  rcases DataW.trod_slice ht h with ⟨h0, -⟩ | ⟨a, len', cap', elems, rest, n, hfu, hcs, hx, -, hlc, hm, hlen, hel, -, -⟩
  · simp at h0
    obtain ⟨rfl, rfl, rfl⟩ := h0
    exact ⟨Nat.le_refl _, Nat.zero_le _, by simp, [], rfl, Reads.none_, fun x hx => by cases hx⟩
  · simp at hcs
    obtain ⟨rfl, rfl, rfl⟩ := hcs
    injection hx with hd hp
    subst hd
    refine ⟨hlc, hm, ?_, ?_⟩
    · have h1 := sm_len hsm ht
      simp only [List.length_map] at h1
      rw [← hlen]
      exact Nat.le_trans (Nat.mul_le_mul_right _ (Nat.le_add_right _ _)) h1
    · have ea : ∀ i, i < len → ∃ x, good x ∧ ∀ r u, (cells x)[r]? = some u → W.cell? (a.add (i * size + r)) = some u := by
        intro i hi
        have h1 := hel i hi
        obtain ⟨y, hy⟩ : ∃ y, elems[i]? = some y := ⟨_, List.getElem?_eq_getElem (by omega)⟩
        rw [hy, hc] at h1
        obtain ⟨cs', h2, h3⟩ := Option.bind_eq_some_iff.1 h1
        have h4 := World.cells?_some h2
        obtain ⟨x, hx, hg⟩ := each cs' y.1 y.2 n (by omega) h3 (sm_elem hsm ht (List.mem_map.2 ⟨y, List.mem_of_getElem? hy, rfl⟩)) h4.2.1
        subst hx
        refine ⟨x, hg, fun r u hu => ?_⟩
        have hru := (List.getElem?_eq_some_iff.1 hu).1
        rw [hl] at hru
        rw [← hu, ← h4.2.2 r hru, add_of_add]
      obtain ⟨f, hf⟩ := choose_lt ea
      refine ⟨(List.range len).map f, by simp, ⟨by rw [flat_len hl]; simp, fun hn => ⟨a, rfl, ?_, fun j u hu => ?_⟩⟩, fun x hx => ?_⟩
      · obtain ⟨u, hu⟩ : ∃ u, (cells (f 0))[0]? = some u := ⟨_, List.getElem?_eq_getElem (by rw [hl]; exact hs)⟩
        have := World.block_lt_of_cell? W _ ((hf 0 hn).2 0 u hu)
        rwa [block_of_add] at this
      · have hj := (List.getElem?_eq_some_iff.1 hu).1
        rw [flat_len hl] at hj
        simp only [List.length_map, List.length_range] at hj
        have hk : j / size < len := Nat.div_lt_of_lt_mul (by rw [Nat.mul_comm]; exact hj)
        have hr' : j % size < size := Nat.mod_lt _ hs
        have hjj : j / size * size + j % size = j := by rw [Nat.mul_comm]; exact Nat.div_add_mod j size
        have h1 := flat_at hl ((List.range len).map f) (j / size) (j % size) (f (j / size)) (by rw [List.getElem?_map, List.getElem?_range hk]; rfl) hr'
        rw [hjj, hu] at h1
        have h2 := (hf _ hk).2 _ _ h1.symm
        rwa [hjj] at h2
      · obtain ⟨i, hi, rfl⟩ := List.mem_map.1 hx
        exact (hf i (by simpa using hi)).1
theorem open_strsS {P : Program} {t e : TypeId} {fuel len cap : Nat} {A : Option Addr} {d : DataW H} {p : List MemPlace} (ht : P.underlying t = some (.slice e)) (he : P.underlying e = some .string) (hc : P.cellsOf e = 1) (h : DataW.trod enc P W 0 (fun _ => true) held fuel t [.slice A len cap] = some (d, p)) (hsm : Sm P t d) :
    len ≤ cap ∧ len * P.bytesOf e ≤ 140737488351232 ∧ ∃ xs : List ByteArray, xs.length = len ∧ Reads W W.heap.size 1 A len (xs.map Value.string) := by
  obtain ⟨h1, -, h3, xs, h4, h5, h6⟩ := open_list_lt ht hc (by omega) (fun x : ByteArray => [.string x]) (fun _ => True) (fun _ => rfl) (fun cs' d' pl n _ htr _ hlen => by
    obtain ⟨z, rfl, -⟩ := DataW.trod_string he htr
    exact ⟨z, rfl, trivial⟩) h hsm
  rw [map_flat] at h5
  exact ⟨h1, h3, xs, h4, h5⟩
set_option maxRecDepth 100000 in
/-- a tree out of its datum: by induction on the reading's fuel -/
theorem open_tree4 (fuel : Nat) : ∀ {cs : List Value} {d : DataW H} {p : List MemPlace}, DataW.trod enc Tryd.prog W 0 (fun _ => true) held fuel 42 cs = some (d, p) → Sm Tryd.prog 42 d → cs.length = 4 → ∃ t, cs = TX.cells t ∧ Tr W W.heap.size t := by
  induction fuel using Nat.strongRecOn with
  | _ fuel ih =>
  intro cs d p htr hs hlen
  have hb25 : Tryd.prog.bytesOf 42 = 72 := by kernel_rfl
  have hb9 : Tryd.prog.bytesOf 9 = 16 := by kernel_rfl
  have hc3 : Tryd.prog.cellsOf 3 = 1 := by kernel_rfl
  have hc9 : Tryd.prog.cellsOf 9 = 1 := by kernel_rfl
  have hc22 : Tryd.prog.cellsOf 40 = 1 := by kernel_rfl
  have hc23 : Tryd.prog.cellsOf 23 = 1 := by kernel_rfl
  obtain ⟨ys, m, hfu, hx, -, hyl, hfd⟩ := DataW.trod_struct Tryd.underlying42 htr
  obtain ⟨c0, c1, c2, c3, rfl⟩ : ∃ c0 c1 c2 c3, cs = [c0, c1, c2, c3] := by
    match cs, hlen with
    | [c0, c1, c2, c3], _ => exact ⟨c0, c1, c2, c3, rfl⟩
  obtain ⟨y0, y1, y2, y3, rfl⟩ : ∃ y0 y1 y2 y3, ys = [y0, y1, y2, y3] := by
    match ys, hyl with
    | [y0, y1, y2, y3], _ => exact ⟨y0, y1, y2, y3, rfl⟩
  have hd : d = .agg [y0.1, y1.1, y2.1, y3.1] := by injection hx
  subst hd
  have e0 := hfd 0 _ rfl
  have e1 := hfd 1 _ rfl
  have e2 := hfd 2 _ rfl
  have e3 := hfd 3 _ rfl
  have s2 := sm_part hs Tryd.underlying42 (i := 2) rfl (d := y2.1) rfl
  have s3 := sm_part hs Tryd.underlying42 (i := 3) rfl (d := y3.1) rfl
  simp [hc3, hc9, hc22, hc23] at e0 e1 e2 e3
  obtain ⟨z0, q0, -, g0⟩ := DataW.trod_int Tryd.underlying3 e0
  obtain ⟨z1, q1, -⟩ := DataW.trod_string Tryd.underlying9 e1
  simp at q0 q1
  subst q0 q1
  obtain ⟨A2, l2, c2, rfl⟩ := slice_form Tryd.underlying40 e2
  obtain ⟨A3, l3, k3, rfl⟩ := slice_form Tryd.underlying23 e3
  obtain ⟨-, u1, ls, rfl, u2⟩ := open_strsS (d := y2.1) (p := y2.2) Tryd.underlying40 Tryd.underlying9 hc9 e2 s2
  obtain ⟨k1, -, k2, ks, rfl, k4, k5⟩ := open_list_lt (α := TX) (d := y3.1) (p := y3.2) Tryd.underlying23 (by kernel_rfl : Tryd.prog.cellsOf 42 = 4) (by omega) TX.cells (Tr W W.heap.size) TX.cells_len (fun cs' d' pl n hn htr' hs' hlen' => ih n (by omega) htr' hs' hlen') e3 s3
  rw [hb25] at k2
  rw [hb9] at u1
  exact ⟨.node z0 z1 A2 ls c2 A3 ks k3, rfl, .mk _ k4 u2 k2 k1 u1 (wf_i64 g0) k5⟩
theorem open_tree {cs : List Value} {d : DataW H} {p : List MemPlace} (h : ∃ fuel, DataW.trod enc Tryd.prog W 0 (fun _ => true) held fuel 42 cs = some (d, p)) (hs : Sm Tryd.prog 42 d) (hl : cs.length = 4) : ∃ t, cs = TX.cells t ∧ Tr W W.heap.size t := by
  obtain ⟨fuel, h⟩ := h
  exact open_tree4 fuel h hs hl
end
end Go.Proofs.YtdabmjcpiblofaaDoor
