/-
  A pack that came in, of bounded bulk; the frame of a law whose row lists variables, where what comes in is bounded. No condition.
-/
import Derived.Test.YtdabmjcpiblofaaDoorPkLaws
import Derived.Test.YtdabmjcpiblofaaDoorPkTs
import Derived.JoinedCond
namespace Go.Proofs.YtdabmjcpiblofaaDoor
open Go.ChangeShapes Go.WideShapes Go.ChangeAt Go.RowKit Go.Deep
set_option linter.unusedVariables false

section
variable {H : Type} {enc : TypeId × Value → H} {W : World} {held : Bool}
theorem sum_le {α : Type} (cost : α → Nat) : ∀ (l : List (DataW H)) (f : Nat → α), (∀ (i : Nat) d, l[i]? = some d → cost (f i) ≤ Rows.uptoBulk d) → (((List.range l.length).map f).map cost).sum ≤ Rows.uptoBulkAll l
  | [], f, h => by simp
  | d :: l, f, h => by
    have h1 := sum_le cost l (fun i => f (i + 1)) (fun i d hd => h (i + 1) d (by simpa using hd))
    have h0 := h 0 d (by simp)
    rw [List.length_cons, List.range_succ_eq_map]
    simp only [List.map_cons, List.map_map, List.sum_cons, Rows.uptoBulkAll] at h1 ⊢
    have e : (List.map (cost ∘ f ∘ Nat.succ) (List.range l.length)).sum = (List.map (cost ∘ fun i => f (i + 1)) (List.range l.length)).sum := rfl
    omega
theorem open_list_bulk {P : Program} {α : Type} [Inhabited α] {t e : TypeId} {size fuel len cap : Nat} {A : Option Addr} {d : DataW H} {p : List MemPlace} (cost : α → Nat) (ht : P.underlying t = some (.slice e)) (hc : P.cellsOf e = size) (hs : 0 < size) (cells : α → List Value) (good : α → Prop) (hl : ∀ x, (cells x).length = size)
    (each : ∀ cs' d' pl n, n < fuel → DataW.trod enc P W 0 (fun _ => true) held n e cs' = some (d', pl) → Sm P e d' → cs'.length = size → ∃ x, cs' = cells x ∧ good x ∧ cost x ≤ Rows.uptoBulk d')
    (h : DataW.trod enc P W 0 (fun _ => true) held fuel t [.slice A len cap] = some (d, p)) (hsm : Sm P t d) :
    len ≤ cap ∧ cap ≤ maxLen ∧ len * P.bytesOf e ≤ 140737488351232 ∧ ∃ xs : List α, xs.length = len ∧ Reads W W.heap.size size A len (xs.flatMap cells) ∧ (∀ x ∈ xs, good x) ∧ (xs.map cost).sum ≤ Rows.uptoBulk d := by
  rcases DataW.trod_slice ht h with ⟨h0, -⟩ | ⟨a, len', cap', elems, rest, n, hfu, hcs, hx, -, hlc, hm, hlen, hel, -, -⟩
  · simp at h0
    obtain ⟨rfl, rfl, rfl⟩ := h0
    exact ⟨Nat.le_refl _, Nat.zero_le _, by simp, [], rfl, Reads.none_, (fun x hx => by cases hx), by simp⟩
  · simp at hcs
    obtain ⟨rfl, rfl, rfl⟩ := hcs
    injection hx with hd hp
    subst hd
    refine ⟨hlc, hm, ?_, ?_⟩
    · have h1 := sm_len hsm ht
      simp only [List.length_map] at h1
      rw [← hlen]
      exact Nat.le_trans (Nat.mul_le_mul_right _ (Nat.le_add_right _ _)) h1
    · have ea : ∀ i, i < len → ∃ x, (good x ∧ ∀ y, elems[i]? = some y → cost x ≤ Rows.uptoBulk y.1) ∧ ∀ r u, (cells x)[r]? = some u → W.cell? (a.add (i * size + r)) = some u := by
        intro i hi
        have h1 := hel i hi
        obtain ⟨y, hy⟩ : ∃ y, elems[i]? = some y := ⟨_, List.getElem?_eq_getElem (by omega)⟩
        rw [hy, hc] at h1
        obtain ⟨cs', h2, h3⟩ := Option.bind_eq_some_iff.1 h1
        have h4 := World.cells?_some h2
        obtain ⟨x, hx, hg, hco⟩ := each cs' y.1 y.2 n (by omega) h3 (sm_elem hsm ht (List.mem_map.2 ⟨y, List.mem_of_getElem? hy, rfl⟩)) h4.2.1
        subst hx
        refine ⟨x, ⟨hg, fun y' hy' => by rw [hy] at hy'; injection hy' with hy'; subst hy'; exact hco⟩, fun r u hu => ?_⟩
        have hru := (List.getElem?_eq_some_iff.1 hu).1
        rw [hl] at hru
        rw [← hu, ← h4.2.2 r hru, add_of_add]
      obtain ⟨f, hf⟩ := choose_lt ea
      refine ⟨(List.range len).map f, by simp, ⟨by rw [flat_len hl]; simp, fun hn => ⟨a, rfl, ?_, fun j u hu => ?_⟩⟩, fun x hx => ?_, ?_⟩
      · obtain ⟨u, hu⟩ : ∃ u, (cells (f 0))[0]? = some u := ⟨_, List.getElem?_eq_getElem (by rw [hl]; exact hs)⟩
        have := World.block_lt_of_cell? W _ ((hf 0 hn).2 0 u hu)
        rwa [block_of_add] at this
      · have hj := (List.getElem?_eq_some_iff.1 hu).1
        rw [flat_len hl] at hj
        simp only [List.length_map, List.length_range] at hj
        have hk : j / size < len := Nat.div_lt_of_lt_mul (by rw [Nat.mul_comm]; exact hj)
        have hr' : j % size < size := Nat.mod_lt _ hs
        have hjj : j / size * size + j % size = j := by rw [Nat.mul_comm]; exact Nat.div_add_mod j size
        have h1 := flat_at hl ((List.range len).map f) (j / size) (j % size) (f (j / size)) (by rw [List.getElem?_map, List.getElem?_range hk]; rfl) hr'
        rw [hjj, hu] at h1
        have h2 := (hf _ hk).2 _ _ h1.symm
        rwa [hjj] at h2
      · obtain ⟨i, hi, rfl⟩ := List.mem_map.1 hx
        exact (hf i (by simpa using hi)).1.1
      · have := sum_le cost (elems.map Prod.fst) f (fun i d hd => by
          rw [List.getElem?_map] at hd
          obtain ⟨y, hy, rfl⟩ := Option.map_eq_some_iff.1 hd
          have hil := (List.getElem?_eq_some_iff.1 hy).1
          exact (hf i (by omega)).1.2 y hy)
        rw [List.length_map, hlen] at this
        have e : Rows.uptoBulkAll (List.map Prod.fst elems) ≤ Rows.uptoBulk (DataW.slice (List.map Prod.fst elems) (List.map Prod.fst rest)) := by simp only [Rows.uptoBulk]; omega
        exact Nat.le_trans this e

theorem sum_mem {α : Type} (cost : α → Nat) {l : List α} {x : α} (h : x ∈ l) : cost x ≤ (l.map cost).sum := by
  induction l with
  | nil => cases h
  | cons y l ih =>
    rw [List.map_cons, List.sum_cons]
    rcases List.mem_cons.1 h with rfl | h
    · omega
    · have := ih h; omega
/-- texts that came in, and how large they are -/
theorem open_texts {fuel len cap : Nat} {A : Option Addr} {d : DataW H} {p : List MemPlace} (h : DataW.trod enc Tryd.prog W 0 (fun _ => true) held fuel 40 [.slice A len cap] = some (d, p)) (hsm : Sm Tryd.prog 40 d) :
    len ≤ 140737488351232 ∧ ∃ xs : List ByteArray, xs.length = len ∧ Reads W W.heap.size 1 A len (xs.map Value.string) ∧ ∀ s ∈ xs, s.size ≤ Rows.uptoBulk d := by
  have hb9 : Tryd.prog.bytesOf 9 = 16 := by kernel_rfl
  obtain ⟨h1, -, h3, xs, h4, h5, -, h7⟩ := open_list_bulk (α := ByteArray) (fun s => s.size) Tryd.underlying40 (by kernel_rfl : Tryd.prog.cellsOf 9 = 1) (by omega) (fun x : ByteArray => [.string x]) (fun _ => True) (fun _ => rfl) (fun cs' d' pl n _ htr _ hlen => by
    obtain ⟨z, rfl, hz, -⟩ := DataW.trod_string Tryd.underlying9 htr
    injection hz with hz1 hz2
    refine ⟨z, rfl, trivial, ?_⟩
    rw [hz1]
    simp only [Rows.uptoBulk]
    have : z.data.toList.length = z.size := by simp
    omega) h hsm
  rw [hb9] at h3
  rw [flat_one] at h5
  exact ⟨by omega, xs, h4, h5, fun s hs => Nat.le_trans (sum_mem (fun s : ByteArray => s.size) hs) h7⟩
/-- a node's cost: its text, its largest lead -/
def PX.good (p : PX) (W : World) (n : Nat) : Prop := Reads W W.heap.size 1 p.lA p.leads.length (p.leads.map Value.string) ∧ Reads W W.heap.size 1 p.kA p.kids.length (p.kids.map (Value.int .i64)) ∧ i64 p.kind ∧ p.text.size ≤ n ∧ (∀ s ∈ p.leads, s.size ≤ n) ∧ (∀ k ∈ p.kids, i64 k) ∧ p.leads.length ≤ 140737488351232 ∧ p.kids.length ≤ 140737488351232
theorem PX.good.more {p : PX} {W : World} {n m : Nat} (h : p.good W n) (hm : n ≤ m) : p.good W m := by
  obtain ⟨h1, h2, h3, h4, h5, h6⟩ := h
  exact ⟨h1, h2, h3, by omega, fun s hs => Nat.le_trans (h5 s hs) hm, h6⟩
theorem open_ints {fuel len cap : Nat} {A : Option Addr} {d : DataW H} {p : List MemPlace} (h : DataW.trod enc Tryd.prog W 0 (fun _ => true) held fuel 27 [.slice A len cap] = some (d, p)) (hsm : Sm Tryd.prog 27 d) :
    len ≤ 140737488351232 ∧ ∃ xs : List Int, xs.length = len ∧ Reads W W.heap.size 1 A len (xs.map (Value.int .i64)) ∧ ∀ k ∈ xs, i64 k := by
  have hb : Tryd.prog.bytesOf 3 = 8 := by kernel_rfl
  obtain ⟨h1, -, h3, xs, h4, h5, h6, -⟩ := open_list_bulk (α := Int) (fun _ => 0) Tryd.underlying27 (by kernel_rfl : Tryd.prog.cellsOf 3 = 1) (by omega) (fun x : Int => [.int .i64 x]) (fun x => i64 x) (fun _ => rfl) (fun cs' d' pl n _ htr _ hlen => by
    obtain ⟨c0, rfl⟩ : ∃ c0, cs' = [c0] := by
      match cs', hlen with
      | [c0], _ => exact ⟨c0, rfl⟩
    obtain ⟨z, q, -, g⟩ := DataW.trod_int Tryd.underlying3 htr
    exact ⟨z, q, wf_i64 g, Nat.zero_le _⟩) h hsm
  rw [hb] at h3
  rw [flat_one] at h5
  exact ⟨by omega, xs, h4, h5, h6⟩
def PX.z : PX := ⟨0, ⟨#[]⟩, none, [], 0, none, [], 0⟩
instance : Inhabited PX := ⟨PX.z⟩
def maxl (ls : List ByteArray) : Nat := ls.foldr (fun s m => max s.size m) 0
theorem maxl_le {n : Nat} : ∀ {ls : List ByteArray}, (∀ s ∈ ls, s.size ≤ n) → maxl ls ≤ n
  | [], _ => Nat.zero_le _
  | s :: ls, h => by
    have h1 := h s List.mem_cons_self
    have h2 := maxl_le (ls := ls) (fun x hx => h x (List.mem_cons_of_mem _ hx))
    unfold maxl at h2 ⊢
    rw [List.foldr_cons]
    omega
theorem maxl_ge : ∀ {ls : List ByteArray} {s : ByteArray}, s ∈ ls → s.size ≤ maxl ls
  | x :: ls, s, h => by
    unfold maxl
    rw [List.foldr_cons]
    rcases List.mem_cons.1 h with rfl | h
    · omega
    · have := maxl_ge h
      unfold maxl at this
      omega
def PX.cost (p : PX) : Nat := max p.text.size (maxl p.leads)
theorem PX.good.cost {p : PX} {W : World} {n : Nat} (h : p.good W n) : p.cost ≤ n := by
  have := maxl_le h.2.2.2.2.1
  have := h.2.2.2.1
  unfold PX.cost; omega
theorem PX.good.less {p : PX} {W : World} {n m : Nat} (h : p.good W n) (hm : p.cost ≤ m) : p.good W m := by
  obtain ⟨h1, h2, h3, h4, h5, h6⟩ := h
  unfold PX.cost at hm
  exact ⟨h1, h2, h3, by omega, fun s hs => by have := maxl_ge hs; omega, h6⟩
set_option maxRecDepth 100000 in
/-- nodes that came in -/
theorem open_pnodes {fuel len cap : Nat} {A : Option Addr} {d : DataW H} {p : List MemPlace} (h : DataW.trod enc Tryd.prog W 0 (fun _ => true) held fuel 26 [.slice A len cap] = some (d, p)) (hsm : Sm Tryd.prog 26 d) (hbk : Rows.uptoBulk d ≤ 1048576) :
    len ≤ 140737488351232 ∧ ∃ xs : List PX, xs.length = len ∧ Reads W W.heap.size 4 A len (xs.flatMap PX.cells) ∧ ∀ x ∈ xs, x.good W 1048576 := by
  have hb : Tryd.prog.bytesOf 48 = 72 := by kernel_rfl
  have hc3 : Tryd.prog.cellsOf 3 = 1 := by kernel_rfl
  have hc9 : Tryd.prog.cellsOf 9 = 1 := by kernel_rfl
  have hcl : Tryd.prog.cellsOf 40 = 1 := by kernel_rfl
  have hck : Tryd.prog.cellsOf 27 = 1 := by kernel_rfl
  have key : ∀ (m : Nat) (cs' : List Value) (d' : DataW H) (pl : List MemPlace), DataW.trod enc Tryd.prog W 0 (fun _ => true) held m 48 cs' = some (d', pl) → Sm Tryd.prog 48 d' → cs'.length = 4 → ∃ x : PX, cs' = x.cells ∧ x.good W (Rows.uptoBulk d') := by
    intro m cs' d' pl htr hs hlen
    obtain ⟨ys, k, hfu, hx, -, hyl, hfd⟩ := DataW.trod_struct Tryd.underlying48 htr
    obtain ⟨c0, c1, c2, c3, rfl⟩ : ∃ c0 c1 c2 c3, cs' = [c0, c1, c2, c3] := by
      match cs', hlen with
      | [c0, c1, c2, c3], _ => exact ⟨c0, c1, c2, c3, rfl⟩
    obtain ⟨y0, y1, y2, y3, rfl⟩ : ∃ y0 y1 y2 y3, ys = [y0, y1, y2, y3] := by
      match ys, hyl with
      | [y0, y1, y2, y3], _ => exact ⟨y0, y1, y2, y3, rfl⟩
    have hd : d' = .agg [y0.1, y1.1, y2.1, y3.1] := by injection hx
    subst hd
    have e0 := hfd 0 _ rfl
    have e1 := hfd 1 _ rfl
    have e2 := hfd 2 _ rfl
    have e3 := hfd 3 _ rfl
    have s2 := sm_part hs Tryd.underlying48 (i := 2) rfl (d := y2.1) rfl
    have s3 := sm_part hs Tryd.underlying48 (i := 3) rfl (d := y3.1) rfl
    simp [hc3, hc9, hcl, hck] at e0 e1 e2 e3
    obtain ⟨z0, q0, -, g0⟩ := DataW.trod_int Tryd.underlying3 e0
    obtain ⟨z1, q1, hz1, -⟩ := DataW.trod_string Tryd.underlying9 e1
    simp at q0 q1
    subst q0 q1
    obtain ⟨A2, l2, k2, rfl⟩ := slice_form Tryd.underlying40 e2
    obtain ⟨A3, l3, k3, rfl⟩ := slice_form Tryd.underlying27 e3
    obtain ⟨u1, ls, rfl, u2, u3⟩ := open_texts (d := y2.1) (p := y2.2) e2 s2
    obtain ⟨v1, ks, rfl, v2, v3⟩ := open_ints (d := y3.1) (p := y3.2) e3 s3
    have hy1 : y1.1 = .lit (.string z1.data.toList) := by rw [hz1]
    refine ⟨⟨z0, z1, A2, ls, k2, A3, ks, k3⟩, rfl, u2, v2, wf_i64 g0, ?_, fun s hs' => ?_, v3, u1, v1⟩
    · simp only [Rows.uptoBulk, Rows.uptoBulkAll, hy1]
      have : z1.data.toList.length = z1.size := by simp
      show z1.size ≤ _
      omega
    · have := u3 s hs'
      simp only [Rows.uptoBulk, Rows.uptoBulkAll]
      omega
  obtain ⟨h1, -, h3, xs, h4, h5, h6, h7⟩ := open_list_bulk (α := PX) PX.cost Tryd.underlying26 (by kernel_rfl : Tryd.prog.cellsOf 48 = 4) (by omega) PX.cells (fun x => ∃ b, x.good W b) PX.cells_len (fun cs' d' pl n _ htr hs hl => by
    obtain ⟨x, e, hg⟩ := key n cs' d' pl htr hs hl
    exact ⟨x, e, ⟨_, hg⟩, hg.cost⟩) h hsm
  rw [hb] at h3
  refine ⟨by omega, xs, h4, h5, fun x hx => ?_⟩
  obtain ⟨b, hg⟩ := h6 x hx
  have := sum_mem PX.cost hx
  exact hg.less (by omega)
set_option maxRecDepth 100000 in
/-- a pack that came in -/
theorem arg_pack {r : Reach} {b0 : Nat} {v : Value} {d : DataW H} {p : List MemPlace} (hv : Value.okWide Tryd.prog W r b0 29 v) (h : DataW.Trod enc Tryd.prog W 0 (fun _ => true) held 29 v d p) (hs : Sm Tryd.prog 29 d) (hbk : Rows.uptoBulk d ≤ 1048576) : ∃ u : PkV, v = u.val ∧ u.raw W W.heap.size := by
  obtain ⟨cs, rfl, hsz⟩ := okWide_struct Tryd.underlying29 hv
  have hc : Tryd.prog.cellsOf 29 = 2 := by kernel_rfl
  have hcn : Tryd.prog.cellsOf 26 = 1 := by kernel_rfl
  have hck : Tryd.prog.cellsOf 27 = 1 := by kernel_rfl
  obtain ⟨fuel, hf⟩ := h
  obtain ⟨ys, k, hfu, hx, -, hyl, hfd⟩ := DataW.trod_struct Tryd.underlying29 hf
  rw [hc] at hsz
  obtain ⟨c0, c1, rfl⟩ : ∃ c0 c1, cs = #[c0, c1] := by
    have hl : cs.toList.length = 2 := by simpa using hsz
    match hcs : cs.toList, hl with
    | [c0, c1], _ => exact ⟨c0, c1, by rw [← hcs]⟩
  obtain ⟨y0, y1, rfl⟩ : ∃ y0 y1, ys = [y0, y1] := by
    match ys, hyl with
    | [y0, y1], _ => exact ⟨y0, y1, rfl⟩
  have hd : d = .agg [y0.1, y1.1] := by injection hx
  subst hd
  have e0 := hfd 0 _ rfl
  have e1 := hfd 1 _ rfl
  have s0 := sm_part hs Tryd.underlying29 (i := 0) rfl (d := y0.1) rfl
  have s1 := sm_part hs Tryd.underlying29 (i := 1) rfl (d := y1.1) rfl
  simp only [Rows.uptoBulk, Rows.uptoBulkAll] at hbk
  simp [hcn, hck, Value.cells] at e0 e1
  obtain ⟨A0, l0, k0, rfl⟩ := slice_form Tryd.underlying26 e0
  obtain ⟨A1, l1, k1, rfl⟩ := slice_form Tryd.underlying27 e1
  obtain ⟨u1, ps, rfl, u2, u3⟩ := open_pnodes (d := y0.1) (p := y0.2) e0 s0 (by omega)
  obtain ⟨v1, rs, rfl, v2, v3⟩ := open_ints (d := y1.1) (p := y1.2) e1 s1
  exact ⟨⟨A0, ps, k0, A1, rs, k1⟩, rfl, u2, v2, u3, u1, v1, v3⟩
theorem law_of_walk_laidU {C : Checked} {os : Os} {f : FuncId} {fn : Func} {s : ChangeSpec} {F : Stop.Interp} {tb : TypeId} {laid : List (String × DataW Unit)} (own : ownKnob C.prog.godebug = none) (started : os.Started) (noInit : C.prog.inits.idxOf? f = none) (hfn : C.prog.funcs[f]? = some fn)
    (hvars : s.vars = []) (hres : fn.resultTypes = #[tb]) (htb : C.prog.underlying tb = some .bool) (hlaid : laidOutB C.prog = true) (hread : fn.params.toList.all (fun t => C.prog.readableRec t && decide (t < C.prog.types.size)) = true)
    (hspec : ∀ ds : List (DataW H), ds.length = fn.params.toList.length → s.fn H (ds ++ []) = { results := [.lit (.bool true)], args := ds })
    (witness : ∃ (w : World) (tape : Tape) (i : Input), w.os = os ∧ (w.forCall tape i).Shaped C.prog ∧ i.vars = [] ∧ Input.okWide C.prog (w.forCall tape i) .any w.heap.size f i ∧
      (Rows.OpenSpec.upto s).preRow enc C.prog fn [] false laid (w.forCall tape i).memory i.args ∧ Assume.holds {} C.prog (lone (Frame.enter C.prog f i.args .normal) [] (w.forCall tape i)))
    (contract : ∀ (W : World) (base : Nat) (args : Array Value) (ds : List (DataW H)) (p : List MemPlace),
      (∀ (j : Nat) t v, fn.params[j]? = some t → args[j]? = some v → Value.okWide C.prog W .any base t v) →
      DataW.TrodAll enc C.prog W 0 (fun _ => true) true fn.params.toList args.toList ds p →
      (DataW.weightsEach C.prog fn.params.toList ds).all (· ≤ reachBytes) = true →
      laidMetH C.prog laid W → Rows.uptoBulkAll ds ≤ 1048576 →
      Calls C.prog f args W fun e W' => e = .returned (.bool true) ∧ Below W.heap.size W W') :
    ReturnsInHanded {} C os f .any ((Rows.OpenSpec.upto s).preRow enc C.prog fn [] false laid) (((Rows.OpenSpec.upto s).at F).post enc C.prog fn false true false false) := by
  refine returnsInHanded_of_row own started noInit hfn witness ?_
  intro W base args ds gs before hval hW0 _ hcond hsz hL _ _
  have hW : DataW.Whole enc C.prog fn.params.toList s.vars false W args.toList ds gs before := hW0
  have hW' := hW
  obtain ⟨p, q, hA, hV, rfl, _, _⟩ := hW
  rw [hvars] at hV
  obtain ⟨rfl, rfl⟩ := trodVars_none hV
  have hlen := trodAll_length _ _ _ _ hA
  have hsz' : (DataW.weightsEach C.prog fn.params.toList ds).all (· ≤ reachBytes) = true := by
    have e : (Rows.OpenSpec.upto s).bare.plain.varTypes C.prog = [] := by
      show DataSpec.varTypes C.prog s.plain = []
      unfold DataSpec.varTypes ChangeSpec.plain; rw [hvars]; rfl
    rw [e, List.append_nil, List.append_nil] at hsz
    exact hsz
  have hk' : Rows.uptoBulkAll ds ≤ 1048576 := by
    have hk := hcond _ rfl
    rw [List.append_nil] at hk
    exact of_decide_eq_true hk
  refine (contract W base args ds p hval hA hsz' hL hk').mono fun e W' ⟨he, bel⟩ => ?_
  subst he
  have hlt : ∀ x ∈ p, x.block < W.heap.size := fun x hx => by simpa using hW'.lt x (by simpa using hx)
  refine ⟨_, rfl, ?_⟩
  show s.post enc C.prog fn false true false false W args _ W'
  refine ⟨ds, [], p ++ [], [], p, [], hW', ?_, ?_, ?_, bel.frame _, fun h => by cases h⟩
  · rw [hspec ds hlen, hres]
    exact trodAll_mk1 (shut_bool htb _)
  · rw [hspec ds hlen]
    exact trodAll_stays hlaid bel _ _ _ _ hread hA hlt
  · rw [hspec ds hlen, hvars]
    rfl
end
end Go.Proofs.YtdabmjcpiblofaaDoor
