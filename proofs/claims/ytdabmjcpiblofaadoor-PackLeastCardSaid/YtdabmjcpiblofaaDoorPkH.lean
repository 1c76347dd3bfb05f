/-
  Arrays of numbers of one's own. Packs as they lie in memory; sum; sizes of plain packs. No condition.
-/
import Derived.Test.YtdabmjcpiblofaaDoorRows
import Derived.Test.YtdabmjcpiblofaaDoorPkOwn
import Derived.Laws.MakeOwn
import Derived.Test.YtdabmjcpiblofaaDoorPkE
namespace Go.Proofs.YtdabmjcpiblofaaDoor
open Go.RowKit
set_option linter.unusedVariables false

/-- a load that waits for the calls beside it -/
abbrev Late (o : Op) : Op := o
theorem late_load (t : TypeId) (k : Nat) : Op.load t (.tmp k) = Late (Op.load t (.tmp k)) := rfl
def upd {α : Type} (f : Nat → α) (i : Nat) (x : α) : Nat → α := fun j => if j = i then x else f j
theorem upd_same {α : Type} (f : Nat → α) (i : Nat) (x : α) : upd f i x i = x := by simp [upd]
theorem upd_ne {α : Type} (f : Nat → α) {i j : Nat} (x : α) (h : j ≠ i) : upd f i x j = f j := by simp [upd, h]
abbrev Ints (w : World) (B : Nat) (A : Option Addr) (n : Nat) (l : List Int) : Prop := Reads w B 1 A n (l.map (Value.int .i64))
theorem Ints.len {w : World} {B n : Nat} {A : Option Addr} {l : List Int} (h : Ints w B A n l) : l.length = n := by have := h.1; simpa using this
theorem Ints.at_ {w : World} {B n k : Nat} {A : Option Addr} {l : List Int} (h : Ints w B A n l) (hk : k < n) :
    ∃ b off x, A = some ⟨b, off, none⟩ ∧ b < B ∧ l[k]? = some x ∧ w.cell? ⟨b, off + k, none⟩ = some (.int .i64 x) := by
  obtain ⟨b, off, u, e, hb, hu, hc⟩ := h.at1 hk
  rw [List.getElem?_map] at hu
  cases hx : l[k]? with
  | none => rw [hx] at hu; cases hu
  | some x =>
    rw [hx] at hu
    simp at hu
    subst hu
    exact ⟨b, off, x, e, hb, rfl, hc⟩

theorem madeCells_one (v : Value) (n : Nat) : madeCells #[v] n = (List.replicate n v).toArray := by
  unfold madeCells
  apply Array.ext
  · simp
  · intro i h1 h2
    simp [Nat.mod_one]


theorem int_info : (Tryd.prog.info? 3).map (fun i => (i.zero, i.size, i.bytes)) = some (some (.int .i64 0), 1, 8) := by kernel_rfl
theorem make_ints (n : Nat) (hn : n ≤ 1000000) (w : World) : (Instr.makeSlice 27 (.int .i64 (n : Int)) (.int .i64 (n : Int))).run Tryd.prog w = .ok (.slice (some ⟨w.heap.size, 0, none⟩) n n) (w.alloc (.cells (Array.replicate n (Value.int .i64 0)) 3)) := by
  obtain ⟨i, hi, hz, hs, hb⟩ := info_parts int_info
  have h := run_make (P := Tryd.prog) w 27 3 i (.int .i64 0) Tryd.underlying27 hi hz .i64 .i64 n n (by omega) (by omega) (by rw [hb]; omega) (by omega)
  rw [hs] at h
  simpa [madeCells_one, Value.cells] using h

/-- block b holds n values -/
def Vec (w : World) (b : Nat) (t : TypeId) (n : Nat) (f : Nat → Value) : Prop := Blk w b t ((List.range n).map f).toArray
def iv (f : Nat → Int) : Nat → Value := fun i => .int .i64 (f i)
section
variable {w w' : World} {b : Nat} {t : TypeId} {n : Nat} {f g : Nat → Value}
theorem Vec.lt (h : Vec w b t n f) : b < w.heap.size := Blk.lt h
theorem Vec.at_ (h : Vec w b t n f) {i : Nat} (hi : i < n) : w.cell? ⟨b, i, none⟩ = some (f i) := by
  rw [Blk.cell h]
  simp [hi]
theorem Vec.frozen (h : Vec w b t n f) (i : Nat) : w.frozen? ⟨b, i, none⟩ = false := Blk.frozen h i
theorem Vec.congr (h : Vec w b t n f) (e : ∀ i, i < n → g i = f i) : Vec w b t n g := by
  unfold Vec
  rw [show (List.range n).map g = (List.range n).map f from List.map_congr_left fun i hi => e i (List.mem_range.1 hi)]
  exact h
theorem Vec.set_ (h : Vec w b t n f) (i : Nat) (u : Value) : Vec (w.setCell ⟨b, i, none⟩ u) b t n (upd f i u) := by
  have h1 := Blk.set_ h i u
  have e : (((List.range n).map f).toArray.setIfInBounds i u) = ((List.range n).map (upd f i u)).toArray := by
    rw [List.setIfInBounds_toArray]
    congr 1
    apply List.ext_getElem
    · simp
    · intro j h1 h2
      rw [List.getElem_set]
      simp only [List.getElem_map, List.getElem_range]
      by_cases e : i = j
      · subst e; rw [if_pos rfl, upd_same]
      · rw [if_neg e, upd_ne _ _ (fun e' => e e'.symm)]
  rw [e] at h1
  exact h1
theorem Vec.alloc (h : Vec w b t n f) (o : Obj) : Vec (w.alloc o) b t n f := Blk.alloc h o
theorem Vec.drewN (h : Vec w b t n f) (k : Nat) : Vec (w.drewN k) b t n f := h
theorem Vec.drew (h : Vec w b t n f) : Vec w.drew b t n f := h
theorem Vec.far (h : Vec w b t n f) {p : Addr} (hp : b ≠ p.block) (u : Value) : Vec (w.setCell p u) b t n f := Blk.far h hp u
theorem Vec.chg {M : Nat → Prop} (h : Vec w b t n f) (hc : Chg w w' M) (hb : ¬ M b) : Vec w' b t n f := Blk.chg h hc hb
theorem Vec.below {B : Nat} (h : Vec w b t n f) (hb : Below B w w') (hB : b < B) : Vec w' b t n f := Blk.below h hb hB
theorem Vec.new (w : World) (t : TypeId) (n : Nat) (v : Value) : Vec (w.alloc (.cells (Array.replicate n v) t)) w.heap.size t n (fun _ => v) := by
  have h := Blk.new w t (Array.replicate n v)
  have e : Array.replicate n v = ((List.range n).map fun _ => v).toArray := by
    apply Array.ext
    · simp
    · intro i h1 h2
      simp
  unfold Vec
  rw [← e]
  exact h
theorem upd_iv (f : Nat → Int) (i : Nat) (x : Int) : upd (iv f) i (.int .i64 x) = iv (upd f i x) := by
  funext j
  by_cases e : j = i <;> simp [upd, iv, e]
end
abbrev IVec (w : World) (b n : Nat) (f : Nat → Int) : Prop := Vec w b 3 n (iv f)
section
variable {w : World} {b n : Nat} {f : Nat → Int}
theorem IVec.at_ (h : IVec w b n f) {i : Nat} (hi : i < n) : w.cell? ⟨b, i, none⟩ = some (.int .i64 (f i)) := Vec.at_ h hi
theorem IVec.set_ (h : IVec w b n f) (i : Nat) (x : Int) : IVec (w.setCell ⟨b, i, none⟩ (.int .i64 x)) b n (upd f i x) := by
  have h1 := Vec.set_ h i (.int .i64 x)
  rwa [upd_iv] at h1
theorem IVec.congr {g : Nat → Int} (h : IVec w b n f) (e : ∀ i, i < n → g i = f i) : IVec w b n g := Vec.congr h fun i hi => by unfold iv; rw [e i hi]
theorem IVec.ints (h : IVec w b n f) : Ints w w.heap.size (some ⟨b, 0, none⟩) n ((List.range n).map f) :=
  ⟨by simp, fun _ => ⟨_, rfl, Vec.lt h, fun j u hu => by
    rw [Addr.add_lit, Nat.zero_add, Blk.cell h]
    rw [List.map_map] at hu
    simpa [iv, Function.comp_def] using hu⟩⟩
end

theorem Chg.of_new {w w' : World} (h : Below w.heap.size w w') (M : Nat → Prop) : Chg w w' M := ⟨h.os, h.tape, h.output, h.size, fun i hi _ => h.block i hi⟩
theorem bal {w w' : World} (h : Below w.heap.size w w') (o : Obj) : Below w.heap.size w (w'.alloc o) := h.alloc h.size o
theorem blk_reads {w : World} {g n size : Nat} {t : TypeId} {xs : List Value} (h : Blk w g t xs.toArray) (hl : xs.length = n * size) : Reads w w.heap.size size (some ⟨g, 0, none⟩) n xs :=
  ⟨hl, fun _ => ⟨_, rfl, h.lt, fun j u hu => by rw [Addr.add_lit, Nat.zero_add, h.cell]; simpa using hu⟩⟩
end Go.Proofs.YtdabmjcpiblofaaDoor

namespace Go.Proofs.YtdabmjcpiblofaaDoor
open Go.RowKit
set_option linter.unusedVariables false

def i64 (x : Int) : Prop := -9223372036854775808 ≤ x ∧ x ≤ 9223372036854775807
/-- a node that can be read -/
structure PX.ok (p : PX) (w : World) (B : Nat) : Prop where
  leads : Reads w B 1 p.lA p.leads.length (p.leads.map Value.string)
  kids : Reads w B 1 p.kA p.kids.length (p.kids.map (Value.int .i64))
  kind : i64 p.kind
  text : p.text.size ≤ 9223372036854775807
  lk : (leadsK p.leads).length ≤ 140737488355328
  ll : p.leads.length * 16 ≤ 140737488351232
  kl : p.kids.length ≤ 1000000
  kk : ∀ k ∈ p.kids, i64 k
/-- a pack in memory -/
structure PkV where
  nA : Option Addr
  ps : List PX
  nc : Nat
  rA : Option Addr
  rs : List Int
  rc : Nat
def PkV.ns (v : PkV) : List PN := v.ps.map PX.plain
def PkV.val (v : PkV) : Value := .agg #[.slice v.nA v.ps.length v.nc, .slice v.rA v.rs.length v.rc]
def PkV.arr (v : PkV) : Array Value := #[.slice v.nA v.ps.length v.nc, .slice v.rA v.rs.length v.rc]
structure PkV.ok (v : PkV) (w : World) (B : Nat) : Prop where
  nodes : Reads w B 4 v.nA v.ps.length (v.ps.flatMap PX.cells)
  roots : Reads w B 1 v.rA v.rs.length (v.rs.map (Value.int .i64))
  each : ∀ p ∈ v.ps, p.ok w B
  nl : v.ps.length ≤ 1000000
  rl : v.rs.length ≤ 1000000
  rr : ∀ r ∈ v.rs, i64 r
section
variable {w w' : World} {B B' : Nat} {p : PX} {v : PkV}
theorem PX.ok.low (h : p.ok w B) (hb : Below B w w') : p.ok w' B := ⟨h.leads.below hb, h.kids.below hb, h.kind, h.text, h.lk, h.ll, h.kl, h.kk⟩
theorem PX.ok.more (h : p.ok w B) (hB : B ≤ B') : p.ok w B' := ⟨h.leads.more hB, h.kids.more hB, h.kind, h.text, h.lk, h.ll, h.kl, h.kk⟩
theorem PkV.ok.low (h : v.ok w B) (hb : Below B w w') : v.ok w' B := ⟨h.nodes.below hb, h.roots.below hb, fun p hp => (h.each p hp).low hb, h.nl, h.rl, h.rr⟩
theorem PkV.ok.more (h : v.ok w B) (hB : B ≤ B') : v.ok w B' := ⟨h.nodes.more hB, h.roots.more hB, fun p hp => (h.each p hp).more hB, h.nl, h.rl, h.rr⟩
theorem PkV.ok.up (h : v.ok w B) (hB : B ≤ w.heap.size) (hb : Below w.heap.size w w') : v.ok w' w'.heap.size := (h.low (hb.mono hB)).more (Nat.le_trans hB hb.size)
theorem PkV.ns_len (v : PkV) : v.ns.length = v.ps.length := by unfold PkV.ns; simp
theorem PkV.ns_at (v : PkV) {i : Nat} {p : PX} (h : v.ps[i]? = some p) : v.ns[i]? = some p.plain := by unfold PkV.ns; rw [List.getElem?_map, h]; rfl
/-- a node's cells -/
theorem PkV.ok.at_ (h : v.ok w B) {i : Nat} {p : PX} (hi : v.ps[i]? = some p) : ∃ ab ao, v.nA = some ⟨ab, ao, none⟩ ∧ ab < B ∧ w.cell? ⟨ab, ao + i * 4, none⟩ = some (.int .i64 p.kind) ∧ w.cell? ⟨ab, ao + i * 4 + 1, none⟩ = some (.string p.text) ∧ w.cell? ⟨ab, ao + i * 4 + 2, none⟩ = some (.slice p.lA p.leads.length p.lc) ∧ w.cell? ⟨ab, ao + i * 4 + 3, none⟩ = some (.slice p.kA p.kids.length p.kc) := by
  have hkl := (List.getElem?_eq_some_iff.1 hi).1
  obtain ⟨ab, ao, e, hb, hc⟩ := h.nodes.head (by omega) (by omega)
  refine ⟨ab, ao, e, hb, ?_, ?_, ?_, ?_⟩
  · exact hc (i * 4) _ (flat_at PX.cells_len v.ps i 0 p hi (by omega))
  · have := hc (i * 4 + 1) _ (flat_at PX.cells_len v.ps i 1 p hi (by omega)); rwa [← Nat.add_assoc] at this
  · have := hc (i * 4 + 2) _ (flat_at PX.cells_len v.ps i 2 p hi (by omega)); rwa [← Nat.add_assoc] at this
  · have := hc (i * 4 + 3) _ (flat_at PX.cells_len v.ps i 3 p hi (by omega)); rwa [← Nat.add_assoc] at this
end
abbrev natV (n : Nat) : Value := .int .i64 (n : Int)

theorem capSum_take {ns : List Nat} {j x : Nat} (h : ns[j]? = some x) : capSum (ns.take (j + 1)) = min (capSum (ns.take j) + x) 20001 := by
  rw [take_snoc' h, capSum_snoc]

set_option maxRecDepth 100000 in
set_option maxHeartbeats 800000 in
theorem sum_any (A : Option Addr) (c B : Nat) (ns : List Nat) (w : World) (hr : Reads w B 1 A ns.length (ns.map natV)) (hn : ∀ n ∈ ns, n ≤ 20001) (hl : ns.length ≤ 140737488351232) :
    Calls Tryd.prog 42 #[.slice A ns.length c] w fun e w' => e = .returned (.int .i64 (capSum ns : Int)) ∧ w = w' := by
  obtain ⟨n, hnl⟩ : ∃ n, ns.length = n := ⟨_, rfl⟩
  rw [hnl] at hr hl ⊢
  have HR := Lib.hid hr
  have HN := Lib.hid hn
  have HL := Lib.hid hnl
  clear hr hn hnl
  go_enter Tryd.func42, Tryd.ntmps42
  go_wp2_with fail
  go_loop [3, 8] (fun s i => ∃ j : Nat, j ≤ n ∧ i = .int .i64 (j : Int) ∧ s = .int .i64 (capSum (ns.take j) : Int)) (fun _ i => n - (intOf i).toNat)
  case atStart => exact ⟨0, by omega, rfl, by simp [capSum]⟩
  case round =>
    obtain ⟨j, hj, rfl, rfl⟩ := hrel
    have hc0 := capSum_le (ns.take j)
    by_cases hlt : j < n
    · obtain ⟨x, hx⟩ : ∃ x, ns[j]? = some x := ⟨_, List.getElem?_eq_getElem (by rw [HL.out]; exact hlt)⟩
      obtain ⟨b1, o1, u1, rfl, -, hu1, g1⟩ := HR.out.at1 hlt
      obtain rfl : u1 = natV x := by rw [List.getElem?_map, hx] at hu1; simpa using hu1.symm
      have hxl := HN.out x (List.mem_of_getElem? hx)
      have HT := Lib.hid (capSum_take hx)
      unfold natV at g1
      clear hx hu1
      go_wp2_with fail
      go_round
      case rel => exact ⟨j + 1, by omega, by go_num, by rw [HT.out]; first | rfl | (congr 1; omega)⟩
      case measure => simp [intOf]; omega
    · have HE : Hid (capSum (ns.take j) = capSum ns) := by unfold Hid; rw [List.take_of_length_le (by rw [HL.out]; omega)]
      go_wp2_with fail
      go_ret
      exact ⟨by rw [HE.out]; rfl, rfl⟩
end Go.Proofs.YtdabmjcpiblofaaDoor
