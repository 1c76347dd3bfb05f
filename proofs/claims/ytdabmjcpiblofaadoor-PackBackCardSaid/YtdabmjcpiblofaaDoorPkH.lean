/-
  Packs as they lie in memory; sum; sizes of plain packs. No condition.
-/
import Derived.Test.YtdabmjcpiblofaaDoorPkP
import Derived.Test.YtdabmjcpiblofaaDoorPkV
namespace Go.Proofs.YtdabmjcpiblofaaDoor
open Go.RowKit
set_option linter.unusedVariables false

def i64 (x : Int) : Prop := -9223372036854775808 ≤ x ∧ x ≤ 9223372036854775807
/-- a node that can be read -/
structure PX.ok (p : PX) (w : World) (B : Nat) : Prop where
  leads : Reads w B 1 p.lA p.leads.length (p.leads.map Value.string)
  kids : Reads w B 1 p.kA p.kids.length (p.kids.map (Value.int .i64))
  kind : i64 p.kind
  text : p.text.size ≤ 9223372036854775807
  lk : (leadsK p.leads).length ≤ 140737488355328
  ll : p.leads.length * 16 ≤ 140737488351232
  kl : p.kids.length ≤ 1000000
  kk : ∀ k ∈ p.kids, i64 k
/-- a pack in memory -/
structure PkV where
  nA : Option Addr
  ps : List PX
  nc : Nat
  rA : Option Addr
  rs : List Int
  rc : Nat
def PkV.ns (v : PkV) : List PN := v.ps.map PX.plain
def PkV.val (v : PkV) : Value := .agg #[.slice v.nA v.ps.length v.nc, .slice v.rA v.rs.length v.rc]
def PkV.arr (v : PkV) : Array Value := #[.slice v.nA v.ps.length v.nc, .slice v.rA v.rs.length v.rc]
structure PkV.ok (v : PkV) (w : World) (B : Nat) : Prop where
  nodes : Reads w B 4 v.nA v.ps.length (v.ps.flatMap PX.cells)
  roots : Reads w B 1 v.rA v.rs.length (v.rs.map (Value.int .i64))
  each : ∀ p ∈ v.ps, p.ok w B
  nl : v.ps.length ≤ 1000000
  rl : v.rs.length ≤ 1000000
  rr : ∀ r ∈ v.rs, i64 r
section
variable {w w' : World} {B B' : Nat} {p : PX} {v : PkV}
theorem PX.ok.low (h : p.ok w B) (hb : Below B w w') : p.ok w' B := ⟨h.leads.below hb, h.kids.below hb, h.kind, h.text, h.lk, h.ll, h.kl, h.kk⟩
theorem PX.ok.more (h : p.ok w B) (hB : B ≤ B') : p.ok w B' := ⟨h.leads.more hB, h.kids.more hB, h.kind, h.text, h.lk, h.ll, h.kl, h.kk⟩
theorem PkV.ok.low (h : v.ok w B) (hb : Below B w w') : v.ok w' B := ⟨h.nodes.below hb, h.roots.below hb, fun p hp => (h.each p hp).low hb, h.nl, h.rl, h.rr⟩
theorem PkV.ok.more (h : v.ok w B) (hB : B ≤ B') : v.ok w B' := ⟨h.nodes.more hB, h.roots.more hB, fun p hp => (h.each p hp).more hB, h.nl, h.rl, h.rr⟩
theorem PkV.ok.up (h : v.ok w B) (hB : B ≤ w.heap.size) (hb : Below w.heap.size w w') : v.ok w' w'.heap.size := (h.low (hb.mono hB)).more (Nat.le_trans hB hb.size)
theorem PkV.ns_len (v : PkV) : v.ns.length = v.ps.length := by unfold PkV.ns; simp
theorem PkV.ns_at (v : PkV) {i : Nat} {p : PX} (h : v.ps[i]? = some p) : v.ns[i]? = some p.plain := by unfold PkV.ns; rw [List.getElem?_map, h]; rfl
/-- a node's cells -/
theorem PkV.ok.at_ (h : v.ok w B) {i : Nat} {p : PX} (hi : v.ps[i]? = some p) : ∃ ab ao, v.nA = some ⟨ab, ao, none⟩ ∧ ab < B ∧ w.cell? ⟨ab, ao + i * 4, none⟩ = some (.int .i64 p.kind) ∧ w.cell? ⟨ab, ao + i * 4 + 1, none⟩ = some (.string p.text) ∧ w.cell? ⟨ab, ao + i * 4 + 2, none⟩ = some (.slice p.lA p.leads.length p.lc) ∧ w.cell? ⟨ab, ao + i * 4 + 3, none⟩ = some (.slice p.kA p.kids.length p.kc) := by
  have hkl := (List.getElem?_eq_some_iff.1 hi).1
  obtain ⟨ab, ao, e, hb, hc⟩ := h.nodes.head (by omega) (by omega)
  refine ⟨ab, ao, e, hb, ?_, ?_, ?_, ?_⟩
  · exact hc (i * 4) _ (flat_at PX.cells_len v.ps i 0 p hi (by omega))
  · have := hc (i * 4 + 1) _ (flat_at PX.cells_len v.ps i 1 p hi (by omega)); rwa [← Nat.add_assoc] at this
  · have := hc (i * 4 + 2) _ (flat_at PX.cells_len v.ps i 2 p hi (by omega)); rwa [← Nat.add_assoc] at this
  · have := hc (i * 4 + 3) _ (flat_at PX.cells_len v.ps i 3 p hi (by omega)); rwa [← Nat.add_assoc] at this
end
abbrev natV (n : Nat) : Value := .int .i64 (n : Int)

theorem capSum_take {ns : List Nat} {j x : Nat} (h : ns[j]? = some x) : capSum (ns.take (j + 1)) = min (capSum (ns.take j) + x) 20001 := by
  rw [take_snoc' h, capSum_snoc]

set_option maxRecDepth 100000 in
set_option maxHeartbeats 800000 in
theorem sum_any (A : Option Addr) (c B : Nat) (ns : List Nat) (w : World) (hr : Reads w B 1 A ns.length (ns.map natV)) (hn : ∀ n ∈ ns, n ≤ 20001) (hl : ns.length ≤ 140737488351232) :
    Calls Tryd.prog 42 #[.slice A ns.length c] w fun e w' => e = .returned (.int .i64 (capSum ns : Int)) ∧ w = w' := by
  obtain ⟨n, hnl⟩ : ∃ n, ns.length = n := ⟨_, rfl⟩
  rw [hnl] at hr hl ⊢
  have HR := Lib.hid hr
  have HN := Lib.hid hn
  have HL := Lib.hid hnl
  clear hr hn hnl
  go_enter Tryd.func42, Tryd.ntmps42
  go_wp2_with fail
  go_loop [3, 8] (fun s i => ∃ j : Nat, j ≤ n ∧ i = .int .i64 (j : Int) ∧ s = .int .i64 (capSum (ns.take j) : Int)) (fun _ i => n - (intOf i).toNat)
  case atStart => exact ⟨0, by omega, rfl, by simp [capSum]⟩
  case round =>
    obtain ⟨j, hj, rfl, rfl⟩ := hrel
    have hc0 := capSum_le (ns.take j)
    by_cases hlt : j < n
    · obtain ⟨x, hx⟩ : ∃ x, ns[j]? = some x := ⟨_, List.getElem?_eq_getElem (by rw [HL.out]; exact hlt)⟩
      obtain ⟨b1, o1, u1, rfl, -, hu1, g1⟩ := HR.out.at1 hlt
      obtain rfl : u1 = natV x := by rw [List.getElem?_map, hx] at hu1; simpa using hu1.symm
      have hxl := HN.out x (List.mem_of_getElem? hx)
      have HT := Lib.hid (capSum_take hx)
      unfold natV at g1
      clear hx hu1
      go_wp2_with fail
      go_round
      case rel => exact ⟨j + 1, by omega, by go_num, by rw [HT.out]; first | rfl | (congr 1; omega)⟩
      case measure => simp [intOf]; omega
    · have HE : Hid (capSum (ns.take j) = capSum ns) := by unfold Hid; rw [List.take_of_length_le (by rw [HL.out]; omega)]
      go_wp2_with fail
      go_ret
      exact ⟨by rw [HE.out]; rfl, rfl⟩
end Go.Proofs.YtdabmjcpiblofaaDoor
