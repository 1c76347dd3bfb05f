/-
  small and limit, the law's. No condition.
-/
import Derived.Test.YtdabmjcpiblofaaDoorPkAd
import Derived.Test.YtdabmjcpiblofaaDoorPkSc
namespace Go.Proofs.YtdabmjcpiblofaaDoor
open Go.RowKit
set_option linter.unusedVariables false

/-- a pack that came in -/
structure PkV.raw (v : PkV) (w : World) (B : Nat) : Prop where
  nodes : Reads w B 4 v.nA v.ps.length (v.ps.flatMap PX.cells)
  roots : Reads w B 1 v.rA v.rs.length (v.rs.map (Value.int .i64))
  each : ∀ p ∈ v.ps, Reads w B 1 p.lA p.leads.length (p.leads.map Value.string) ∧ Reads w B 1 p.kA p.kids.length (p.kids.map (Value.int .i64)) ∧ i64 p.kind ∧ p.text.size ≤ 1048576 ∧ (∀ s ∈ p.leads, s.size ≤ 1048576) ∧ (∀ k ∈ p.kids, i64 k) ∧ p.leads.length ≤ 140737488351232 ∧ p.kids.length ≤ 140737488351232
  nl : v.ps.length ≤ 140737488351232
  rl : v.rs.length ≤ 140737488351232
  rr : ∀ r ∈ v.rs, i64 r
def PkV.few (v : PkV) : Prop := v.ps.length ≤ 200 ∧ v.rs.length ≤ 200 ∧ ∀ p ∈ v.ps, p.leads.length ≤ 200 ∧ p.kids.length ≤ 200
theorem leadsK_len : ∀ (ls : List ByteArray), (∀ s ∈ ls, s.size ≤ 1048576) → (leadsK ls).length ≤ ls.length * 1048606
  | [], _ => by simp [leadsK]
  | s :: ls, h => by
    have ih := leadsK_len ls (fun x hx => h x (List.mem_cons_of_mem _ hx))
    have hs := h s List.mem_cons_self
    have h2 := Lib.itoa_length_le ((s.size : Nat) : Int) (by omega) (by omega)
    rw [leadsK_cons, List.length_append, List.length_cons, List.length_append, List.length_cons, Nat.succ_mul]
    have h3 : s.data.toList.length = s.size := by simp
    omega
theorem PkV.raw.ok {v : PkV} {w : World} {B : Nat} (h : v.raw w B) (hf : v.few) : v.ok w B := by
  obtain ⟨f1, f2, f3⟩ := hf
  refine ⟨h.nodes, h.roots, fun p hp => ?_, by omega, by omega, h.rr⟩
  obtain ⟨h1, h2, h3, h4, h5, h6, h7, h8⟩ := h.each p hp
  obtain ⟨g1, g2⟩ := f3 p hp
  have hk := leadsK_len p.leads h5
  have hm : p.leads.length * 1048606 ≤ 200 * 1048606 := Nat.mul_le_mul_right _ g1
  exact ⟨h1, h2, h3, by omega, by omega, by omega, by omega, h6⟩
theorem PkV.raw.low {v : PkV} {w w' : World} {B : Nat} (h : v.raw w B) (hb : Below B w w') : v.raw w' B :=
  ⟨h.nodes.below hb, h.roots.below hb, fun p hp => by obtain ⟨h1, h2, h3⟩ := h.each p hp; exact ⟨h1.below hb, h2.below hb, h3⟩, h.nl, h.rl, h.rr⟩
theorem PkV.raw.at_ {v : PkV} {w : World} {B : Nat} (h : v.raw w B) {i : Nat} {p : PX} (hi : v.ps[i]? = some p) : ∃ ab ao, v.nA = some ⟨ab, ao, none⟩ ∧ ab < B ∧ w.cell? ⟨ab, ao + i * 4 + 2, none⟩ = some (.slice p.lA p.leads.length p.lc) ∧ w.cell? ⟨ab, ao + i * 4 + 3, none⟩ = some (.slice p.kA p.kids.length p.kc) := by
  have hkl := (List.getElem?_eq_some_iff.1 hi).1
  obtain ⟨ab, ao, e, hb, hc⟩ := h.nodes.head (by omega) (by omega)
  refine ⟨ab, ao, e, hb, ?_, ?_⟩
  · have := hc (i * 4 + 2) _ (flat_at PX.cells_len v.ps i 2 p hi (by omega)); rwa [← Nat.add_assoc] at this
  · have := hc (i * 4 + 3) _ (flat_at PX.cells_len v.ps i 3 p hi (by omega)); rwa [← Nat.add_assoc] at this
def sumS (v : PkV) (j : Nat) : Nat := v.ps.length + v.rs.length + ((v.ps.take j).map fun p => p.leads.length + p.kids.length).sum
theorem sumS_succ {v : PkV} {j : Nat} {p : PX} (h : v.ps[j]? = some p) : sumS v (j + 1) = sumS v j + (p.leads.length + p.kids.length) := by
  unfold sumS
  rw [take_snoc' h, List.map_append, List.sum_append]
  simp; omega
theorem sumS_few {v : PkV} (h : sumS v v.ps.length ≤ 200) : v.few := by
  unfold sumS at h
  rw [List.take_length] at h
  refine ⟨by omega, by omega, fun p hp => ?_⟩
  have : p.leads.length + p.kids.length ≤ (v.ps.map fun p => p.leads.length + p.kids.length).sum := by
    have key : ∀ (l : List PX), p ∈ l → p.leads.length + p.kids.length ≤ (l.map fun p => p.leads.length + p.kids.length).sum := by
      intro l
      induction l with
      | nil => intro h; cases h
      | cons x l ih =>
        intro h
        rw [List.map_cons, List.sum_cons]
        rcases List.mem_cons.1 h with rfl | h
        · omega
        · have := ih h; omega
    exact key _ hp
  omega
def SmallPost (w : World) (v : PkV) (e : Ending) (w' : World) : Prop := ∃ b : Bool, e = .returned (.bool b) ∧ (b = true → v.few) ∧ Below w.heap.size w w'

set_option maxRecDepth 100000 in
set_option maxHeartbeats 3200000 in
theorem small_any (v : PkV) (w : World) (h : v.raw w w.heap.size) : Calls Tryd.prog 16 #[v.val] w (SmallPost w v) := by
  obtain ⟨n, hn⟩ : ∃ n, v.ps.length = n := ⟨_, rfl⟩
  obtain ⟨m, hm⟩ : ∃ m, v.rs.length = m := ⟨_, rfl⟩
  obtain ⟨nA, hnA⟩ : ∃ a, v.nA = a := ⟨_, rfl⟩
  have hnl := h.nl
  have hrl := h.rl
  rw [hn] at hnl
  rw [hm] at hrl
  have hval : v.val = .agg #[.slice nA n v.nc, .slice v.rA m v.rc] := by unfold PkV.val; rw [hn, hm, hnA]
  rw [hval]
  obtain ⟨W, hW⟩ : ∃ W, w.alloc (.cells #[.slice nA n v.nc, .slice v.rA m v.rc] 29) = W := ⟨_, rfl⟩
  have HBX : Hid (Blk W w.heap.size 29 #[.slice nA n v.nc, .slice v.rA m v.rc]) := by subst hW; exact Blk.new w _ _
  have HBW : Hid (Below w.heap.size w W) := by subst hW; exact bal (Below.refl _ w) _
  have c0 := HBX.out.cell 0
  have c1 := HBX.out.cell 1
  simp at c0 c1
  have H := Lib.hid (h.low HBW.out)
  have HN := Lib.hid hn
  have HNA := Lib.hid hnA
  have HS0 : Hid (sumS v 0 = n + m) := by unfold Hid sumS; rw [hn, hm]; simp
  clear h hn hm hnA hval
  go_enter Tryd.func16, Tryd.ntmps16
  go_wp2_with fail
  have HW := Lib.hid hW
  clear hW
  go_loopw [3, 4] (fun s i wr => ∃ j : Nat, j ≤ n ∧ i = .int .i64 (j : Int) ∧ s = .int .i64 (sumS v j : Int) ∧ sumS v j ≤ 562949953404928 ∧ Hid (∃ q, wr = W.drewN q)) (fun _ i _ => n - (intOf i).toNat)
  case atStart => exact ⟨0, by omega, rfl, by rw [HS0.out]; first | rfl | (congr 1; omega), by rw [HS0.out]; omega, ⟨0, rfl⟩⟩
  case round =>
    obtain ⟨j, hj, rfl, rfl, hbd, HQ⟩ := hrel
    obtain ⟨q, rfl⟩ := HQ.out
    obtain ⟨s, hs⟩ : ∃ s, sumS v j = s := ⟨_, rfl⟩
    rw [hs] at hbd ⊢
    have HSJ := Lib.hid hs
    clear hs
    by_cases hgo : j < n ∧ s ≤ 200
    · obtain ⟨p, hp⟩ : ∃ p, v.ps[j]? = some p := ⟨_, List.getElem?_eq_getElem (by rw [HN.out]; exact hgo.1)⟩
      obtain ⟨ab, ao, hA, hab, e2, e3⟩ := H.out.at_ hp
      obtain rfl : nA = some ⟨ab, ao, none⟩ := HNA.out.symm.trans hA
      obtain ⟨-, -, -, -, -, -, hl7, hl8⟩ := H.out.each p (List.mem_of_getElem? hp)
      have HNX := Lib.hid (sumS_succ hp)
      rw [HSJ.out] at HNX
      obtain ⟨ll, hll⟩ : ∃ x, p.leads.length = x := ⟨_, rfl⟩
      obtain ⟨kl, hkl⟩ : ∃ x, p.kids.length = x := ⟨_, rfl⟩
      rw [hll] at e2 hl7 HNX
      rw [hkl] at e3 hl8 HNX
      have dl1 : decide ((j : Int) < (n : Int)) = true := decide_eq_true (by omega)
      have dl2 : decide ((s : Int) ≤ 200) = true := decide_eq_true (by omega)
      have k0 : (0 : Int) ≤ (j : Int) := by omega
      have k1 : (j : Int) < (n : Int) := by omega
      have hw1 : IntKind.i64.wrap ((ll : Int) + (kl : Int)) = (ll : Int) + (kl : Int) := IntWalk.i64_in _ (by omega)
      have hw2 : IntKind.i64.wrap ((s : Int) + ((ll : Int) + (kl : Int))) = (s : Int) + ((ll : Int) + (kl : Int)) := IntWalk.i64_in _ (by omega)
      clear hp hA hll hkl
      go_wp2_with fail
      go_quiet (fail)
      go_wp2_with fail
      go_roundw
      case rel => exact ⟨j + 1, by omega, by go_num, by rw [HNX.out]; first | rfl | (congr 1; omega), by rw [HNX.out]; omega, ⟨_, rfl⟩⟩
      case measure => simp [intOf] <;> omega
    · have HEND : Hid (s ≤ 200 → v.few) := fun hs => sumS_few (by
        have e : j = v.ps.length := by rw [HN.out]; omega
        rw [← e, HSJ.out]; exact hs)
      have HBQ : Hid (Below w.heap.size w (W.drewN q)) := below_drewN HBW.out q
      by_cases hjn : j < n
      · have dl1 : decide ((j : Int) < (n : Int)) = true := decide_eq_true (by omega)
        have dl2 : decide ((s : Int) ≤ 200) = false := decide_eq_false (by omega)
        go_wp2_with fail
        go_ret
        exact ⟨_, rfl, (fun h => by cases h), HBQ.out⟩
      · have dl1 : decide ((j : Int) < (n : Int)) = false := decide_eq_false (by omega)
        by_cases hs2 : s ≤ 200
        · have dl2 : decide ((s : Int) ≤ 200) = true := decide_eq_true (by omega)
          go_wp2_with fail
          go_ret
          exact ⟨_, rfl, (fun _ => HEND.out hs2), HBQ.out⟩
        · have dl2 : decide ((s : Int) ≤ 200) = false := decide_eq_false (by omega)
          go_wp2_with fail
          go_ret
          exact ⟨_, rfl, (fun h => by cases h), HBQ.out⟩

set_option maxRecDepth 100000 in
set_option maxHeartbeats 3200000 in
theorem limit_any (v : PkV) (w : World) (h : v.ok w w.heap.size) : Calls Tryd.prog 17 #[v.val] w (fun e w' => ∃ b : Bool, e = .returned (.bool b) ∧ Below w.heap.size w w') := by
  obtain ⟨W, hW⟩ : ∃ W, w.alloc (.cells #[.slice v.nA v.ps.length v.nc, .slice v.rA v.rs.length v.rc] 29) = W := ⟨_, rfl⟩
  have HBX : Hid (Blk W w.heap.size 29 #[.slice v.nA v.ps.length v.nc, .slice v.rA v.rs.length v.rc]) := by subst hW; exact Blk.new w _ _
  have HBW : Hid (Below w.heap.size w W) := by subst hW; exact bal (Below.refl _ w) _
  have c0 := HBX.out.cell 0
  have c1 := HBX.out.cell 1
  simp at c0 c1
  have HC := Lib.hid (rtrees_any v W (h.up (Nat.le_refl _) HBW.out))
  unfold PkV.val at HC ⊢
  clear h
  go_enter Tryd.func17, Tryd.ntmps17
  go_wp2_with fail
  refine (HC.out).mono ?_
  rintro e w1 ⟨A, c, ts, rfl, htl, hpl, hno, hb⟩
  have HB1 : Hid (Below w.heap.size w w1) := HBW.out.trans (hb.mono HBW.out.size)
  have HW := Lib.hid hW
  by_cases h0 : errP v.ns v.rs = 0
  · have hz := (errP_zero h0).2.2
    have HSZ := Lib.hid (refSize_any _ A c ts w1 htl.lt rfl (by rw [hpl h0]; omega))
    obtain ⟨N, hN⟩ : ∃ N, T.sizes (ts.map TX.plain) = N := ⟨_, rfl⟩
    have hN2 : N ≤ 20000 := by rw [← hN, hpl h0]; exact hz
    rw [hN] at HSZ
    rw [h0]
    clear htl hpl hno hb hW c0 c1 h0 HC hN hz
    go_wp2_with fail
    refine (HSZ.out).mono ?_
    rintro e w2 ⟨rfl, rfl⟩
    go_wp2_with fail
    go_ret
    exact ⟨_, rfl, HB1.out⟩
  · obtain ⟨er, her⟩ : ∃ er, errP v.ns v.rs = er := ⟨_, rfl⟩
    rw [her] at h0 ⊢
    have d1 : (er != 0) = true := by simpa using h0
    have d2 : (er == 0) = false := by simpa using h0
    clear htl hpl hno hb hW c0 c1 h0 her HC
    go_wp2_with fail
    go_ret
    exact ⟨_, rfl, HB1.out⟩
end Go.Proofs.YtdabmjcpiblofaaDoor
