/-
  Acts of LogPlays as data; size; records of the law. No condition.
-/
import Derived.Test.YtnjafhlpnoikcaaLgY
namespace Go.Proofs.Ytnjafhlpnoikcaa
open Go.ChangeShapes Go.WideShapes Go.ChangeAt Go.RowKit Go.Deep
set_option linter.unusedVariables false

structure PlayX where
  kind : Int
  n : Int
  bA : Option Addr
  bs : List Nat
  bc : Nat
  kA : Option Addr
  ks : List Bool
  kc : Nat
instance : Inhabited PlayX := ⟨⟨0, 0, none, [], 0, none, [], 0⟩⟩
def pcell (x : PlayX) : List Value := [.int .i64 x.kind, .int .i64 x.n, .slice x.bA x.bs.length x.bc, .slice x.kA x.ks.length x.kc]
structure GoodPlay (w : World) (x : PlayX) : Prop where
  kind : -9223372036854775808 ≤ x.kind ∧ x.kind ≤ 9223372036854775807
  n : -9223372036854775808 ≤ x.n ∧ x.n ≤ 9223372036854775807
  rb : Reads w w.heap.size 1 x.bA x.bs.length (x.bs.map byt)
  byt : ∀ b ∈ x.bs, b < 256
  rk : Reads w w.heap.size 1 x.kA x.ks.length (x.ks.map Value.bool)
  lb : x.bs.length ≤ 140737488351232
  lk : x.ks.length ≤ 140737488351232
  cb : x.bs.length ≤ x.bc
structure Plays (w : World) (A : Option Addr) (n : Nat) (xs : List PlayX) : Prop where
  len : xs.length = n
  cells : Reads w w.heap.size 4 A n (xs.flatMap pcell)
  good : ∀ x ∈ xs, GoodPlay w x
section
variable {H : Type} {enc : TypeId × Value → H} {W : World} {held : Bool}
theorem open_plays {a : Option Addr} {len cap : Nat} {d : DataW H} {p : List MemPlace} (h : DataW.Trod enc Try.prog W 0 (fun _ => true) held 52 (.slice a len cap) d p) (hsm : Sm Try.prog 52 d) : len ≤ 140737488351232 ∧ ∃ xs, Plays W a len xs := by
  obtain ⟨fuel, hf⟩ := h
  have hb46 : 0 < Try.prog.bytesOf 55 := of_decide_eq_true (by kernel_rfl)
  have hb5 : 0 < Try.prog.bytesOf 5 := of_decide_eq_true (by kernel_rfl)
  have hb4 : 0 < Try.prog.bytesOf 4 := of_decide_eq_true (by kernel_rfl)
  have hc3 : Try.prog.cellsOf 3 = 1 := by kernel_rfl
  have hc22 : Try.prog.cellsOf 32 = 1 := by kernel_rfl
  have hc23 : Try.prog.cellsOf 36 = 1 := by kernel_rfl
  obtain ⟨h1, -, h3, xs, h4, h5, h6⟩ := open_list (α := PlayX) Try.underlying52 (by kernel_rfl : Try.prog.cellsOf 55 = 4) (by omega) pcell (GoodPlay W) (fun _ => rfl) (fun cs' d' pl n htr hs hlen => by
    obtain ⟨ys, m, -, hx, -, hyl, hfd⟩ := DataW.trod_struct Try.underlying55 htr
    obtain ⟨c0, c1, c2, c3, rfl⟩ : ∃ c0 c1 c2 c3, cs' = [c0, c1, c2, c3] := by
      match cs', hlen with
      | [c0, c1, c2, c3], _ => exact ⟨c0, c1, c2, c3, rfl⟩
    obtain ⟨y0, y1, y2, y3, rfl⟩ : ∃ y0 y1 y2 y3, ys = [y0, y1, y2, y3] := by
      match ys, hyl with
      | [y0, y1, y2, y3], _ => exact ⟨y0, y1, y2, y3, rfl⟩
    have hd : d' = .agg [y0.1, y1.1, y2.1, y3.1] := by injection hx
    subst hd
    have e0 := hfd 0 _ rfl
    have e1 := hfd 1 _ rfl
    have e2 := hfd 2 _ rfl
    have e3 := hfd 3 _ rfl
    have s2 := sm_part hs Try.underlying55 (i := 2) rfl (d := y2.1) rfl
    have s3 := sm_part hs Try.underlying55 (i := 3) rfl (d := y3.1) rfl
    simp [hc3, hc22, hc23] at e0 e1 e2 e3
    obtain ⟨z0, q0, -, g0⟩ := DataW.trod_int Try.underlying3 e0
    obtain ⟨z1, q1, -, g1⟩ := DataW.trod_int Try.underlying3 e1
    simp at q0 q1
    subst q0 q1
    obtain ⟨A3, l3, k3, rfl⟩ := slice_form Try.underlying32 e2
    obtain ⟨A4, l4, k4, rfl⟩ := slice_form Try.underlying36 e3
    obtain ⟨u1, u2, bs, rfl, u4, u5⟩ := open_bytesS (d := y2.1) (p := y2.2) Try.underlying32 Try.underlying5 (by kernel_rfl) hb5 e2 s2
    obtain ⟨t1, t2, ks, rfl, t4⟩ := open_boolsS (d := y3.1) (p := y3.2) Try.underlying36 Try.underlying4 (by kernel_rfl) hb4 e3 s3
    exact ⟨⟨z0, z1, A3, bs, k3, A4, ks, k4⟩, rfl, ⟨wf_i64 g0, wf_i64 g1, u4, u5, t4, u2, t2, u1⟩⟩) hf hsm
  exact ⟨h3 hb46, xs, h4, h5, h6⟩
end
def szP (x : PlayX) : Nat := 1 + x.bs.length + x.ks.length
def sumP (xs : List PlayX) : Nat := (xs.map szP).sum
theorem sump_succ {xs : List PlayX} {k : Nat} {x : PlayX} (h : xs[k]? = some x) : sumP (xs.take (k + 1)) = sumP (xs.take k) + szP x := by
  obtain ⟨hk, rfl⟩ := List.getElem?_eq_some_iff.1 h
  unfold sumP
  rw [List.take_succ_eq_append_getElem hk, List.map_append, List.sum_append]
  simp
theorem sump_mem {xs : List PlayX} {x : PlayX} (h : x ∈ xs) : szP x ≤ sumP xs := by
  unfold sumP
  induction xs with
  | nil => cases h
  | cons y l ih =>
    rw [List.map_cons, List.sum_cons]
    rcases List.mem_cons.1 h with h | h
    · rw [h]; omega
    · have := ih h; omega
theorem plays_at {w : World} {A : Option Addr} {n : Nat} {xs : List PlayX} (h : Plays w A n xs) {k : Nat} {x : PlayX} (hk : xs[k]? = some x) : ∃ ab ao, A = some ⟨ab, ao, none⟩ ∧ ab < w.heap.size ∧ w.cell? ⟨ab, ao + k * 4, none⟩ = some (.int .i64 x.kind) ∧ w.cell? ⟨ab, ao + k * 4 + 1, none⟩ = some (.int .i64 x.n) ∧
    w.cell? ⟨ab, ao + k * 4 + 2, none⟩ = some (.slice x.bA x.bs.length x.bc) ∧ w.cell? ⟨ab, ao + k * 4 + 3, none⟩ = some (.slice x.kA x.ks.length x.kc) := by
  have hkl := (List.getElem?_eq_some_iff.1 hk).1
  have hlen := h.len
  obtain ⟨ab, ao, e, hb, hc⟩ := h.cells.head (by omega) (by omega)
  have fl : ∀ x : PlayX, (pcell x).length = 4 := fun _ => rfl
  refine ⟨ab, ao, e, hb, ?_, ?_, ?_, ?_⟩
  · exact hc (k * 4) _ (flat_at fl xs k 0 x hk (by omega))
  · have := hc (k * 4 + 1) _ (flat_at fl xs k 1 x hk (by omega)); rwa [← Nat.add_assoc] at this
  · have := hc (k * 4 + 2) _ (flat_at fl xs k 2 x hk (by omega)); rwa [← Nat.add_assoc] at this
  · have := hc (k * 4 + 3) _ (flat_at fl xs k 3 x hk (by omega)); rwa [← Nat.add_assoc] at this

set_option maxRecDepth 100000 in
set_option maxHeartbeats 1600000 in
theorem acts_size (A : Option Addr) (n c : Nat) (xs : List PlayX) (w : World) (hn : n ≤ 140737488351232) (h : Plays w A n xs) :
    Calls Try.prog 24 #[.slice A n c] w fun e w' => (∃ m : Nat, e = .returned (.int .i64 (m : Int)) ∧ (m ≤ 2000 → sumP xs ≤ 2000)) ∧ ∃ q, w' = w.drewN q := by
  have H := Lib.hid h
  have HL := Lib.hid h.len
  clear h
  go_enter Try.func24, Try.ntmps24
  go_wp2_with fail
  go_loopw [3, 4] (fun s i wr => ∃ (k m q : Nat), k ≤ n ∧ i = .int .i64 (k : Int) ∧ s = .int .i64 (m : Int) ∧ Hid (m = sumP (xs.take k)) ∧ m ≤ 300000000000000 ∧ wr = w.drewN q) (fun _ i _ => n - (intOf i).toNat)
  case atStart => exact ⟨0, 0, 0, by omega, rfl, rfl, rfl, by omega, rfl⟩
  case round =>
    obtain ⟨k, m, q, hk, rfl, rfl, HM, hm, rfl⟩ := hrel
    by_cases hlt : k < n
    · have d1 : decide (k < n) = true := by simpa using hlt
      have d1' : decide ((k : Int) < (n : Int)) = true := by simp; omega
      by_cases h4 : m < 5000
      · have d2 : decide ((m : Int) < 5000) = true := by simp; omega
        obtain ⟨x, hx⟩ : ∃ x, xs[k]? = some x := ⟨_, List.getElem?_eq_getElem (by rw [HL.out]; exact hlt)⟩
        obtain ⟨ab, ao, rfl, hab, c0, c1, c2, c3⟩ := plays_at H.out hx
        have hg := H.out.good x (List.mem_of_getElem? hx)
        have hlb := hg.lb
        have hlk := hg.lk
        have HS := Lib.hid (sump_succ hx)
        obtain ⟨bl, hbl⟩ : ∃ bl, x.bs.length = bl := ⟨_, rfl⟩
        obtain ⟨kl, hkl⟩ : ∃ kl, x.ks.length = kl := ⟨_, rfl⟩
        have HZ : Hid (szP x = 1 + bl + kl) := by unfold Hid szP; rw [hbl, hkl]
        rw [hbl] at c2 hlb
        rw [hkl] at c3 hlk
        have s1 : IntKind.i64.wrap (1 + (bl : Int)) = 1 + (bl : Int) := IntWalk.i64_in _ (by omega)
        have s2 : IntKind.i64.wrap (1 + (bl : Int) + (kl : Int)) = 1 + (bl : Int) + (kl : Int) := IntWalk.i64_in _ (by omega)
        have s3 : IntKind.i64.wrap ((m : Int) + (1 + (bl : Int) + (kl : Int))) = (m : Int) + (1 + (bl : Int) + (kl : Int)) := IntWalk.i64_in _ (by omega)
        clear hg hbl hkl hx c0 c1
        go_wp2_with fail
        go_quiet (fail)
        clear s1 s2 s3
        go_wp2_with fail
        go_roundw
        case rel => exact ⟨k + 1, m + (1 + bl + kl), q + nq, by omega, by go_num, by go_num, by unfold Hid; rw [HS.out, HZ.out, HM.out], by omega, rfl⟩
        case measure => simp [intOf]; omega
      · have d2 : decide ((m : Int) < 5000) = false := by simp; omega
        go_wp2_with fail
        go_ret
        exact ⟨⟨m, rfl, fun h => by omega⟩, q, rfl⟩
    · obtain rfl : k = n := by omega
      have d1 : decide (k < k) = false := by simp
      have HE : Hid (m = sumP xs) := by
        have h2 := HM.out
        rw [List.take_of_length_le (by rw [HL.out]; omega)] at h2
        exact h2
      go_wp2_with fail
      go_ret
      exact ⟨⟨m, rfl, fun h => by rw [← HE.out]; exact h⟩, q, rfl⟩

/-- the law's records: k beginnings of b -/
def recsS (b : List Nat) (k : Nat) : List (List Nat) := (List.range k).map fun i => b.take (2 * i)
theorem owns_low {w : World} {b0 b1 : Nat} {e : TypeId} {size n : Nat} {v : Value} {xs : List Value} (h : w.ownsRow b1 e size v n xs) (hb : b0 ≤ b1) : w.ownsRow b0 e size v n xs := by
  refine ⟨h.1, ?_⟩
  rcases h.2 with h2 | ⟨g, cap, cur, e1, hb', rest⟩
  · exact .inl h2
  · exact .inr ⟨g, cap, cur, e1, Nat.le_trans hb hb', rest⟩
structure RecR (w0 w wr : World) (b : List Nat) (j : Nat) (v : Value) (rs : List Rc) : Prop where
  len : rs.length = j
  eq : rs.map (·.b) = recsS b j
  good : ∀ r ∈ rs, GoodR w0 r ∧ r.b.length ≤ 1000
  own : wr.ownsRow w.heap.size 32 1 v j (rs.flatMap rcell)
  bel : Below w.heap.size w wr
theorem RecR.push {w0 w wr X : World} {b : List Nat} {j : Nat} {v v' : Value} {rs : List Rc} {q : Rc} {o : Obj} (h : RecR w0 w wr b j v rs) (hq : GoodR w0 q) (hql : q.b.length ≤ 1000) (hqb : q.b = b.take (2 * j)) (hg : Grows (wr.alloc o) X v v') (ho : X.ownsRow w.heap.size 32 1 v' (j + 1) (rs.flatMap rcell ++ [.slice q.A q.b.length q.c])) : RecR w0 w X b (j + 1) v' (rs ++ [q]) := by
  refine ⟨by rw [List.length_append, h.len]; rfl, ?_, fun r hr => ?_, by rw [List.flatMap_append]; exact ho, ?_⟩
  · unfold recsS
    rw [List.map_append, h.eq, List.range_succ, List.map_append]
    simp only [List.map_cons, List.map_nil, hqb]
    rfl
  · rcases List.mem_append.1 hr with hr | hr
    · exact h.good r hr
    · obtain rfl : r = q := by simpa using hr
      exact ⟨hq, hql⟩
  · exact (h.bel.alloc h.bel.size o).trans (hg.below (h.bel.alloc h.bel.size o).size (own_from h.own))
def RecsP (w0 w : World) (L : List (List Nat)) (e : Ending) (w' : World) : Prop :=
  ∃ (rs : List Rc) (A : Option Addr) (c : Nat), e = .returned (.slice A rs.length c) ∧ rs.map (·.b) = L ∧ rs.length ≤ 3 ∧ (∀ r ∈ rs, r.b.length ≤ 1000) ∧ RcA w' (fun i => w0.heap.size ≤ i ∧ i < w.heap.size) A rs ∧ Below w.heap.size w w'

set_option maxRecDepth 100000 in
set_option maxHeartbeats 4000000 in
theorem recsl_any {w0 w : World} {r : Rc} (z : Int) (hb : Below w0.heap.size w0 w) (hr : GoodR w0 r) (hrl : r.b.length ≤ 1000000) (hz1 : -9223372036854775808 ≤ z) (hz2 : z ≤ 9223372036854775807) :
    Calls Try.prog 25 #[.slice r.A r.b.length r.c, .int .i64 z] w (RecsP w0 w (recsS r.b (z % 4).toNat)) := by
  have HM := Lib.hid (fun X => mod_any z 4 X (by omega) (by omega) hz1 hz2)
  obtain ⟨k, hkk, hk4⟩ : ∃ k : Nat, z % 4 = k ∧ k < 4 := ⟨(z % 4).toNat, by omega, by omega⟩
  have htn : (z % 4).toNat = k := by omega
  rw [hkk] at HM
  rw [htn]
  have hcap := hr.cap
  obtain ⟨n, hn⟩ : ∃ n, r.b.length = n := ⟨_, rfl⟩
  rw [hn] at hcap hrl
  rw [hn]
  have HR := Lib.hid hr
  have HNN := Lib.hid hn
  have HBB := Lib.hid hb
  obtain ⟨i0, hi0, y0, y1, y2⟩ := info_parts slices_info
  have HI0 := Lib.hid hi0
  have HZ0 := Lib.hid y0
  have HZ1 := Lib.hid y1
  have HZ2 := Lib.hid y2
  have R0 : Hid (RecR w0 w w r.b 0 (.slice none 0 0) []) := ⟨rfl, rfl, (fun r hr => by cases hr), ⟨rfl, .inl ⟨rfl, rfl⟩⟩, Below.refl _ w⟩
  clear hr hn hb hkk htn hi0 y0 y1 y2
  go_enter Try.func25, Try.ntmps25
  go_wp2_with fail
  go_loopw [5, 6] (fun v i wr => ∃ (j : Nat) (rs : List Rc), i = .int .i64 (j : Int) ∧ j ≤ k ∧ RecR w0 w wr r.b j v rs) (fun _ i _ => k - (intOf i).toNat)
  case atStart => exact ⟨0, [], rfl, Nat.zero_le _, R0.out⟩
  case round =>
    obtain ⟨j, rs, rfl, hj, hC⟩ := hrel
    obtain ⟨Av, cv, hv, -, -⟩ := reads_of_owns hC.own
    subst hv
    have CC := Lib.hid hC
    clear hC R0
    go_wp2_with fail
    refine (HM.out _).mono ?_
    rintro e wx ⟨rfl, rfl⟩
    by_cases hlt : j < k
    · have dlt : decide ((j : Int) < (k : Int)) = true := by simp; omega
      have s1 : IntKind.i64.wrap ((j : Int) * 2) = (j : Int) * 2 := IntWalk.i64_in _ (by omega)
      have hcase : ((j : Int) * 2 ≤ (n : Int) ∧ min ((j : Int) * 2) (n : Int) = (j : Int) * 2 ∧ ((j : Int) * 2).toNat = j * 2 ∧ (j : Int) * 2 ≤ (r.c : Int) ∧ 0 ≤ (j : Int) * 2 ∧ Hid (∃ q : Rc, q.A = r.A ∧ q.c = r.c ∧ GoodR w0 q ∧ q.b.length = j * 2 ∧ q.b = r.b.take (2 * j))) ∨ ((n : Int) < (j : Int) * 2 ∧ min ((j : Int) * 2) (n : Int) = (n : Int) ∧ Hid (r.b.take (2 * j) = r.b) ∧ n ≤ 6) := by
        by_cases h : (j : Int) * 2 ≤ (n : Int)
        · refine .inl ⟨h, by omega, by omega, by omega, by omega, ⟨r.cut (2 * j), rfl, rfl, (HR.out).cut _, ?_, rfl⟩⟩
          show (r.b.take (2 * j)).length = _
          rw [List.length_take, HNN.out]
          omega
        · exact .inr ⟨by omega, by omega, List.take_of_length_le (by rw [HNN.out]; omega), by omega⟩
      rcases hcase with ⟨e0, e1, e2, e3, e4, HQ⟩ | ⟨e0, e1, HQ, e2⟩
      · obtain ⟨q, hqA, hqc, hqg, hql, hqb⟩ := HQ.out
        have HQ2 := Lib.hid (And.intro hqg (And.intro hql hqb))
        have HQA := Lib.hid hqA
        have HQC := Lib.hid hqc
        clear HQ hqA hqc hqg hql hqb
        go_wp2_with (at_builtin; refine wpList_append_row _ rfl (.tmp 13) (.tmp 21) 35 35 rfl w.heap.size 32 i0 (.slice none 0 0) 1 24 Try.underlying35 HI0.out HZ0.out HZ1.out HZ2.out rfl (by decide) _ j _ rfl ((CC.out).own.alloc _) _ 1 _ rfl (src_new _ Try.underlying35 [_] 1 1 1 32 rfl (fun u hu => by simp at hu; subst hu; rfl)) (by unfold maxLen; omega) (by omega) (by have := (CC.out).bel.size; simp; omega) ?_)
        intro v1 w1 ho hg
        have hq := HQ2.out
        have hp := (CC.out).push hq.1 (by rw [hq.2.1]; omega) hq.2.2 hg (by rw [HQA.out, hq.2.1, HQC.out]; exact ho)
        have CN := Lib.hid hp
        clear ho hg hq hp CC HQ2 HQA HQC
        go_wp2_with fail
        go_roundw
        case rel => exact ⟨j + 1, _, by go_num, by omega, CN.out⟩
        case measure => simp [intOf]; omega
      · go_wp2_with (at_builtin; refine wpList_append_row _ rfl (.tmp 13) (.tmp 21) 35 35 rfl w.heap.size 32 i0 (.slice none 0 0) 1 24 Try.underlying35 HI0.out HZ0.out HZ1.out HZ2.out rfl (by decide) _ j _ rfl ((CC.out).own.alloc _) _ 1 _ rfl (src_new _ Try.underlying35 [_] 1 1 1 32 rfl (fun u hu => by simp at hu; subst hu; rfl)) (by unfold maxLen; omega) (by omega) (by have := (CC.out).bel.size; simp; omega) ?_)
        intro v1 w1 ho hg
        have hp := (CC.out).push (q := r) (HR.out) (by rw [HNN.out]; omega) (HQ.out).symm hg (by rw [HNN.out]; exact ho)
        have CN := Lib.hid hp
        clear ho hg hp CC HQ
        go_wp2_with fail
        go_roundw
        case rel => exact ⟨j + 1, _, by go_num, by omega, CN.out⟩
        case measure => simp [intOf]; omega
    · have dlt : decide ((j : Int) < (k : Int)) = false := by simp; omega
      obtain rfl : j = k := by omega
      have FIN : Hid (RecsP w0 w (recsS r.b j) (.returned (.slice Av j cv)) wr) := by
        have hl := (CC.out).len
        refine ⟨rs, Av, cv, by rw [hl], (CC.out).eq, by omega, fun r hr => ((CC.out).good r hr).2, ?_, (CC.out).bel⟩
        have ho := (CC.out).own
        refine RcA.of_own (w := w0) (c := cv) (owns_low (by rw [hl]; exact ho) (HBB.out).size) (fun r hr => ((CC.out).good r hr).1) ((HBB.out).trans ((CC.out).bel.mono (HBB.out).size)) (fun b hb' hG => ?_) (fun b hb' => hb'.1)
        have h1 := own_from ho b (by rw [← hl]; exact hb')
        omega
      clear CC
      go_wp2_with fail
      go_ret
      exact FIN.out
end Go.Proofs.Ytnjafhlpnoikcaa
