/-
  The reference's sizes and build: a pack's trees share its leads. The reference's build: a node's tree, its leads the pack's own. No condition.
-/
import Derived.Test.YtdabmjcpiblofaaDoorPkK
namespace Go.Proofs.YtdabmjcpiblofaaDoor
open Go.RowKit
set_option linter.unusedVariables false

theorem szA_take_succ {ns : List PN} {j : Nat} {x : PN} (hx : ns[j]? = some x) (hk : ∀ k ∈ x.2.2.2, 0 ≤ k ∧ k < (j : Int)) : (szA ns).take (j + 1) = (szA ns).take j ++ [szK ns x.2.2.2 x.2.2.2.length] := by
  have hi := (List.getElem?_eq_some_iff.1 hx).1
  have h1 := szA_get hx hk
  have hl : j < (szA ns).length := by rw [szA_len]; exact hi
  have h2 : (szA ns)[j]? = some (szK ns x.2.2.2 x.2.2.2.length) := by
    rw [← h1]
    simp [List.getD, List.getElem?_eq_getElem hl]
  exact take_snoc' h2
theorem szA_at_take {ns : List PN} {j y : Nat} (hj : j ≤ ns.length) (hy : y < j) : ((szA ns).take j)[y]? = some ((szA ns).getD y 0) := by
  have hl : y < (szA ns).length := by rw [szA_len]; omega
  rw [List.getElem?_take_of_lt hy]
  simp [List.getD, List.getElem?_eq_getElem hl]
structure RZ (w wr : World) (v : PkV) (j : Nat) (o : Value) : Prop where
  bel : Below w.heap.size w wr
  box : Blk wr w.heap.size 29 v.arr
  own : wr.ownsRow (w.heap.size + 1) 3 1 o j (((szA v.ns).take j).map natV)
def RSizesPost (w : World) (v : PkV) (e : Ending) (w' : World) : Prop := ∃ A c, e = .returned (.slice A v.ps.length c) ∧ Reads w' w'.heap.size 1 A v.ps.length ((szA v.ns).map natV) ∧ Below w.heap.size w w'

set_option maxRecDepth 100000 in
set_option maxHeartbeats 3200000 in
theorem rsizes_any (v : PkV) (w : World) (h : v.ok w w.heap.size) (hf : formN v.ns) : Calls Tryd.prog 44 #[v.val] w (RSizesPost w v) := by
  obtain ⟨n, hn⟩ : ∃ n, v.ps.length = n := ⟨_, rfl⟩
  obtain ⟨m, hm⟩ : ∃ m, v.rs.length = m := ⟨_, rfl⟩
  obtain ⟨nA, hnA⟩ : ∃ a, v.nA = a := ⟨_, rfl⟩
  obtain ⟨rA, hrA⟩ : ∃ a, v.rA = a := ⟨_, rfl⟩
  have hnl := h.nl
  rw [hn] at hnl
  have hval : v.val = .agg #[.slice nA n v.nc, .slice rA m v.rc] := by unfold PkV.val; rw [hn, hm, hnA, hrA]
  have harr : v.arr = #[.slice nA n v.nc, .slice rA m v.rc] := by unfold PkV.arr; rw [hn, hm, hnA, hrA]
  obtain ⟨W, hW⟩ : ∃ W, w.alloc (.cells #[.slice nA n v.nc, .slice rA m v.rc] 29) = W := ⟨_, rfl⟩
  have HR0 : Hid (RZ w W v 0 (.slice none 0 0)) := by
    subst hW
    exact ⟨(Below.refl _ w).alloc (Nat.le_refl _) _, by rw [harr]; exact Blk.new w _ _, by simp; exact owns_nil _ _ _⟩
  rw [hval]
  have H := Lib.hid h
  have HF := Lib.hid hf
  have HN := Lib.hid hn
  have HM := Lib.hid hm
  have HNA := Lib.hid hnA
  have HARR := Lib.hid harr
  obtain ⟨i0, hi, hz0, hz1, hz2⟩ := info_parts int_info
  have HI := Lib.hid hi
  have HZ0 := Lib.hid hz0
  have HZ1 := Lib.hid hz1
  have HZ2 := Lib.hid hz2
  clear h hf hn hm hnA hrA harr hval hi hz0 hz1 hz2
  go_enter Tryd.func44, Tryd.ntmps44
  go_wp2_with fail
  have HW := Lib.hid hW
  clear hW
  go_loopw [3, 4] (fun o i wr => ∃ (j : Nat) (A : Option Addr) (c : Nat), j ≤ n ∧ i = .int .i64 (j : Int) ∧ o = .slice A j c ∧ Hid (RZ w wr v j (.slice A j c))) (fun _ i _ => n - (intOf i).toNat)
  case atStart => exact ⟨0, none, 0, by omega, rfl, rfl, HR0⟩
  case round =>
    obtain ⟨j, A, c, hj, rfl, rfl, HR⟩ := hrel
    have HBox : Hid (Blk wr w.heap.size 29 #[.slice nA n v.nc, .slice rA m v.rc]) := by have := HR.out.box; rw [HARR.out] at this; exact this
    have q0 := HBox.out.cell 0
    simp at q0
    by_cases hlt : j < n
    · obtain ⟨p, hp⟩ : ∃ p, v.ps[j]? = some p := ⟨_, List.getElem?_eq_getElem (by rw [HN.out]; exact hlt)⟩
      obtain ⟨ab, ao, hA, hab, e0, e1, e2, e3⟩ := (H.out.low HR.out.bel).at_ hp
      obtain rfl : nA = some ⟨ab, ao, none⟩ := HNA.out.symm.trans hA
      have HPO := Lib.hid (H.out.each p (List.mem_of_getElem? hp))
      have hkl := HPO.out.kl
      obtain ⟨kn, hkn⟩ : ∃ kn, p.kids.length = kn := ⟨_, rfl⟩
      rw [hkn] at hkl e3
      have HKN := Lib.hid hkn
      have HKF := Lib.hid (HF.out j p.plain (v.ns_at hp))
      have HP := Lib.hid hp
      clear hA hp hkn e0 e1 e2
      go_wp2_with fail
      go_loop [5, 6] (fun s i => ∃ k : Nat, k ≤ kn ∧ i = .int .i64 (k : Int) ∧ s = .int .i64 (szK v.ns p.kids k : Int)) (fun _ i => kn - (intOf i).toNat)
      case atStart => exact ⟨0, by omega, rfl, rfl⟩
      case round =>
        obtain ⟨k, hk, rfl, rfl⟩ := hrel
        by_cases hlk : k < kn
        · obtain ⟨y, hy⟩ : ∃ y, p.kids[k]? = some y := ⟨_, List.getElem?_eq_getElem (by rw [HKN.out]; exact hlk)⟩
          have hkr := (HPO.out.kids.below HR.out.bel)
          rw [HKN.out] at hkr
          obtain ⟨b1, o1, u1, hkA, -, hu1, g1⟩ := hkr.at1 hlk
          obtain rfl : u1 = .int .i64 y := by rw [List.getElem?_map, hy] at hu1; simpa using hu1.symm
          have hyj := HKF.out y (List.mem_of_getElem? hy)
          obtain ⟨yn, rfl⟩ : ∃ yn : Nat, y = (yn : Int) := ⟨y.toNat, by omega⟩
          have hKy := szA_le v.ns yn
          have hKk := szK_le v.ns p.kids k
          have HNX : Hid (szK v.ns p.kids (k + 1) = min (szK v.ns p.kids k + (szA v.ns).getD yn 0) 20001) := by unfold Hid; rw [szK_succ hy, Int.toNat_natCast]
          have hjn : j ≤ v.ns.length := by rw [v.ns_len, HN.out]; omega
          obtain ⟨b2, o2, u2, hoA, -, hu2, g2⟩ := (Reads.of_own HR.out.own).at1 (k := yn) (by omega)
          obtain rfl : u2 = natV ((szA v.ns).getD yn 0) := by rw [List.getElem?_map, szA_at_take hjn (by omega)] at hu2; simpa using hu2.symm
          obtain ⟨sy, hsy⟩ : ∃ s, (szA v.ns).getD yn 0 = s := ⟨_, rfl⟩
          obtain ⟨sk, hsk⟩ : ∃ s, szK v.ns p.kids k = s := ⟨_, rfl⟩
          rw [hsy] at g2 HNX hKy
          rw [hsk] at HNX hKk ⊢
          unfold natV at g2
          have j0 : (0 : Int) ≤ (yn : Int) := by omega
          have j1 : (yn : Int) < (j : Int) := by omega
          rw [hkA] at e3
          subst hoA
          clear hy hu1 hu2 hkr hsy hsk hyj hjn
          go_wp2_with fail
          go_round
          case rel => exact ⟨k + 1, by omega, by go_num, by rw [HNX.out]; first | rfl | (congr 1; omega)⟩
          case measure => simp [intOf]; omega
        · obtain rfl : k = kn := by omega
          have HKS : Hid ((szA v.ns).take (j + 1) = (szA v.ns).take j ++ [szK v.ns p.kids k]) := by
            have := szA_take_succ (v.ns_at HP.out) HKF.out
            unfold Hid
            rw [this]
            show _ = (szA v.ns).take j ++ [szK v.ns p.kids k]
            have : p.plain.2.2.2.length = k := HKN.out
            rw [this]; rfl
          obtain ⟨sk, hsk⟩ : ∃ s, szK v.ns p.kids k = s := ⟨_, rfl⟩
          rw [hsk] at HKS ⊢
          clear hsk
          go_wp2_with (at_builtin; refine wpList_append_row _ rfl (.tmp 40) (.tmp 42) 27 27 rfl (w.heap.size + 1) 3 i0 (.int .i64 0) 1 8 Tryd.underlying27 HI.out HZ0.out HZ1.out HZ2.out rfl (by decide) (.slice A j c) j (((szA v.ns).take j).map natV) rfl (HR.out.own.alloc _) (.slice (some ⟨wr.heap.size, 0, none⟩) 1 1) 1 [.int .i64 (sk : Int)] rfl (src_new wr Tryd.underlying27 [.int .i64 (sk : Int)] 1 1 1 3 rfl ?c4) ?c1 ?c2 ?c3 ?_)
          case c4 => first | rfl | (intro u hu; simp at hu; subst hu; rfl)
          case c1 => unfold maxLen; omega
          case c2 => omega
          case c3 => have := HR.out.bel.size; have := HR.out.box.lt; simp; omega
          intro v3 w3 hown3 hg3
          obtain ⟨A3, q3, rfl, -, -⟩ := reads_of_owns hown3
          have HS6 : Hid (RZ w w3 v (j + 1) (.slice A3 (j + 1) q3)) := by
            have hf := own_from HR.out.own
            have hbel : Below w.heap.size w (wr.alloc (.cells #[.int .i64 (sk : Int)] 3)) := bal HR.out.bel _
            refine ⟨hbel.grown hg3.grown (by have := hbel.size; omega) (fun x hx => by have := hf x hx; omega), hg3.blk (HR.out.box.alloc _) (fun e => by have := hf _ e; omega), ?_⟩
            rw [HKS.out, List.map_append, List.map_take]
            exact hown3
          clear hown3 hg3
          go_wp2_with fail
          go_roundw
          case rel => exact ⟨j + 1, A3, q3, by omega, by go_num, rfl, HS6⟩
          case measure => simp [intOf]; omega
    · obtain rfl : j = n := by omega
      have HE : Hid (RSizesPost w v (.returned (.slice A j c)) wr) := by
        have h1 := Reads.of_own HR.out.own
        rw [List.take_of_length_le (by rw [szA_len, v.ns_len, HN.out]; exact Nat.le_refl _)] at h1
        refine ⟨A, c, by rw [HN.out], by rw [HN.out]; exact h1, HR.out.bel⟩
      go_wp2_with fail
      go_ret
      exact HE.out
end Go.Proofs.YtdabmjcpiblofaaDoor

namespace Go.Proofs.YtdabmjcpiblofaaDoor
open Go.RowKit
set_option linter.unusedVariables false

/-- a tree whose rows are new, or as old as the pack -/
def NewT0 (B0 : Nat) (w : World) (t : T) (e : Ending) (w' : World) : Prop := ∃ r : TX, e = .returned r.val ∧ r.plain = t ∧ Tr w' w'.heap.size r ∧ InS (fun b => b < B0 ∨ w.heap.size ≤ b) r ∧ Fine r ∧ Below w.heap.size w w'
structure BR (w wr : World) (B0 : Nat) (v : PkV) (p : PX) (j : Nat) (kv : Value) (rs : List TX) : Prop where
  bel : Below w.heap.size w wr
  bx : Blk wr w.heap.size 29 v.arr
  b0 : Blk wr (w.heap.size + 1) 42 zeroT
  bn : Blk wr (w.heap.size + 2) 48 #[.int .i64 p.kind, .string p.text, .slice p.lA p.leads.length p.lc, .slice p.kA p.kids.length p.kc]
  b1 : Blk wr (w.heap.size + 3) 42 #[.int .i64 p.kind, .string p.text, .slice p.lA p.leads.length p.lc, kv]
  tl : TL wr 0 (w.heap.size + 4) kv rs
  lo : ∀ k ∈ rs, InS (fun b => b < B0 ∨ w.heap.size + 4 ≤ b) k
  len : rs.length = j
  pl : rs.map TX.plain = (p.kids.take j).map fun k => trA v.ns k.toNat
  hB : B0 ≤ w.heap.size
theorem TL.chgS {w w' : World} {lo base : Nat} {v : Value} {rs : List TX} {M S : Nat → Prop} (h : TL w lo base v rs) (hS : ∀ k ∈ rs, InS S k) (hc : Chg w w' M) (hv : ∀ g, v.ownBlock = some g → ¬ M g) (hm : ∀ i, S i → ¬ M i) : TL w' lo base v rs := by
  refine ⟨?_, fun k hk => ⟨((h.kid k hk).1.chgS (hS k hk) hc (Nat.le_refl _) hm).more hc.size, (h.kid k hk).2⟩⟩
  have hlt := own_lt h.row
  refine ⟨h.row.1, ?_⟩
  rcases h.row.2 with h0 | ⟨g, cap, cur, rfl, hb, hh, rest⟩
  · exact .inl h0
  · exact .inr ⟨g, cap, cur, rfl, hb, (hc.block g (hlt g (by simp [Value.ownBlock])) (hv g (by simp [Value.ownBlock]))).trans hh, rest⟩
theorem BR.step {w wr w1 w3 : World} {B0 : Nat} {v : PkV} {p : PX} {j : Nat} {kv v3 : Value} {rs : List TX} {y : Int} {r : TX} (h : BR w wr B0 v p j kv rs) (hy : p.kids[j]? = some y) (hb : Below wr.heap.size wr w1) (hp : r.plain = trA v.ns y.toNat) (hr : Tr w1 w1.heap.size r) (hi : InS (fun b => b < B0 ∨ wr.heap.size ≤ b) r) (hf : Fine r) (o : Obj)
    (ho : w3.ownsRow (w.heap.size + 4) 42 4 v3 (j + 1) (rs.flatMap TX.cells ++ r.cells)) (hg : Grows (w1.alloc o) w3 kv v3) : BR w (w3.setCell ⟨w.heap.size + 3, 3, none⟩ v3) B0 v p (j + 1) v3 (rs ++ [r]) := by
  have hz1 := hb.size
  have hz := h.bel.size
  have hl1 := h.b1.lt
  have hB := h.hB
  have hbo : Below wr.heap.size wr (w1.alloc o) := hb.alloc hz1 _
  have hvg := own_from h.tl.row
  have hvl := own_lt h.tl.row
  have hgs := hg.size
  have hsz : (w1.alloc o).heap.size = w1.heap.size + 1 := by simp
  have hln := h.len
  have hv3 : ∀ b, v3.ownBlock = some b → w.heap.size + 4 ≤ b := own_from ho
  have ne : ∀ {b : Nat}, b < w.heap.size + 4 → kv.ownBlock ≠ some b := fun hb' e => by have := hvg _ e; omega
  have hchg : Chg wr (w3.setCell ⟨w.heap.size + 3, 3, none⟩ v3) (fun i => i = w.heap.size + 3 ∨ kv.ownBlock = some i) :=
    (((Chg.of_new hbo _).trans (Chg.of_grown hg.grown (fun x e => e)) (fun i _ e => .inr e)).setCell (p := ⟨w.heap.size + 3, 3, none⟩) (.inl (.inl rfl)) v3)
  have hlo : ∀ k ∈ rs ++ [r], InS (fun b => b < B0 ∨ w.heap.size + 4 ≤ b) k := fun k hk => by
    rcases List.mem_append.1 hk with hk | hk
    · exact h.lo k hk
    · simp at hk; subst hk; exact hi.mono (fun b hb => by omega)
  have htl : TL w3 0 (w.heap.size + 4) v3 (rs ++ [r]) := by
    refine (h.tl.below hb).step hr (hi.mono (fun b hb' => ⟨by omega, fun e => by have := hvl b e; have := hvg b e; omega⟩)) hf o ?_ hg
    rw [hln]; exact ho
  refine ⟨?_, ?_, ?_, ?_, ?_, ?_, hlo, by simp [hln], ?_, hB⟩
  · exact h.bel.trans (hchg.below hz (fun i hi => by
      rcases hi with rfl | hi
      · omega
      · have := hvg i hi; omega))
  · exact h.bx.chg hchg (fun x => by
      rcases x with x | x
      · omega
      · exact ne (by omega) x)
  · exact h.b0.chg hchg (fun x => by
      rcases x with x | x
      · omega
      · exact ne (by omega) x)
  · exact h.bn.chg hchg (fun x => by
      rcases x with x | x
      · omega
      · exact ne (by omega) x)
  · exact (hg.blk (h.b1.below hbo h.b1.lt) (ne (by omega))).set_ 3 v3
  · exact htl.chgS hlo (M := fun i => i = w.heap.size + 3) ((Chg.refl _ (fun i => i = w.heap.size + 3)).setCell (p := ⟨w.heap.size + 3, 3, none⟩) (.inl rfl) v3) (fun x hx e => by have := hv3 x hx; omega) (fun i hi => by omega)
  · rw [List.map_append, h.pl, take_snoc' hy]
    simp [hp]
theorem BR.done {w wr : World} {B0 : Nat} {v : PkV} {p : PX} {kv : Value} {rs : List TX} {i : Nat} (h : BR w wr B0 v p p.kids.length kv rs) (hp : v.ps[i]? = some p) (hf : formN v.ns) (hok : p.ok w B0) :
    NewT0 B0 w (trA v.ns i) (.returned (.agg #[.int .i64 p.kind, .string p.text, .slice p.lA p.leads.length p.lc, kv])) ((((wr.setCell ⟨w.heap.size + 1, 0, none⟩ (.int .i64 p.kind)).setCell ⟨w.heap.size + 1, 1, none⟩ (.string p.text)).setCell ⟨w.heap.size + 1, 2, none⟩ (.slice p.lA p.leads.length p.lc)).setCell ⟨w.heap.size + 1, 3, none⟩ kv) := by
  have hch := put4_chg wr (w.heap.size + 1) (.int .i64 p.kind) (.string p.text) (.slice p.lA p.leads.length p.lc) kv
  obtain ⟨kA, kc, rfl, hrk, hkA⟩ := reads_of_owns h.tl.row
  have hz := h.bel.size
  have hB := h.hB
  have hl1 := h.b1.lt
  have hln := h.len
  have hkl := hok.kl
  have hll := hok.ll
  have hlead : Reads w B0 1 p.lA p.leads.length (p.leads.map Value.string) := hok.leads
  obtain ⟨r, hr'⟩ : ∃ r : TX, r = .node p.kind p.text p.lA p.leads p.lc kA rs kc := ⟨_, rfl⟩
  have hkids : r.kids = rs := by rw [hr']; rfl
  have hcc : rs.length ≤ kc := by
    rcases h.tl.row.2 with ⟨e, hn⟩ | ⟨g, cap, cur, e, -, -, hnc, -⟩
    · have : rs.length = 0 := by
        injection e with e1 e2 e3
      omega
    · injection e with _ _ e3; omega
  have hins : InS (fun b => b < B0 ∨ w.heap.size + 4 ≤ b) r := by
    refine .mk r (fun ad e hn => ?_) (fun ad e hn => ?_) (fun k hk => h.lo k (hkids ▸ hk))
    · rw [hr'] at e
      have := (hkA ad e).1
      omega
    · rw [hr'] at e hn
      obtain ⟨ad', e', hb, -⟩ := hlead.2 hn
      have e1 : p.lA = some ad := e
      rw [e'] at e1
      injection e1 with e1
      rw [← e1]
      exact .inl hb
  have htr : Tr wr wr.heap.size r := by
    refine .mk r ?_ ?_ ?_ ?_ ?_ ?_ (fun k hk => (h.tl.kid k (hkids ▸ hk)).1)
    · rw [hr']; exact hrk
    · rw [hr']; exact ((hlead.more hB).below h.bel).more hz
    · rw [hkids]; omega
    · rw [hkids, hr']; exact hcc
    · rw [hr']; show p.leads.length * 16 ≤ _; omega
    · rw [hr']; exact hok.kind
  refine ⟨r, ?_, ?_, (htr.chgS hins hch (Nat.le_refl _) (fun i hi e => by omega)).more hch.size, hins.mono (fun b hb => by omega), .mk r ?_ ?_ (fun k hk => (h.tl.kid k (hkids ▸ hk)).2.2), h.bel.trans (hch.below hz (fun i hi => by omega))⟩
  · rw [hr']; rfl
  · rw [TX.plain_eq, hkids, h.pl, trA_at hf (v.ns_at hp), List.take_length, hr']; rfl
  · rw [hr']; exact hok.text
  · rw [hr']; exact hok.lk

set_option maxRecDepth 100000 in
set_option maxHeartbeats 8000000 in
theorem build_any (v : PkV) (hf : formN v.ns) (B0 : Nat) (i : Nat) : ∀ w : World, v.ok w B0 → B0 ≤ w.heap.size → i < v.ps.length → Calls Tryd.prog 45 #[v.val, .int .i64 (i : Int)] w (NewT0 B0 w (trA v.ns i)) := by
  induction i using Nat.strongRecOn with
  | _ i ih =>
  intro w h hB0 hi
  obtain ⟨n, hn⟩ : ∃ n, v.ps.length = n := ⟨_, rfl⟩
  obtain ⟨m, hm⟩ : ∃ m, v.rs.length = m := ⟨_, rfl⟩
  obtain ⟨rA, hrA⟩ : ∃ a, v.rA = a := ⟨_, rfl⟩
  obtain ⟨p, hp⟩ : ∃ p, v.ps[i]? = some p := ⟨_, List.getElem?_eq_getElem hi⟩
  obtain ⟨ab, ao, hA, hab, e0, e1, e2, e3⟩ := h.at_ hp
  have hpo := h.each p (List.mem_of_getElem? hp)
  have hnl := h.nl
  have hkl := hpo.kl
  have hll := hpo.ll
  rw [hn] at hi hnl
  have hval : v.val = .agg #[.slice (some ⟨ab, ao, none⟩) n v.nc, .slice rA m v.rc] := by unfold PkV.val; rw [hn, hm, hA, hrA]
  have harr : v.arr = #[.slice (some ⟨ab, ao, none⟩) n v.nc, .slice rA m v.rc] := by unfold PkV.arr; rw [hn, hm, hA, hrA]
  rw [hval] at ih ⊢
  have HIH := Lib.hid ih
  have H := Lib.hid h
  have HF := Lib.hid hf
  have HN := Lib.hid hn
  have HP := Lib.hid hp
  have HPO := Lib.hid hpo
  have HARR := Lib.hid harr
  have HB := Lib.hid hB0
  obtain ⟨kn, hkn⟩ : ∃ kn, p.kids.length = kn := ⟨_, rfl⟩
  rw [hkn] at hkl e3
  have HKN := Lib.hid hkn
  have HCB : Hid (∀ w', Below w.heap.size w w' → w'.cell? ⟨ab, ao + i * 4, none⟩ = some (.int .i64 p.kind) ∧ w'.cell? ⟨ab, ao + i * 4 + 1, none⟩ = some (.string p.text) ∧ w'.cell? ⟨ab, ao + i * 4 + 2, none⟩ = some (.slice p.lA p.leads.length p.lc) ∧ w'.cell? ⟨ab, ao + i * 4 + 3, none⟩ = some (.slice p.kA kn p.kc)) := fun w' hb =>
    ⟨(hb.cell (by show ab < _; omega)).trans e0, (hb.cell (by show ab < _; omega)).trans e1, (hb.cell (by show ab < _; omega)).trans e2, (hb.cell (by show ab < _; omega)).trans e3⟩
  obtain ⟨W0, hW0⟩ : ∃ W, w.alloc (.cells #[.slice (some ⟨ab, ao, none⟩) n v.nc, .slice rA m v.rc] 29) = W := ⟨_, rfl⟩
  have hb0 : Below w.heap.size w W0 := by subst hW0; exact bal (Below.refl _ _) _
  have hs0 : W0.heap.size = w.heap.size + 1 := by subst hW0; simp
  have k0 : Blk W0 w.heap.size 29 #[.slice (some ⟨ab, ao, none⟩) n v.nc, .slice rA m v.rc] := by subst hW0; exact Blk.new _ _ _
  obtain ⟨W1, hW1⟩ : ∃ W, W0.alloc (.cells zeroT 42) = W := ⟨_, rfl⟩
  have hb1 : Below w.heap.size w W1 := by subst hW1; exact bal hb0 _
  have hs1 : W1.heap.size = w.heap.size + 2 := by subst hW1; simp [hs0]
  have k1 : Blk W1 w.heap.size 29 #[.slice (some ⟨ab, ao, none⟩) n v.nc, .slice rA m v.rc] := by subst hW1; exact k0.alloc _
  have l1 : Blk W1 (w.heap.size + 1) 42 zeroT := by subst hW1; rw [← hs0]; exact Blk.new _ _ _
  obtain ⟨W2, hW2⟩ : ∃ W, W1.alloc (.cells #[.int .i64 p.kind, .string p.text, .slice p.lA p.leads.length p.lc, .slice p.kA kn p.kc] 48) = W := ⟨_, rfl⟩
  have hb2 : Below w.heap.size w W2 := by subst hW2; exact bal hb1 _
  have hs2 : W2.heap.size = w.heap.size + 3 := by subst hW2; simp [hs1]
  have k2 : Blk W2 w.heap.size 29 #[.slice (some ⟨ab, ao, none⟩) n v.nc, .slice rA m v.rc] := by subst hW2; exact k1.alloc _
  have l2 : Blk W2 (w.heap.size + 1) 42 zeroT := by subst hW2; exact l1.alloc _
  have m2 : Blk W2 (w.heap.size + 2) 48 #[.int .i64 p.kind, .string p.text, .slice p.lA p.leads.length p.lc, .slice p.kA kn p.kc] := by subst hW2; rw [← hs1]; exact Blk.new _ _ _
  have HR0 : Hid (BR w (W2.alloc (.cells #[.int .i64 p.kind, .string p.text, .slice p.lA p.leads.length p.lc, .slice none 0 0] 42)) B0 v p 0 (.slice none 0 0) []) := by
    refine ⟨bal hb2 _, by rw [HARR.out]; exact k2.alloc _, l2.alloc _, by rw [HKN.out]; exact m2.alloc _, by rw [← hs2]; exact Blk.new _ _ _, TL.nil _ _ _, (fun k hk => by cases hk), rfl, by simp, hB0⟩
  obtain ⟨p0, p1, p2, p3⟩ := HCB.out _ hb1
  have c00 := k1.cell 0
  have c01 := k1.cell 1
  have d0 := m2.cell 0
  have d1 := m2.cell 1
  have d2 := m2.cell 2
  have d3 := m2.cell 3
  simp at c00 c01 d0 d1 d2 d3
  have i0 : (0 : Int) ≤ (i : Int) := by omega
  have i1 : (i : Int) < (n : Int) := by omega
  obtain ⟨i0', hi', hz0, hz1, hz2⟩ := info_parts tree_info
  have HI := Lib.hid hi'
  have HZ0 := Lib.hid hz0
  have HZ1 := Lib.hid hz1
  have HZ2 := Lib.hid hz2
  clear ih h hf hn hm hrA hp hpo hA hkn hval harr e0 e1 e2 e3 hb0 hb1 hb2 k0 k1 k2 l1 l2 m2 hi' hz0 hz1 hz2 hB0
  unfold zeroT at hW1
  go_enter Tryd.func45, Tryd.ntmps45
  go_wp2_with fail
  have HW0 := Lib.hid hW0
  have HW1 := Lib.hid hW1
  have HW2 := Lib.hid hW2
  clear hW0 hW1 hW2 p0 p1 p2 p3 c00 c01 d0 d1 d2 d3
  go_loopw [7] (fun i wr => ∃ (j : Nat) (kA : Option Addr) (kc : Nat) (rs : List TX), j ≤ kn ∧ i = .int .i64 (j : Int) ∧ Hid (BR w wr B0 v p j (.slice kA j kc) rs)) (fun i _ => kn - (intOf i).toNat)
  case atStart => exact ⟨0, none, 0, [], by omega, rfl, HR0⟩
  case round =>
    obtain ⟨j, kA, kc, rs, hj, rfl, HR⟩ := hrel
    have HBN : Hid (Blk wr (w.heap.size + 2) 48 #[.int .i64 p.kind, .string p.text, .slice p.lA p.leads.length p.lc, .slice p.kA kn p.kc]) := by have := HR.out.bn; rw [HKN.out] at this; exact this
    have HBX : Hid (Blk wr w.heap.size 29 #[.slice (some ⟨ab, ao, none⟩) n v.nc, .slice rA m v.rc]) := by have := HR.out.bx; rw [HARR.out] at this; exact this
    have d3 := HBN.out.cell 3
    simp at d3
    by_cases hlt : j < kn
    · obtain ⟨y, hy⟩ : ∃ y, p.kids[j]? = some y := ⟨_, List.getElem?_eq_getElem (by rw [HKN.out]; exact hlt)⟩
      have hkr := HPO.out.kids
      rw [HKN.out] at hkr
      obtain ⟨b1, o1, u1, hkA, hb1, hu1, g1⟩ := hkr.at1 hlt
      obtain rfl : u1 = .int .i64 y := by rw [List.getElem?_map, hy] at hu1; simpa using hu1.symm
      have hyr := HF.out i p.plain (v.ns_at HP.out) y (List.mem_of_getElem? hy)
      obtain ⟨yn, rfl⟩ : ∃ yn : Nat, y = (yn : Int) := ⟨y.toNat, by omega⟩
      rw [hkA] at d3 HBN
      have HLN := Lib.hid HR.out.len
      have hb1' : b1 < w.heap.size := by have := HB.out; omega
      have HG1 : Hid (w.cell? ⟨b1, o1 + j, none⟩ = some (.int .i64 (yn : Int))) := g1
      have HC : Hid (∀ w', Below wr.heap.size wr w' → Calls Tryd.prog 45 #[.agg #[.slice (some ⟨ab, ao, none⟩) n v.nc, .slice rA m v.rc], .int .i64 (yn : Int)] w' (NewT0 B0 w' (trA v.ns yn))) := fun w' hb => by
        have hbw := HR.out.bel.trans (hb.mono HR.out.bel.size)
        exact HIH.out yn (by omega) w' (H.out.low (hbw.mono HB.out)) (by have := hbw.size; have := HB.out; omega) (by rw [HN.out]; omega)
      have HFX : Hid (∀ w' : World, (∀ q : Addr, q.block < w.heap.size + 3 → w'.cell? q = wr.cell? q) → w'.cell? ⟨w.heap.size, 0, none⟩ = some (.slice (some ⟨ab, ao, none⟩) n v.nc) ∧ w'.cell? ⟨w.heap.size, 1, none⟩ = some (.slice rA m v.rc) ∧ w'.cell? ⟨w.heap.size + 2, 3, none⟩ = some (.slice (some ⟨b1, o1, none⟩) kn p.kc) ∧ w'.cell? ⟨b1, o1 + j, none⟩ = some (.int .i64 (yn : Int))) := fun w' hq => by
        refine ⟨(hq _ (by show w.heap.size < _; omega)).trans (by rw [HBX.out.cell]; rfl), (hq _ (by show w.heap.size < _; omega)).trans (by rw [HBX.out.cell]; rfl), (hq _ (by show w.heap.size + 2 < _; omega)).trans (by rw [HBN.out.cell]; rfl), (hq _ (by show b1 < _; omega)).trans ((HR.out.bel.cell hb1').trans HG1.out)⟩
      have HC3 : Hid (∀ w', Below wr.heap.size wr w' → w'.cell? ⟨w.heap.size + 3, 3, none⟩ = some (.slice kA j kc) ∧ w'.frozen? ⟨w.heap.size + 3, 3, none⟩ = false ∧ w'.cell? ⟨w.heap.size, 0, none⟩ = some (.slice (some ⟨ab, ao, none⟩) n v.nc) ∧ w'.cell? ⟨w.heap.size, 1, none⟩ = some (.slice rA m v.rc) ∧ w'.cell? ⟨w.heap.size + 2, 3, none⟩ = some (.slice (some ⟨b1, o1, none⟩) kn p.kc) ∧ w'.cell? ⟨b1, o1 + j, none⟩ = some (.int .i64 (yn : Int))) := fun w' hb => by
        have h1 := HR.out.b1.below hb HR.out.b1.lt
        exact ⟨by rw [h1.cell]; rfl, h1.frozen 3, HFX.out w' (fun q hq => hb.cell (by have := HR.out.b1.lt; omega))⟩
      have HOW : Hid (∀ w', Below wr.heap.size wr w' → w'.ownsRow (w.heap.size + 4) 42 4 (.slice kA j kc) j (rs.flatMap TX.cells)) := fun w' hb => by
        have := owns_below HR.out.tl.row hb (own_lt HR.out.tl.row)
        rw [HLN.out] at this
        exact this
      have HNX : Hid (∀ (w5 w6 : World) (r : TX) (v6 : Value) (o : Obj), Below wr.heap.size wr w5 → r.plain = trA v.ns yn → Tr w5 w5.heap.size r → InS (fun b => b < B0 ∨ wr.heap.size ≤ b) r → Fine r → w6.ownsRow (w.heap.size + 4) 42 4 v6 (j + 1) (rs.flatMap TX.cells ++ r.cells) → Grows (w5.alloc o) w6 (.slice kA j kc) v6 → BR w (w6.setCell ⟨w.heap.size + 3, 3, none⟩ v6) B0 v p (j + 1) v6 (rs ++ [r])) := fun w5 w6 r v6 o h1 h2 h3 h4 h5 h6 h7 => HR.out.step hy h1 h2 h3 h4 h5 o h6 h7
      have HG6 : Hid (∀ (w5 w6 : World) (v6 : Value) (o : Obj), Below wr.heap.size wr w5 → Grows (w5.alloc o) w6 (.slice kA j kc) v6 → w6.cell? ⟨w.heap.size + 3, 3, none⟩ = some (.slice kA j kc) ∧ w6.frozen? ⟨w.heap.size + 3, 3, none⟩ = false ∧ (w6.cell? ⟨w.heap.size, 0, none⟩ = some (.slice (some ⟨ab, ao, none⟩) n v.nc) ∧ w6.cell? ⟨w.heap.size, 1, none⟩ = some (.slice rA m v.rc) ∧ w6.cell? ⟨w.heap.size + 2, 3, none⟩ = some (.slice (some ⟨b1, o1, none⟩) kn p.kc) ∧ w6.cell? ⟨b1, o1 + j, none⟩ = some (.int .i64 (yn : Int))) ∧ ∀ u, ((w6.setCell ⟨w.heap.size + 3, 3, none⟩ u).cell? ⟨w.heap.size, 0, none⟩ = some (.slice (some ⟨ab, ao, none⟩) n v.nc) ∧ (w6.setCell ⟨w.heap.size + 3, 3, none⟩ u).cell? ⟨w.heap.size, 1, none⟩ = some (.slice rA m v.rc) ∧ (w6.setCell ⟨w.heap.size + 3, 3, none⟩ u).cell? ⟨w.heap.size + 2, 3, none⟩ = some (.slice (some ⟨b1, o1, none⟩) kn p.kc) ∧ (w6.setCell ⟨w.heap.size + 3, 3, none⟩ u).cell? ⟨b1, o1 + j, none⟩ = some (.int .i64 (yn : Int)))) := fun w5 w6 v6 o hb hg => by
        have hvg := own_from HR.out.tl.row
        have hl := HR.out.b1.lt
        have h1 := hg.blk ((HR.out.b1.below hb HR.out.b1.lt).alloc o) (fun e => by have := hvg _ e; omega)
        have hq : ∀ q : Addr, q.block < w.heap.size + 3 → w6.cell? q = wr.cell? q := fun q hq => by
          have hbo : Below wr.heap.size wr (w5.alloc o) := bal hb _
          rw [World.cell?_of_block (hg.grown.block q.block (by have := hbo.size; omega) (fun e => by have := hvg _ e.symm; omega))]
          exact hbo.cell (by omega)
        refine ⟨by rw [h1.cell]; rfl, h1.frozen 3, HFX.out w6 hq, fun u => HFX.out _ (fun q hq' => (World.cell?_setCell_other w6 _ _ _ (fun e => by rw [← e] at hq'; simp at hq')).trans (hq q hq'))⟩
      have B0' : Hid (Below wr.heap.size wr wr.drew) := below_drewN (Below.refl _ wr) 1
      have HZ5 : Hid (∀ w5 o, Below wr.heap.size wr w5 → w.heap.size + 4 ≤ (w5.alloc o).heap.size) := fun w5 o hb => by have := hb.size; have := HR.out.b1.lt; simp; omega
      have HM1 : Hid (j + 1 ≤ maxLen) := by unfold Hid maxLen; omega
      have HM2 : Hid ((j + 1) * 72 ≤ 140737488355328) := by unfold Hid; omega
      have c00 := (HC3.out _ B0'.out).1
      have j0 : (0 : Int) ≤ (j : Int) := by omega
      have j1 : (j : Int) < (kn : Int) := by omega
      clear hy hu1 hkr hyr hkA
      go_wp2_with fail
      rw [late_load _ 27]
      go_region_held3 (fun w' => w'.cell? ⟨w.heap.size, 0, none⟩ = some (.slice (some ⟨ab, ao, none⟩) n v.nc) ∧ w'.cell? ⟨w.heap.size, 1, none⟩ = some (.slice rA m v.rc) ∧ w'.cell? ⟨w.heap.size + 2, 3, none⟩ = some (.slice (some ⟨b1, o1, none⟩) kn p.kc) ∧ w'.cell? ⟨b1, o1 + j, none⟩ = some (.int .i64 (yn : Int)))
        (first | (with_reducible exact (HC3.out _ B0'.out).2.2) | (with_reducible exact (HC3.out _ B5.out).2.2) | (with_reducible exact (HC3.out _ (bal B5.out _)).2.2) | (with_reducible exact HG7.out.2.2.1) | (with_reducible exact HG7.out.2.2.2 _))
        (first
          | (refine step_append_row _ rfl (.tmp 28) (.tmp 36) 23 23 rfl (w.heap.size + 4) 42 i0' (.agg #[.int .i64 0, .string ⟨#[]⟩, .slice none 0 0, .slice none 0 0]) 4 72 Tryd.underlying23 HI.out HZ0.out HZ1.out HZ2.out rfl (by decide) (.slice kA j kc) j (rs.flatMap TX.cells) rfl (HOW.out _ (bal B5.out _)) (.slice (some ⟨w5.heap.size, 0, none⟩) 1 1) 1 r5.cells rfl (src_new w5 Tryd.underlying23 r5.cells 4 1 1 42 rfl (tree_one r5)) HM1.out HM2.out (HZ5.out _ _ B5.out) ?_; intro v6 w6 ho6 hg6; obtain ⟨A6, c6, rfl, -, -⟩ := reads_of_owns ho6; have HO6 := Lib.hid ho6; have HGR := Lib.hid hg6; have HG7 := Lib.hid (HG6.out _ _ _ _ B5.out hg6); have c60 := HG7.out.1; have z60 := HG7.out.2.1; clear ho6 hg6)
          | (go_at_call 45; refine (HC.out _ B0'.out).mono ?_; rintro e w5 ⟨r5, rfl, hp5, ht5, hi5, hf5, hb5⟩; unfold TX.val; have B5 := Lib.hid (B0'.out.trans (hb5.mono B0'.out.size)); have P5 := Lib.hid hp5; have T5 := Lib.hid ht5; have I5 := Lib.hid hi5; have F5 := Lib.hid hf5; have c50 := (HC3.out _ B5.out).1; have c5a := (HC3.out _ (bal B5.out (.cells #[.int .i64 r5.kind, .string r5.text, .slice r5.lA r5.leads.length r5.lc, .slice r5.kA r5.kids.length r5.kc] 42))).1; clear hp5 ht5 hi5 hf5 hb5))
      all_goals
        have HS := Lib.hid (HNX.out _ _ _ _ _ B5.out P5.out T5.out I5.out F5.out HO6.out HGR.out)
        clear c00 c50 c5a c60 z60
        go_wp2_with fail
        go_roundw
        case rel => exact ⟨j + 1, _, _, _, by omega, by go_num, HS⟩
        case measure => simp [intOf]; omega
    · obtain rfl : j = kn := by omega
      have hur : BR w wr B0 v p p.kids.length (.slice kA p.kids.length kc) rs := by have := HR.out; rw [HKN.out]; exact this
      have HD := Lib.hid (hur.done HP.out HF.out (HPO.out))
      rw [HKN.out] at HD
      have b0 := HR.out.b1.cell 0
      have b1 := HR.out.b1.cell 1
      have b2 := HR.out.b1.cell 2
      have b3 := HR.out.b1.cell 3
      simp at b0 b1 b2 b3
      have HB00 : Hid (Blk wr (w.heap.size + 1) 42 #[.int .i64 0, .string ⟨#[]⟩, .slice none 0 0, .slice none 0 0]) := HR.out.b0
      have z0 := HB00.out.frozen 0
      have z1 := HB00.out.frozen 1
      have z2 := HB00.out.frozen 2
      have z3 := HB00.out.frozen 3
      have y0 := HB00.out.cell 0
      have y1 := HB00.out.cell 1
      have y2 := HB00.out.cell 2
      have y3 := HB00.out.cell 3
      simp at y0 y1 y2 y3
      have HXE := Lib.hid (put4_blk HB00.out (.int .i64 p.kind) (.string p.text) (.slice p.lA p.leads.length p.lc) (.slice kA j kc))
      have x0 := HXE.out.cell 0
      have x1 := HXE.out.cell 1
      have x2 := HXE.out.cell 2
      have x3 := HXE.out.cell 3
      simp at x0 x1 x2 x3
      clear hur
      go_wp2_with fail
      refine bodyPost_ret (v := .agg #[.int .i64 p.kind, .string p.text, .slice p.lA p.leads.length p.lc, .slice kA j kc]) (by simp [results, Tryd.results45, go_sem, x0, x1, x2, x3]) rfl ?_
      exact HD.out
end Go.Proofs.YtdabmjcpiblofaaDoor
