/-
  unpack: the tree of a node, in new memory. unpack: the walk. No condition.
-/
import Derived.Test.YtdabmjcpiblofaaDoorPkI
import Derived.Test.YtdabmjcpiblofaaDoorPkU
namespace Go.Proofs.YtdabmjcpiblofaaDoor
open Go.RowKit
set_option linter.unusedVariables false

def zeroT : Array Value := #[.int .i64 0, .string ⟨#[]⟩, .slice none 0 0, .slice none 0 0]
/-- behind the first statement -/
structure UB (w wr : World) (p : PX) (g : Nat) (A : Option Addr) (c : Nat) : Prop where
  bel : Below w.heap.size w wr
  b0 : Blk wr w.heap.size 42 zeroT
  b1 : Blk wr g 42 #[.int .i64 p.kind, .string p.text, .slice A p.leads.length c, .slice none 0 0]
  lead : RowIn wr (fun b => w.heap.size < b ∧ b ≠ g) A p.leads.length (p.leads.map Value.string)
  gg : w.heap.size < g
structure UR (w wr : World) (v : PkV) (p : PX) (g HB : Nat) (A : Option Addr) (c j : Nat) (kv : Value) (rs : List TX) : Prop where
  bel : Below w.heap.size w wr
  b0 : Blk wr w.heap.size 42 zeroT
  b1 : Blk wr g 42 #[.int .i64 p.kind, .string p.text, .slice A p.leads.length c, kv]
  lead : RowIn wr (fun b => w.heap.size ≤ b ∧ b < HB ∧ b ≠ g ∧ b ≠ w.heap.size) A p.leads.length (p.leads.map Value.string)
  gg : w.heap.size < g
  gh : g < HB
  hb : HB ≤ wr.heap.size
  tl : TL wr HB HB kv rs
  len : rs.length = j
  pl : rs.map TX.plain = (p.kids.take j).map fun k => trA v.ns k.toNat
theorem UB.start {w wr : World} {v : PkV} {p : PX} {g c : Nat} {A : Option Addr} (h : UB w wr p g A c) : UR w wr v p g wr.heap.size A c 0 (.slice none 0 0) [] :=
  ⟨h.bel, h.b0, h.b1, h.lead.mono (fun b hb h => ⟨by omega, hb, h.2, by omega⟩), h.gg, h.b1.lt, Nat.le_refl _, TL.nil _ _ _, rfl, by simp⟩
theorem UR.step {w wr w1 w3 : World} {v : PkV} {p : PX} {g HB c j : Nat} {A : Option Addr} {kv v3 : Value} {rs : List TX} {y : Int} {r : TX} (h : UR w wr v p g HB A c j kv rs) (hy : p.kids[j]? = some y) (hb : Below wr.heap.size wr w1) (hp : r.plain = trA v.ns y.toNat) (hr : Tr w1 w1.heap.size r) (hi : InS (wr.heap.size ≤ ·) r) (hf : Fine r) (o : Obj)
    (ho : w3.ownsRow HB 42 4 v3 (j + 1) (rs.flatMap TX.cells ++ r.cells)) (hg : Grows (w1.alloc o) w3 kv v3) : UR w (w3.setCell ⟨g, 3, none⟩ v3) v p g HB A c (j + 1) v3 (rs ++ [r]) := by
  have hz1 := hb.size
  have hz := h.bel.size
  have hhb := h.hb
  have hgg := h.gg
  have hgh := h.gh
  have hbo : Below wr.heap.size wr (w1.alloc o) := hb.alloc hz1 _
  have hvg := own_from h.tl.row
  have hvl := own_lt h.tl.row
  have hgs := hg.size
  have hsz : (w1.alloc o).heap.size = w1.heap.size + 1 := by simp
  have hss : (w3.setCell ⟨g, 3, none⟩ v3).heap.size = w3.heap.size := by simp [World.setCell]
  have hln := h.len
  have hv3 : ∀ b, v3.ownBlock = some b → HB ≤ b := own_from ho
  have ne : ∀ {b : Nat}, b < HB → kv.ownBlock ≠ some b := fun hb' e => by have := hvg _ e; omega
  have hchg : Chg wr (w3.setCell ⟨g, 3, none⟩ v3) (fun i => i = g ∨ kv.ownBlock = some i) :=
    (((Chg.of_new hbo _).trans (Chg.of_grown hg.grown (fun x e => e)) (fun i _ e => .inr e)).setCell (p := ⟨g, 3, none⟩) (.inl (.inl rfl)) v3)
  have htl : TL w3 HB HB v3 (rs ++ [r]) := by
    refine (h.tl.below hb).step hr (hi.mono (fun b hb' => ⟨by omega, fun e => by have := hvl b e; omega⟩)) hf o ?_ hg
    rw [hln]; exact ho
  refine ⟨?_, ?_, ?_, ?_, hgg, hgh, by omega, ?_, by simp [hln], ?_⟩
  · exact h.bel.trans (hchg.below hz (fun i hi => by
      rcases hi with rfl | hi
      · omega
      · have := hvg i hi; omega))
  · exact h.b0.chg hchg (fun x => by
      rcases x with x | x
      · omega
      · exact ne (by omega) x)
  · exact (hg.blk (h.b1.below hbo h.b1.lt) (ne hgh)).set_ 3 v3
  · exact h.lead.chg hchg (fun i hi x => x.elim (fun x => hi.2.2.1 x) (fun x => ne hi.2.1 x))
  · exact htl.chg (M := fun i => i = g) ((Chg.refl _ (fun i => i = g)).setCell (p := ⟨g, 3, none⟩) (.inl rfl) v3) (fun x hx e => by have := hv3 x hx; omega) (fun i hi => .inl (by omega))
  · rw [List.map_append, h.pl, take_snoc' hy]
    simp [hp]
theorem UR.done {w wr : World} {v : PkV} {p : PX} {g HB c : Nat} {A : Option Addr} {kv : Value} {rs : List TX} {i B : Nat} (h : UR w wr v p g HB A c p.kids.length kv rs) (hp : v.ps[i]? = some p) (hf : formN v.ns) (hok : p.ok w B) :
    NewT w (trA v.ns i) (.returned (.agg #[.int .i64 p.kind, .string p.text, .slice A p.leads.length c, kv])) ((((wr.setCell ⟨w.heap.size, 0, none⟩ (.int .i64 p.kind)).setCell ⟨w.heap.size, 1, none⟩ (.string p.text)).setCell ⟨w.heap.size, 2, none⟩ (.slice A p.leads.length c)).setCell ⟨w.heap.size, 3, none⟩ kv) := by
  have hch := put4_chg wr w.heap.size (.int .i64 p.kind) (.string p.text) (.slice A p.leads.length c) kv
  obtain ⟨kA, kc, rfl, hrk, hkA⟩ := reads_of_owns h.tl.row
  have hz := h.bel.size
  have hhb := h.hb
  have hgg := h.gg
  have hgh := h.gh
  have hln := h.len
  have hkl := hok.kl
  have hll := hok.ll
  obtain ⟨r, hr'⟩ : ∃ r : TX, r = .node p.kind p.text A p.leads c kA rs kc := ⟨_, rfl⟩
  have hkids : r.kids = rs := by rw [hr']; rfl
  have hcc : rs.length ≤ kc := by
    rcases h.tl.row.2 with ⟨e, hn⟩ | ⟨g, cap, cur, e, -, -, hnc, -⟩
    · have : rs.length = 0 := by
        injection e with e1 e2 e3
      omega
    · injection e with _ _ e3; omega
  have hins : InS (fun b => w.heap.size < b) r := by
    refine .mk r (fun ad e hn => ?_) (fun ad e hn => ?_) (fun k hk => (h.tl.kid k (hkids ▸ hk)).2.1.mono (fun b hb => by omega))
    · rw [hr'] at e
      have := (hkA ad e).1
      omega
    · rw [hr'] at e hn
      obtain ⟨g', off, e', hb, -, -⟩ := h.lead.2 hn
      have e1 : A = some ad := e
      rw [e'] at e1
      injection e1 with e1
      rw [← e1]
      show w.heap.size < g'
      omega
  have htr : Tr wr wr.heap.size r := by
    refine .mk r ?_ ?_ ?_ ?_ ?_ ?_ (fun k hk => (h.tl.kid k (hkids ▸ hk)).1)
    · rw [hr']; exact hrk
    · rw [hr']; exact h.lead.reads
    · rw [hkids]; omega
    · rw [hkids, hr']; exact hcc
    · rw [hr']; show p.leads.length * 16 ≤ _; omega
    · rw [hr']; exact hok.kind
  refine ⟨r, ?_, ?_, (htr.chgS hins hch (Nat.le_refl _) (fun i hi e => by omega)).more hch.size, hins.mono (fun b hb => by omega), .mk r ?_ ?_ (fun k hk => (h.tl.kid k (hkids ▸ hk)).2.2), h.bel.trans (hch.below hz (fun i hi => by omega))⟩
  · rw [hr']; rfl
  · rw [TX.plain_eq, hkids, h.pl, trA_at hf (v.ns_at hp), List.take_length, hr']; rfl
  · rw [hr']; exact hok.text
  · rw [hr']; exact hok.lk
end Go.Proofs.YtdabmjcpiblofaaDoor

namespace Go.Proofs.YtdabmjcpiblofaaDoor
open Go.RowKit
set_option linter.unusedVariables false

theorem ub_lit {w wA w5 : World} {p : PX} {A : Option Addr} {c : Nat} (hz : w.heap.size < wA.heap.size) (hbA : Below wA.heap.size wA w5) (hb0 : Blk wA w.heap.size 42 zeroT) (hw : Below w.heap.size w wA) (hr : RowIn w5 (fun b => wA.heap.size ≤ b) A p.leads.length (p.leads.map Value.string)) :
    UB w (w5.alloc (.cells #[.int .i64 p.kind, .string p.text, .slice A p.leads.length c, .slice none 0 0] 42)) p w5.heap.size A c := by
  have hz5 := hbA.size
  refine ⟨hw.trans ((bal hbA _).mono (by omega)), (hb0.below hbA hz).alloc _, Blk.new _ _ _, ?_, by omega⟩
  refine ⟨hr.1, fun hn => ?_⟩
  obtain ⟨g, off, e, h1, h2, h3⟩ := hr.2 hn
  exact ⟨g, off, e, ⟨by omega, by omega⟩, by simp; omega, fun j u hu => (World.cell?_alloc_lt w5 _ ⟨g, off + j, none⟩ h2).trans (h3 j u hu)⟩
theorem ub_set {w wA w5 : World} {p : PX} {A : Option Addr} {c g : Nat} {p0 p1 p2 p3 : Value} (hz : w.heap.size < wA.heap.size) (hbA : Below wA.heap.size wA w5) (hb0 : Blk wA w.heap.size 42 zeroT) (hw : Below w.heap.size w wA) (hq : Blk w5 g 42 #[p0, p1, p2, p3]) (hg : wA.heap.size = g) (hr : RowIn w5 (fun b => wA.heap.size < b) A p.leads.length (p.leads.map Value.string)) :
    UB w ((((w5.setCell ⟨g, 0, none⟩ (.int .i64 p.kind)).setCell ⟨g, 1, none⟩ (.string p.text)).setCell ⟨g, 2, none⟩ (.slice A p.leads.length c)).setCell ⟨g, 3, none⟩ (.slice none 0 0)) p g A c := by
  have hz5 := hbA.size
  have hch := put4_chg w5 g (.int .i64 p.kind) (.string p.text) (.slice A p.leads.length c) (.slice none 0 0)
  have hb5 : Below w.heap.size w w5 := hw.trans (hbA.mono (by omega))
  refine ⟨hb5.trans (hch.below hb5.size (fun i hi => by omega)), (hb0.below hbA hz).chg hch (fun e => by omega), put4_blk hq _ _ _ _, ?_, by omega⟩
  exact (hr.mono (fun i _ hi => ⟨by omega, by omega⟩)).chg hch (fun i hi e => hi.2 e)
theorem bst5 {w w' : World} (h : Below w.heap.size w w') {g : Nat} (hg : w.heap.size ≤ g) {a b c d : Value} : Below w.heap.size w ((((w'.setCell ⟨g, 0, none⟩ a).setCell ⟨g, 1, none⟩ b).setCell ⟨g, 2, none⟩ c).setCell ⟨g, 3, none⟩ d) :=
  (((h.setCell (p := ⟨g, 0, none⟩) hg a).setCell (p := ⟨g, 1, none⟩) hg b).setCell (p := ⟨g, 2, none⟩) hg c).setCell (p := ⟨g, 3, none⟩) hg d
set_option maxRecDepth 100000 in
set_option maxHeartbeats 8000000 in
theorem unpack_any (v : PkV) (hf : formN v.ns) (i : Nat) : ∀ w : World, v.ok w w.heap.size → i < v.ps.length → Calls Tryd.prog 43 #[.slice v.nA v.ps.length v.nc, .int .i64 (i : Int)] w (NewT w (trA v.ns i)) := by
  induction i using Nat.strongRecOn with
  | _ i ih =>
  intro w h hi
  obtain ⟨n, hn⟩ : ∃ n, v.ps.length = n := ⟨_, rfl⟩
  obtain ⟨p, hp⟩ : ∃ p, v.ps[i]? = some p := ⟨_, List.getElem?_eq_getElem hi⟩
  obtain ⟨ab, ao, hA, hab, e0, e1, e2, e3⟩ := h.at_ hp
  have hpo := h.each p (List.mem_of_getElem? hp)
  have hnl := h.nl
  have hkl := hpo.kl
  have hll := hpo.ll
  rw [hn] at hi hnl
  rw [hn, hA]
  have HIH := Lib.hid ih
  have H := Lib.hid h
  have HF := Lib.hid hf
  have HN := Lib.hid hn
  have HP := Lib.hid hp
  have HPO := Lib.hid hpo
  have HNA := Lib.hid hA
  obtain ⟨kn, hkn⟩ : ∃ kn, p.kids.length = kn := ⟨_, rfl⟩
  rw [hkn] at hkl e3
  have HKN := Lib.hid hkn
  obtain ⟨wA, hwA⟩ : ∃ wA, w.alloc (.cells zeroT 42) = wA := ⟨_, rfl⟩
  have HBA : Hid (Below w.heap.size w wA) := by subst hwA; exact bal (Below.refl _ _) _
  have HZA : Hid (w.heap.size < wA.heap.size) := by subst hwA; unfold Hid; simp
  have HB0 : Hid (Blk wA w.heap.size 42 zeroT) := by subst hwA; exact Blk.new _ _ _
  have HCB : Hid (∀ w', Below w.heap.size w w' → w'.cell? ⟨ab, ao + i * 4, none⟩ = some (.int .i64 p.kind) ∧ w'.cell? ⟨ab, ao + i * 4 + 1, none⟩ = some (.string p.text) ∧ w'.cell? ⟨ab, ao + i * 4 + 2, none⟩ = some (.slice p.lA p.leads.length p.lc)) := fun w' hb =>
    ⟨(hb.cell hab).trans e0, (hb.cell hab).trans e1, (hb.cell hab).trans e2⟩
  have HCK : Hid (∀ w', Below w.heap.size w w' → w'.cell? ⟨ab, ao + i * 4 + 3, none⟩ = some (.slice p.kA kn p.kc)) := fun w' hb => (hb.cell hab).trans e3
  have HCL : Hid (∀ w', Below w.heap.size w w' → Calls Tryd.prog 64 #[.slice p.lA p.leads.length p.lc] w' (fun e w'' => ∃ A' c', e = .returned (.slice A' p.leads.length c') ∧ RowIn w'' (fun i => w'.heap.size ≤ i) A' p.leads.length (p.leads.map Value.string) ∧ Below w'.heap.size w' w'')) := fun w' hb =>
    clone_any p.lA p.lc w'.heap.size p.leads w' (((HPO.out.leads.below hb)).more hb.size) (by omega)
  have i0 : (0 : Int) ≤ (i : Int) := by omega
  have i1 : (i : Int) < (n : Int) := by omega
  clear ih h hf hn hp hpo hA hkn
  unfold zeroT at hwA
  go_enter Tryd.func43, Tryd.ntmps43
  go_upto_region 2 with fail
  have B0 : Hid (Below wA.heap.size wA wA.drew) := below_drewN (Below.refl _ wA) 1
  have B0A : Hid (∀ o, Below wA.heap.size wA (wA.alloc o).drew) := fun o => below_drewN (bal (Below.refl _ wA) o) 1
  have HWA := Lib.hid hwA
  clear e0 e1 e2 e3
  go_cut [5] (fun s wk => ∃ g A c, s = .pointer (some ⟨g, 0, none⟩) ∧ Hid (UB w wk p g A c))
  case first =>
    have HW0 : Hid (∀ w', Below wA.heap.size wA w' → Below w.heap.size w w') := fun w' hb => HBA.out.trans (hb.mono HBA.out.size)
    go_region_held3 (fun w' => w'.cell? ⟨ab, ao + i * 4, none⟩ = some (.int .i64 p.kind) ∧ w'.cell? ⟨ab, ao + i * 4 + 1, none⟩ = some (.string p.text) ∧ w'.cell? ⟨ab, ao + i * 4 + 2, none⟩ = some (.slice p.lA p.leads.length p.lc))
      (first | (with_reducible exact HCB.out _ (HW0.out _ B0.out)) | (with_reducible exact HCB.out _ (HW0.out _ (B0A.out _))) | (with_reducible exact HCB.out _ (HW0.out _ B5.out)) | (with_reducible exact HCB.out _ (HW0.out _ (bal B5.out _))) | (with_reducible exact HCB.out _ (HW0.out _ (bst5 B5.out (Nat.le_refl _)))) | (with_reducible exact HCB.out _ (HW0.out _ (bst5 (bal B5.out _) B5.out.size))))
      (first
        | (go_at_call 64; refine (HCL.out _ (HW0.out _ B0.out)).mono ?_; rintro e w5 ⟨A5, c5, rfl, hr5, hb5⟩; have B5 := Lib.hid (B0.out.trans (hb5.mono B0.out.size)); have R5 := Lib.hid hr5; clear hr5 hb5)
        | (go_at_call 64; refine (HCL.out _ (HW0.out _ (B0A.out _))).mono ?_; rintro e w5 ⟨A5, c5, rfl, hr5, hb5⟩; have B5 := Lib.hid ((B0A.out _).trans (hb5.mono (B0A.out _).size)); have R6 := Lib.hid hr5; have q := Blk.below (Blk.drew (Blk.new _ _ _)) hb5 (by simp); have Q5 := Lib.hid q; have q0 := q.cell 0; have q1 := q.cell 1; have q2 := q.cell 2; have q3 := q.cell 3; simp at q0 q1 q2 q3; have z0 := q.frozen 0; have z1 := q.frozen 1; have z2 := q.frozen 2; have z3 := q.frozen 3; clear q; clear hr5 hb5))
    all_goals
      go_wp2_with fail
      go_meet
      refine ⟨_, A5, c5, rfl, ?_⟩
      first
        | with_reducible exact (ub_lit HZA.out B5.out HB0.out HBA.out R5.out)
        | exact (ub_set HZA.out B5.out HB0.out HBA.out Q5.out rfl (R6.out.mono (fun b _ hb => by simp at hb; omega)))
        | exact (ub_lit HZA.out B5.out HB0.out HBA.out R5.out)
  case rest =>
    obtain ⟨g, A5, c5, rfl, HU⟩ := hcut
    obtain ⟨w8, rfl⟩ : ∃ wo : World, wo = wc := ⟨_, rfl⟩
    have e3 := HCK.out _ HU.out.bel
    obtain ⟨i0', hi', hz0, hz1, hz2⟩ := info_parts tree_info
    have HI := Lib.hid hi'
    have HZ0 := Lib.hid hz0
    have HZ1 := Lib.hid hz1
    have HZ2 := Lib.hid hz2
    have HUR : Hid (UR w w8 v p g w8.heap.size A5 c5 0 (.slice none 0 0) []) := HU.out.start
    obtain ⟨HB, hHB⟩ : ∃ HB, w8.heap.size = HB := ⟨_, rfl⟩
    rw [hHB] at HUR
    clear hi' hz0 hz1 hz2 hHB HU B0 B0A
    go_wp2_with fail
    go_loopw [31] (fun i wr => ∃ (j : Nat) (kA : Option Addr) (kc : Nat) (rs : List TX), j ≤ kn ∧ i = .int .i64 (j : Int) ∧ Hid (UR w wr v p g HB A5 c5 j (.slice kA j kc) rs)) (fun i _ => kn - (intOf i).toNat)
    case atStart => exact ⟨0, none, 0, [], by omega, rfl, HUR⟩
    case round =>
      obtain ⟨j, kA, kc, rs, hj, rfl, HR⟩ := hrel
      by_cases hlt : j < kn
      · obtain ⟨y, hy⟩ : ∃ y, p.kids[j]? = some y := ⟨_, List.getElem?_eq_getElem (by rw [HKN.out]; exact hlt)⟩
        have hkr := HPO.out.kids.below HR.out.bel
        rw [HKN.out] at hkr
        obtain ⟨b1, o1, u1, hkA, -, hu1, g1⟩ := hkr.at1 hlt
        obtain rfl : u1 = .int .i64 y := by rw [List.getElem?_map, hy] at hu1; simpa using hu1.symm
        have hyr := HF.out i p.plain (v.ns_at HP.out) y (List.mem_of_getElem? hy)
        obtain ⟨yn, rfl⟩ : ∃ yn : Nat, y = (yn : Int) := ⟨y.toNat, by omega⟩
        rw [hkA] at e3 ⊢
        have HLN := Lib.hid HR.out.len
        have HC : Hid (∀ w', Below wr.heap.size wr w' → Calls Tryd.prog 43 #[.slice (some ⟨ab, ao, none⟩) n v.nc, .int .i64 (yn : Int)] w' (NewT w' (trA v.ns yn))) := fun w' hb => by
          have h1 := HIH.out yn (by omega) w' (H.out.up (Nat.le_refl _) (HR.out.bel.trans (hb.mono HR.out.bel.size))) (by rw [HN.out]; omega)
          rw [HN.out, HNA.out] at h1
          exact h1
        have HC3 : Hid (∀ w', Below wr.heap.size wr w' → w'.cell? ⟨g, 3, none⟩ = some (.slice kA j kc) ∧ w'.frozen? ⟨g, 3, none⟩ = false ∧ w'.cell? ⟨g, 0, none⟩ = some (.int .i64 p.kind)) := fun w' hb => by
          have h1 := HR.out.b1.below hb HR.out.b1.lt
          exact ⟨by rw [h1.cell]; rfl, h1.frozen 3, by rw [h1.cell]; rfl⟩
        have HOW : Hid (∀ w', Below wr.heap.size wr w' → w'.ownsRow HB 42 4 (.slice kA j kc) j (rs.flatMap TX.cells)) := fun w' hb => by
          have := owns_below HR.out.tl.row hb (own_lt HR.out.tl.row)
          rw [HLN.out] at this
          exact this
        have HNX : Hid (∀ (w5 w6 : World) (r : TX) (v6 : Value) (o : Obj), Below wr.heap.size wr w5 → r.plain = trA v.ns yn → Tr w5 w5.heap.size r → InS (wr.heap.size ≤ ·) r → Fine r → w6.ownsRow HB 42 4 v6 (j + 1) (rs.flatMap TX.cells ++ r.cells) → Grows (w5.alloc o) w6 (.slice kA j kc) v6 → UR w (w6.setCell ⟨g, 3, none⟩ v6) v p g HB A5 c5 (j + 1) v6 (rs ++ [r])) := fun w5 w6 r v6 o h1 h2 h3 h4 h5 h6 h7 => HR.out.step hy h1 h2 h3 h4 h5 o h6 h7
        have HG6 : Hid (∀ (w5 w6 : World) (v6 : Value) (o : Obj), Below wr.heap.size wr w5 → Grows (w5.alloc o) w6 (.slice kA j kc) v6 → w6.cell? ⟨g, 3, none⟩ = some (.slice kA j kc) ∧ w6.frozen? ⟨g, 3, none⟩ = false ∧ w6.cell? ⟨g, 0, none⟩ = some (.int .i64 p.kind) ∧ ∀ u, (w6.setCell ⟨g, 3, none⟩ u).cell? ⟨g, 0, none⟩ = some (.int .i64 p.kind)) := fun w5 w6 v6 o hb hg => by
          have h1 := hg.blk ((HR.out.b1.below hb HR.out.b1.lt).alloc o) (fun e => by have := own_from HR.out.tl.row _ e; have := HR.out.gh; omega)
          have h2 := fun u => h1.set_ 3 u
          exact ⟨by rw [h1.cell]; rfl, h1.frozen 3, by rw [h1.cell]; rfl, fun u => by rw [(h2 u).cell]; rfl⟩
        have B0 : Hid (Below wr.heap.size wr wr.drew) := below_drewN (Below.refl _ wr) 1
        have HZ5 : Hid (∀ w5 o, Below wr.heap.size wr w5 → HB ≤ (w5.alloc o).heap.size) := fun w5 o hb => by have := hb.size; have := HR.out.hb; simp; omega
        have HM1 : Hid (j + 1 ≤ maxLen) := by unfold Hid maxLen; omega
        have HM2 : Hid ((j + 1) * 72 ≤ 140737488355328) := by unfold Hid; omega
        have c00 := (HC3.out _ B0.out).1
        clear hy hu1 hkA hyr
        go_wp2_with fail
        rw [late_load _ 35]
        go_region_held3 (fun w' => w'.cell? ⟨g, 0, none⟩ = some (.int .i64 p.kind))
          (first | (with_reducible exact (HC3.out _ B0.out).2.2) | (with_reducible exact (HC3.out _ B5.out).2.2) | (with_reducible exact (HC3.out _ (bal B5.out _)).2.2) | (with_reducible exact HG7.out.2.2.1) | (with_reducible exact HG7.out.2.2.2 _))
          (first
            | (refine step_append_row _ rfl (.tmp 36) (.tmp 40) 23 23 rfl HB 42 i0' (.agg #[.int .i64 0, .string ⟨#[]⟩, .slice none 0 0, .slice none 0 0]) 4 72 Tryd.underlying23 HI.out HZ0.out HZ1.out HZ2.out rfl (by decide) (.slice kA j kc) j (rs.flatMap TX.cells) rfl (HOW.out _ (bal B5.out _)) (.slice (some ⟨w5.heap.size, 0, none⟩) 1 1) 1 r5.cells rfl (src_new w5 Tryd.underlying23 r5.cells 4 1 1 42 rfl (tree_one r5)) HM1.out HM2.out (HZ5.out _ _ B5.out) ?_; intro v6 w6 ho6 hg6; obtain ⟨A6, c6, rfl, -, -⟩ := reads_of_owns ho6; have HO6 := Lib.hid ho6; have HGR := Lib.hid hg6; have HG7 := Lib.hid (HG6.out _ _ _ _ B5.out hg6); have c60 := HG7.out.1; have z60 := HG7.out.2.1; clear ho6 hg6)
            | (go_at_call 43; refine (HC.out _ B0.out).mono ?_; rintro e w5 ⟨r5, rfl, hp5, ht5, hi5, hf5, hb5⟩; unfold TX.val; have B5 := Lib.hid (B0.out.trans (hb5.mono B0.out.size)); have P5 := Lib.hid hp5; have T5 := Lib.hid ht5; have I5 := Lib.hid hi5; have F5 := Lib.hid hf5; have c50 := (HC3.out _ B5.out).1; have c5a := (HC3.out _ (bal B5.out (.cells #[.int .i64 r5.kind, .string r5.text, .slice r5.lA r5.leads.length r5.lc, .slice r5.kA r5.kids.length r5.kc] 42))).1; clear hp5 ht5 hi5 hf5 hb5))
        all_goals
          have HS := Lib.hid (HNX.out _ _ _ _ _ B5.out P5.out T5.out I5.out F5.out HO6.out HGR.out)
          clear c00 c50 c5a c60 z60
          go_wp2_with fail
          go_roundw
          case rel => exact ⟨j + 1, _, _, _, by omega, by go_num, HS⟩
          case measure => simp [intOf]; omega
      · obtain rfl : j = kn := by omega
        have hur : UR w wr v p g HB A5 c5 p.kids.length (.slice kA p.kids.length kc) rs := by have := HR.out; rw [HKN.out]; exact this
        have HD := Lib.hid (hur.done HP.out HF.out HPO.out)
        rw [HKN.out] at HD
        have b0 := HR.out.b1.cell 0
        have b1 := HR.out.b1.cell 1
        have b2 := HR.out.b1.cell 2
        have b3 := HR.out.b1.cell 3
        simp at b0 b1 b2 b3
        have HB00 : Hid (Blk wr w.heap.size 42 #[.int .i64 0, .string ⟨#[]⟩, .slice none 0 0, .slice none 0 0]) := HR.out.b0
        have z0 := HB00.out.frozen 0
        have z1 := HB00.out.frozen 1
        have z2 := HB00.out.frozen 2
        have z3 := HB00.out.frozen 3
        have y0 := HB00.out.cell 0
        have y1 := HB00.out.cell 1
        have y2 := HB00.out.cell 2
        have y3 := HB00.out.cell 3
        simp at y0 y1 y2 y3
        have HXE := Lib.hid (put4_blk HB00.out (.int .i64 p.kind) (.string p.text) (.slice A5 p.leads.length c5) (.slice kA j kc))
        have x0 := HXE.out.cell 0
        have x1 := HXE.out.cell 1
        have x2 := HXE.out.cell 2
        have x3 := HXE.out.cell 3
        simp at x0 x1 x2 x3
        clear hur
        go_wp2_with fail
        refine bodyPost_ret (v := .agg #[.int .i64 p.kind, .string p.text, .slice A5 p.leads.length c5, .slice kA j kc]) (by simp [results, Tryd.results43, go_sem, x0, x1, x2, x3]) rfl ?_
        exact HD.out
end Go.Proofs.YtdabmjcpiblofaaDoor
