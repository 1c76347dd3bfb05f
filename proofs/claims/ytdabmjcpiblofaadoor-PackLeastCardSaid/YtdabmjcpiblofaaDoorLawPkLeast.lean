/-
  PackLeast: for every input the law returns true, and its arguments are as they were. No condition beside the given statement's own.
-/
import Derived.Test.YtdabmjcpiblofaaDoorPkLaws
import Derived.Test.YtdabmjcpiblofaaDoorPkPb
namespace Go.Proofs.YtdabmjcpiblofaaDoor.packLeast
open Go.ChangeShapes Go.WideShapes Go.ChangeAt Go.RowKit
open Go.ChangeMaps (open_string shut_string)
set_option linter.unusedVariables false

theorem pack_nodes (A : Option Addr) (n c : Nat) (r : Value) : ∀ w : World, (Instr.field 29 (.agg #[.slice A n c, r]) 0).run Tryd.prog w = .ok (.slice A n c) w := fun _ => by kernel_rfl
theorem ded_len (l : List T) : (ded l).length ≤ l.length := by
  refine snoc_ind (P := fun l => (ded l).length ≤ l.length) (by simp [ded]) (fun l x h => ?_) l
  rw [ded_snoc, List.length_append]
  split
  · simp; omega
  · rw [List.length_append]; simp; omega
theorem LR.few {w1 wr : World} {L : List T} {acc : List TX} {n : Nat} {lv : Value} (h : LR w1 wr L acc n lv) : n ≤ L.length := by
  have h1 := congrArg List.length h.pl
  rw [List.length_map, h.len] at h1
  have := ded_len L
  omega
theorem subsL_len (l : List T) : (T.subsL l).length = T.sizes l := by
  induction l with
  | nil => rw [T.subsL, T.sizes]; rfl
  | cons t l ih => rw [T.subsL, T.sizes, List.length_append, ih, subs_len]
/-- the blocks from lo to hi are as they were, and not the row's -/
structure KZ (lo hi : Nat) (w2 wr : World) (v : Value) : Prop where
  keep : ∀ i, lo ≤ i → i < hi → wr.heap[i]? = w2.heap[i]?
  own : ∀ g, v.ownBlock = some g → g < lo ∨ hi ≤ g
  size : hi ≤ wr.heap.size
theorem KZ.below {lo hi : Nat} {w2 wr w' : World} {v : Value} (h : KZ lo hi w2 wr v) (hb : Below wr.heap.size wr w') : KZ lo hi w2 w' v :=
  ⟨fun i h1 h2 => (hb.block i (by have := h.size; omega)).trans (h.keep i h1 h2), h.own, by have := h.size; have := hb.size; omega⟩
theorem KZ.grow {lo hi : Nat} {w2 wr w9 : World} {v v9 : Value} {o : Obj} (h : KZ lo hi w2 wr v) (hg : Grows (wr.alloc o) w9 v v9) : KZ lo hi w2 w9 v9 := by
  have h1 := h.below (bal (Below.refl _ wr) o)
  have hs := hg.size
  have hz := h.size
  have hsa : (wr.alloc o).heap.size = wr.heap.size + 1 := by simp
  refine ⟨fun i a b => (hg.grown.block i (by omega) (fun e => by have := h.own i e.symm; omega)).trans (h1.keep i a b), fun g hg' => ?_, by omega⟩
  rcases hg.own g hg' with h2 | h2
  · exact h.own g h2
  · omega
mutual
theorem paths_le : ∀ (t : T) (P p : List Int), p ∈ T.paths t P → p.length ≤ P.length + t.size
  | .node k s l ks, P, p, h => by
    rw [T.paths] at h
    rw [T.size]
    rcases List.mem_cons.1 h with rfl | h
    · omega
    · have := pathss_le ks P p 0 h; omega
theorem pathss_le : ∀ (ks : List T) (P p : List Int) (i : Nat), p ∈ T.pathss ks P i → p.length ≤ P.length + 1 + T.sizes ks
  | [], P, p, i, h => by rw [T.pathss] at h; cases h
  | k :: ks, P, p, i, h => by
    rw [T.pathss] at h
    rw [T.sizes]
    rcases List.mem_append.1 h with h | h
    · have := paths_le k (P ++ [(i : Int)]) p h
      rw [List.length_append, List.length_singleton] at this
      omega
    · have := pathss_le ks P p (i + 1) h; omega
end
structure TB (W wx : World) (g : Nat) (s : TX) : Prop where
  bel : Below W.heap.size W wx
  blk : Blk wx g 42 #[.int .i64 s.kind, .string s.text, .slice s.lA s.leads.length s.lc, .slice s.kA s.kids.length s.kc]
theorem TB.lit {W w6 : World} {s : TX} (hb : Below W.heap.size W w6) : TB W (w6.alloc (.cells #[.int .i64 s.kind, .string s.text, .slice s.lA s.leads.length s.lc, .slice s.kA s.kids.length s.kc] 42)) w6.heap.size s := ⟨bal hb _, Blk.new _ _ _⟩
theorem TB.set_ {W w6 : World} {s : TX} {g : Nat} (hb : Below W.heap.size W w6) (hq : Blk w6 g 42 #[.int .i64 0, .string ⟨#[]⟩, .slice none 0 0, .slice none 0 0]) (hg : W.heap.size ≤ g) : TB W ((((w6.setCell ⟨g, 0, none⟩ (.int .i64 s.kind)).setCell ⟨g, 1, none⟩ (.string s.text)).setCell ⟨g, 2, none⟩ (.slice s.lA s.leads.length s.lc)).setCell ⟨g, 3, none⟩ (.slice s.kA s.kids.length s.kc)) g s :=
  ⟨bst5 hb hg, put4_blk hq _ _ _ _⟩

set_option maxRecDepth 100000 in
set_option maxHeartbeats 8000000 in
theorem walk (A : Option Addr) (c n : Nat) (l : List ND) (hnl : l.length = n) (hnc : n ≤ c) (hcm : n ≤ 140737488351232) (hli : ∀ x ∈ l, i64 x.1 ∧ i64 x.2.1 ∧ i64 x.2.2) (w : World) (hr : Reads w w.heap.size 3 A n (l.flatMap ndCells)) (ht : Tab w) :
    Calls Tryd.prog 5 #[.slice A n c] w fun e w' => e = .returned (.bool true) ∧ Below w.heap.size w w' := by
  have H1 := Lib.hid (lawTrees_any A c n l hnl hnc hcm hli w hr)
  have HSZ := Lib.hid (treesL_inv (l.take 60) (by rw [List.length_take]; omega))
  have HT := Lib.hid ht
  obtain ⟨i0', hi', hz0, hz1, hz2⟩ := info_parts tree_info
  have HI := Lib.hid hi'
  have HZ0 := Lib.hid hz0
  have HZ1 := Lib.hid hz1
  have HZ2 := Lib.hid hz2
  clear hr ht hli hnl hi' hz0 hz1 hz2
  go_enter Tryd.func5, Tryd.ntmps5
  go_wp2_with fail
  refine (H1.out).mono ?_
  rintro e w1 ⟨A1, c1, rs, rfl, hpl, htl, hb1⟩
  have hsz : T.sizes (rs.map TX.plain) ≤ 60 := by rw [hpl]; exact HSZ.out.1
  have HS := Lib.hid hsz
  have HLT := Lib.hid htl.lt
  have HB1 := Lib.hid hb1
  have hrl : rs.length ≤ 60 := by have := len_sizes (rs.map TX.plain); rw [List.length_map] at this; omega
  obtain ⟨N, hN⟩ : ∃ N, rs.length = N := ⟨_, rfl⟩
  have HN := Lib.hid hN
  rw [hN] at hrl ⊢
  have HL0 := Lib.hid (LR.start w1)
  clear hpl htl hb1 hsz H1 hN
  go_wp2_with fail
  go_loopw [4, 5] (fun a i wr => ∃ (j na : Nat) (lA : Option Addr) (lc : Nat) (acc : List TX), j ≤ N ∧ i = .int .i64 (j : Int) ∧ a = .slice lA na lc ∧ Hid (LR w1 wr (T.subsL ((rs.take j).map TX.plain)) acc na (.slice lA na lc))) (fun _ i _ => N - (intOf i).toNat)
  case atStart => exact ⟨0, 0, none, 0, [], by omega, rfl, rfl, by unfold Hid; simpa [T.subsL] using HL0.out⟩
  case round =>
    obtain ⟨j, na, lA, lc, acc, hj, rfl, rfl, HR⟩ := hrel
    by_cases hlt : j < N
    · obtain ⟨t, htj⟩ : ∃ t, rs[j]? = some t := ⟨_, List.getElem?_eq_getElem (by rw [HN.out]; exact hlt)⟩
      have hst := sizes_take (l := rs) htj
      have hst2 := HS.out
      obtain ⟨ab, ao, rfl, hab, hcells⟩ := HLT.out.at_ htj
      have HCE := Lib.hid hcells
      obtain ⟨p0, p1, p2, p3⟩ := hcells wr HR.out.bel
      have HTT := Lib.hid (HLT.out.2 t (hmem htj))
      have hpa := rpaths_any t wr (HTT.out.1.up (Nat.le_refl _) HR.out.bel) (by omega)
      unfold TX.val at hpa
      have HPA := Lib.hid hpa
      have HTJ := Lib.hid htj
      have HSS : Hid (T.subsL ((rs.take (j + 1)).map TX.plain) = T.subsL ((rs.take j).map TX.plain) ++ t.plain.subs) := by
        unfold Hid
        rw [take_snoc' htj, List.map_append, List.map_cons, List.map_nil, subsL_snoc]
      have HLL : Hid (T.sizes ((rs.take j).map TX.plain) ≤ 60 ∧ t.plain.size ≤ 60) := ⟨by omega, by omega⟩
      clear htj hcells hpa
      go_wp2_with fail
      obtain ⟨lo, hlo⟩ : ∃ lo, wr.heap.size = lo := ⟨_, rfl⟩
      refine (HPA.out).mono ?_
      rintro e w2 ⟨Ap, cp, xs, rfl, hPR, hxl, hb2, hAp, hxs⟩
      have HAP : Hid (∀ ad, Ap = some ad → lo ≤ ad.block) := by rw [← hlo]; exact hAp
      have HXS : Hid (∀ x ∈ xs, ∀ ad, x.A = some ad → 0 < x.l.length → lo ≤ ad.block) := by rw [← hlo]; exact hxs
      have HKZ0 : Hid (KZ lo w2.heap.size w2 w2 (.slice lA na lc)) := ⟨fun i _ _ => rfl, fun g hg => .inl (by rw [← hlo]; exact own_lt HR.out.own g hg), Nat.le_refl _⟩
      have HPR := Lib.hid hPR
      have HXL := Lib.hid hxl
      have hxn : xs.length = t.plain.size := by
        have := congrArg List.length hxl
        rw [List.length_map, paths_len] at this
        exact this
      have hx60 : xs.length ≤ 60 := by rw [hxn]; exact HLL.out.2
      have HXN := Lib.hid hxn
      have HR2 : Hid (LR w1 w2 (T.subsL ((rs.take j).map TX.plain) ++ t.plain.subs.take 0) acc na (.slice lA na lc)) := by
        have := HR.out.below hb2
        unfold Hid
        simpa using this
      obtain ⟨M, hM⟩ : ∃ M, xs.length = M := ⟨_, rfl⟩
      have HM := Lib.hid hM
      rw [hM] at hx60 ⊢
      clear hPR hxl hb2 hxn hM p0 p1 p2 p3 hAp hxs hlo
      go_wp2_with fail
      go_loopw [4, 7] (fun a k wr => ∃ (q na : Nat) (lA : Option Addr) (lc : Nat) (acc : List TX), q ≤ M ∧ k = .int .i64 (q : Int) ∧ a = .slice lA na lc ∧ Hid (LR w1 wr (T.subsL ((rs.take j).map TX.plain) ++ t.plain.subs.take q) acc na (.slice lA na lc)) ∧ Hid (KZ lo w2.heap.size w2 wr (.slice lA na lc))) (fun _ k _ => M - (intOf k).toNat)
      case atStart => exact ⟨0, na, lA, lc, acc, by omega, rfl, rfl, HR2, HKZ0⟩
      case round =>
        clear HR2 HR
        obtain ⟨q, na, lA, lc, acc, hq, rfl, rfl, HR, HB2⟩ := hrel
        obtain ⟨wo, rfl⟩ : ∃ wo : World, wo = wr := ⟨_, rfl⟩
        by_cases hlq : q < M
        · obtain ⟨x, hx⟩ : ∃ x, xs[q]? = some x := ⟨_, List.getElem?_eq_getElem (by rw [HM.out]; exact hlq)⟩
          have hpq : (t.plain.paths [])[q]? = some x.l := by rw [← HXL.out, List.getElem?_map, hx]; rfl
          obtain ⟨s, hfs, hsub⟩ := found_at hpq
          have hrp := HPR.out.1
          have hapl := HAP.out
          rw [HM.out] at hrp
          obtain ⟨pb, po, u, rfl, hpb, hu, gp⟩ := hrp.at1 hlq
          obtain rfl : u = .slice x.A x.l.length x.c := by rw [List.getElem?_map, hx] at hu; simpa [PW.head] using hu.symm
          have hplo : lo ≤ pb := hapl _ rfl
          have HXR : Hid (Reads wo w2.heap.size 1 x.A x.l.length (x.l.map (Value.int .i64))) := (HPR.out.2 x (hmem hx)).keepS (S := fun b => lo ≤ b) (fun ad e hn => HXS.out x (hmem hx) ad e hn) (fun p h1 h2 => World.cell?_of_block (HB2.out.keep p.block h1 h2))
          have hxll : x.l.length ≤ 140737488351232 := by
            have h1 := paths_le t.plain [] x.l (List.mem_of_getElem? hpq)
            have := HLL.out.2
            simp at h1
            omega
          have HSTR : Hid (Tr w1 w1.heap.size s) := find_tr' x.l t s HTT.out.1 hfs
          have HAT : Hid (∀ w', Below wo.heap.size wo w' → Calls Tryd.prog 24 #[.agg #[.int .i64 t.kind, .string t.text, .slice t.lA t.leads.length t.lc, .slice t.kA t.kids.length t.kc], .slice x.A x.l.length x.c] w' fun e w2 => e = .returned (.tuple #[.agg #[.int .i64 s.kind, .string s.text, .slice s.lA s.leads.length s.lc, .slice s.kA s.kids.length s.kc], .bool true]) ∧ Below w'.heap.size w' w2) := fun w' hb => by
            refine (rat_any t x.A x.c x.l w' (HTT.out.1.up (Nat.le_refl _) (HR.out.bel.trans (hb.mono HR.out.bel.size))) (((HXR.out.more HB2.out.size).below hb).more hb.size) hxll).mono ?_
            intro e w2 hf
            rw [hfs] at hf
            exact ⟨hf.2, hf.1⟩
          have HSUB : Hid (t.plain.subs.take (q + 1) = t.plain.subs.take q ++ [s.plain]) := take_snoc' hsub
          have HGP : Hid (wo.cell? ⟨pb, po + q, none⟩ = some (.slice x.A x.l.length x.c)) := (World.cell?_of_block (a := ⟨pb, po + q, none⟩) (HB2.out.keep pb hplo hpb)).trans gp
          have hpbo : pb < wo.heap.size := by have := HB2.out.size; omega
          have HCB : Hid (∀ w', Below wo.heap.size wo w' → w'.cell? ⟨ab, ao + j * 4, none⟩ = some (.int .i64 t.kind) ∧ w'.cell? ⟨ab, ao + j * 4 + 1, none⟩ = some (.string t.text) ∧ w'.cell? ⟨ab, ao + j * 4 + 2, none⟩ = some (.slice t.lA t.leads.length t.lc) ∧ w'.cell? ⟨ab, ao + j * 4 + 3, none⟩ = some (.slice t.kA t.kids.length t.kc) ∧ w'.cell? ⟨pb, po + q, none⟩ = some (.slice x.A x.l.length x.c)) := fun w' hb => by
            obtain ⟨a1, a2, a3, a4⟩ := HCE.out w' (HR.out.bel.trans (hb.mono HR.out.bel.size))
            exact ⟨a1, a2, a3, a4, (hb.cell hpbo).trans HGP.out⟩
          have k0 : (0 : Int) ≤ (j : Int) := by omega
          have k1 : (j : Int) < (N : Int) := by omega
          have k2 : (0 : Int) ≤ (q : Int) := by omega
          have k3 : (q : Int) < (M : Int) := by omega
          have B0 : Hid (Below wo.heap.size wo wo.drew) := below_drewN (Below.refl _ wo) 1
          have B0A : Hid (∀ o, Below wo.heap.size wo (wo.alloc o).drew) := fun o => below_drewN (bal (Below.refl _ wo) o) 1
          clear hx hpq hfs hsub hu gp
          go_upto_region 10 with fail
          go_cut [8, 9] (fun sv bv wx => ∃ g, sv = .pointer (some ⟨g, 0, none⟩) ∧ bv = .bool true ∧ Hid (TB wo wx g s))
          case first =>
            go_region_held3 (fun w' => w'.cell? ⟨ab, ao + j * 4, none⟩ = some (.int .i64 t.kind) ∧ w'.cell? ⟨ab, ao + j * 4 + 1, none⟩ = some (.string t.text) ∧ w'.cell? ⟨ab, ao + j * 4 + 2, none⟩ = some (.slice t.lA t.leads.length t.lc) ∧ w'.cell? ⟨ab, ao + j * 4 + 3, none⟩ = some (.slice t.kA t.kids.length t.kc) ∧ w'.cell? ⟨pb, po + q, none⟩ = some (.slice x.A x.l.length x.c))
              (first | (with_reducible exact HCB.out _ B0.out) | (with_reducible exact HCB.out _ (B0A.out _)) | (with_reducible exact HCB.out _ B6.out) | (with_reducible exact HCB.out _ (bal B6.out _)) | (with_reducible exact HCB.out _ (bst5 B6.out (Nat.le_refl _))))
              (first
                | (go_at_call 24; refine (HAT.out _ (B0A.out _)).mono ?_; rintro e w6 ⟨rfl, hb6⟩; have B6 := Lib.hid ((B0A.out _).trans (hb6.mono (B0A.out _).size)); have qq := Blk.below (Blk.drew (Blk.new _ _ _)) hb6 (by simp); have Q6 := Lib.hid qq; have q0 := qq.cell 0; have q1 := qq.cell 1; have q2 := qq.cell 2; have q3 := qq.cell 3; simp at q0 q1 q2 q3; have z0 := qq.frozen 0; have z1 := qq.frozen 1; have z2 := qq.frozen 2; have z3 := qq.frozen 3; clear qq hb6)
                | (go_at_call 24; refine (HAT.out _ B0.out).mono ?_; rintro e w6 ⟨rfl, hb6⟩; have B6 := Lib.hid (B0.out.trans (hb6.mono B0.out.size)); clear hb6))
            all_goals
              go_wp2_with fail
              go_meet
              first
                | exact ⟨_, rfl, rfl, TB.lit B6.out⟩
                | exact ⟨_, rfl, rfl, TB.set_ B6.out Q6.out (Nat.le_refl _)⟩
          case rest =>
            obtain ⟨wx, rfl⟩ : ∃ wo : World, wo = wc := ⟨_, rfl⟩
            obtain ⟨g, rfl, rfl, HX⟩ := hcut
            have HRX := Lib.hid (HR.out.below HX.out.bel)
            have HB2X : Hid (KZ lo w2.heap.size w2 wx (.slice lA na lc)) := HB2.out.below HX.out.bel
            have hfew := LR.few HR.out
            have hna : na ≤ 200 := by
              have h1 : (T.subsL ((rs.take j).map TX.plain) ++ t.plain.subs.take q).length ≤ 120 := by
                rw [List.length_append, subsL_len, List.length_take, subs_len]
                have := HLL.out
                omega
              omega
            clear B0 B0A HCB HAT hfew
            go_wp2_with fail
            go_loopw [10, 11] (fun b i wr => ∃ (i3 : Nat) (bb : Bool), i3 ≤ na ∧ i = .int .i64 (i3 : Int) ∧ b = .bool bb ∧ Hid (bb = true ↔ s.plain ∈ (acc.map TX.plain).take i3) ∧ Hid (Below wx.heap.size wx wr)) (fun _ i _ => na - (intOf i).toNat)
            case atStart => exact ⟨0, false, by omega, rfl, rfl, by unfold Hid; simp, Below.refl _ _⟩
            case round =>
              obtain ⟨i3, bb, hi3, rfl, rfl, HK, HBX⟩ := hrel
              by_cases hgo : i3 < na ∧ bb = false
              · obtain ⟨hgo1, rfl⟩ := hgo
                obtain ⟨y, hy⟩ : ∃ y, acc[i3]? = some y := ⟨_, List.getElem?_eq_getElem (by rw [HRX.out.len]; exact hgo1)⟩
                obtain ⟨rb, ro, rfl, hrb, r0, r1, r2, r3⟩ := row_at (Reads.of_own HRX.out.own) HRX.out.len hy
                have HYC : Hid (wx.cell? ⟨rb, ro + i3 * 4, none⟩ = some (.int .i64 y.kind) ∧ wx.cell? ⟨rb, ro + i3 * 4 + 1, none⟩ = some (.string y.text) ∧ wx.cell? ⟨rb, ro + i3 * 4 + 2, none⟩ = some (.slice y.lA y.leads.length y.lc) ∧ wx.cell? ⟨rb, ro + i3 * 4 + 3, none⟩ = some (.slice y.kA y.kids.length y.kc)) := ⟨r0, r1, r2, r3⟩
                have HCB3 : Hid (∀ w', Below wx.heap.size wx w' → (w'.cell? ⟨rb, ro + i3 * 4, none⟩ = some (.int .i64 y.kind) ∧ w'.cell? ⟨rb, ro + i3 * 4 + 1, none⟩ = some (.string y.text) ∧ w'.cell? ⟨rb, ro + i3 * 4 + 2, none⟩ = some (.slice y.lA y.leads.length y.lc) ∧ w'.cell? ⟨rb, ro + i3 * 4 + 3, none⟩ = some (.slice y.kA y.kids.length y.kc)) ∧ w'.cell? ⟨g, 0, none⟩ = some (.int .i64 s.kind) ∧ w'.cell? ⟨g, 1, none⟩ = some (.string s.text) ∧ w'.cell? ⟨g, 2, none⟩ = some (.slice s.lA s.leads.length s.lc) ∧ w'.cell? ⟨g, 3, none⟩ = some (.slice s.kA s.kids.length s.kc)) := fun w' hb => by
                  have h1 := HX.out.blk.below hb HX.out.blk.lt
                  obtain ⟨a1, a2, a3, a4⟩ := HYC.out
                  exact ⟨⟨(hb.cell hrb).trans a1, (hb.cell hrb).trans a2, (hb.cell hrb).trans a3, (hb.cell hrb).trans a4⟩, by rw [h1.cell]; rfl, by rw [h1.cell]; rfl, by rw [h1.cell]; rfl, by rw [h1.cell]; rfl⟩
                have HSM : Hid (∀ w', Below wx.heap.size wx w' → Calls Tryd.prog 25 #[.agg #[.int .i64 y.kind, .string y.text, .slice y.lA y.leads.length y.lc, .slice y.kA y.kids.length y.kc], .agg #[.int .i64 s.kind, .string s.text, .slice s.lA s.leads.length s.lc, .slice s.kA s.kids.length s.kc]] w' (RetB w' (y.plain = s.plain))) := fun w' hb => by
                  have hbw := HRX.out.bel.trans (hb.mono HRX.out.bel.size)
                  exact rsame_any y s w' ((HRX.out.each y (hmem hy)).up (Nat.le_refl _) hbw) (HSTR.out.up (Nat.le_refl _) hbw)
                have HTK : Hid ((acc.map TX.plain).take (i3 + 1) = (acc.map TX.plain).take i3 ++ [y.plain]) := take_snoc' (map_at hy)
                have dl1 : decide ((i3 : Int) < (na : Int)) = true := decide_eq_true (by omega)
                have m0 : (0 : Int) ≤ (i3 : Int) := by omega
                have m1 : (i3 : Int) < (na : Int) := by omega
                have B0 : Hid (Below wx.heap.size wx wr.drew) := below_drewN HBX.out 1
                clear hy r0 r1 r2 r3
                go_wp2_with fail
                go_region_held3 (fun w' => (w'.cell? ⟨rb, ro + i3 * 4, none⟩ = some (.int .i64 y.kind) ∧ w'.cell? ⟨rb, ro + i3 * 4 + 1, none⟩ = some (.string y.text) ∧ w'.cell? ⟨rb, ro + i3 * 4 + 2, none⟩ = some (.slice y.lA y.leads.length y.lc) ∧ w'.cell? ⟨rb, ro + i3 * 4 + 3, none⟩ = some (.slice y.kA y.kids.length y.kc)) ∧ w'.cell? ⟨g, 0, none⟩ = some (.int .i64 s.kind) ∧ w'.cell? ⟨g, 1, none⟩ = some (.string s.text) ∧ w'.cell? ⟨g, 2, none⟩ = some (.slice s.lA s.leads.length s.lc) ∧ w'.cell? ⟨g, 3, none⟩ = some (.slice s.kA s.kids.length s.kc))
                  (first | (with_reducible exact HCB3.out _ B0.out) | (with_reducible exact HCB3.out _ B7.out))
                  (first | (go_at_call 25; refine (HSM.out _ B0.out).mono ?_; rintro e w7 ⟨b7, hb7', rfl, hb7⟩; have B7 := Lib.hid (B0.out.trans (hb7.mono B0.out.size)); have V7 := Lib.hid hb7'; clear hb7 hb7'))
                all_goals
                  have HK7 : Hid (b7 = true ↔ s.plain ∈ (acc.map TX.plain).take (i3 + 1)) := by
                    unfold Hid
                    rw [HTK.out, V7.out, List.mem_append, List.mem_singleton]
                    have hno : ¬ s.plain ∈ (acc.map TX.plain).take i3 := fun h => by have := HK.out.2 h; cases this
                    exact ⟨fun h => .inr h.symm, fun h => h.elim (fun h => absurd h hno) (fun h => h.symm)⟩
                  go_wp2_with fail
                  go_roundw
                  case rel => exact ⟨i3 + 1, b7, by omega, by go_num, rfl, HK7, B7⟩
                  case measure => simp [intOf] <;> omega
              · have HRY := Lib.hid (HRX.out.below HBX.out)
                have HB2Y : Hid (KZ lo w2.heap.size w2 wr (.slice lA na lc)) := HB2X.out.below HBX.out
                have HXY := Lib.hid (HX.out.blk.below HBX.out HX.out.blk.lt)
                rcases bb with _ | _
                · obtain rfl : i3 = na := by
                    rcases Nat.lt_or_ge i3 na with h1 | h1
                    · exact absurd ⟨h1, rfl⟩ hgo
                    · omega
                  have dl1 : decide ((i3 : Int) < (i3 : Int)) = false := decide_eq_false (by omega)
                  have HNOT : Hid (s.plain ∉ acc.map TX.plain) := fun h => by
                    have h2 := HK.out.2 (by rw [List.take_of_length_le (by rw [List.length_map, HRX.out.len]; exact Nat.le_refl _)]; exact h)
                    cases h2
                  have f0 := HXY.out.cell 0
                  have f1 := HXY.out.cell 1
                  have f2 := HXY.out.cell 2
                  have f3 := HXY.out.cell 3
                  simp at f0 f1 f2 f3
                  have hz1 := HRY.out.bel.size
                  go_wp2_with (at_builtin; refine wpList_append_row _ rfl (.tmp 61) (.tmp 63) 23 23 rfl w1.heap.size 42 i0' (.agg #[.int .i64 0, .string ⟨#[]⟩, .slice none 0 0, .slice none 0 0]) 4 72 Tryd.underlying23 HI.out HZ0.out HZ1.out HZ2.out rfl (by decide) (.slice lA i3 lc) i3 (acc.flatMap TX.cells) rfl (HRY.out.own.alloc _) (.slice (some ⟨wr.heap.size, 0, none⟩) 1 1) 1 s.cells rfl (src_new wr Tryd.underlying23 s.cells 4 1 1 42 rfl (tree_one s)) ?c1 ?c2 ?c3 ?_)
                  case c1 => unfold maxLen; omega
                  case c2 => omega
                  case c3 => first | omega | (simp; omega)
                  intro v9 w9 ho9 hg9
                  obtain ⟨A9, c9, rfl, -, -⟩ := reads_of_owns ho9
                  have hR9 := HRY.out.push HNOT.out HSTR.out ho9 hg9
                  rw [List.append_assoc, ← HSUB.out] at hR9
                  have HR9 := Lib.hid hR9
                  have HB29 : Hid (KZ lo w2.heap.size w2 w9 (.slice A9 (i3 + 1) c9)) := HB2Y.out.grow hg9
                  clear ho9 hg9 hR9 f0 f1 f2 f3
                  go_wp2_with fail
                  go_roundw
                  case rel => exact ⟨q + 1, i3 + 1, A9, c9, _, by omega, by go_num, rfl, HR9, HB29⟩
                  case measure => simp [intOf] <;> omega
                · have HIN : Hid (s.plain ∈ acc.map TX.plain) := List.mem_of_mem_take (HK.out.1 rfl)
                  have hR9 := HRY.out.same HIN.out
                  rw [List.append_assoc, ← HSUB.out] at hR9
                  have HR9 := Lib.hid hR9
                  clear hR9
                  by_cases hlt3 : i3 < na
                  · have dl1 : decide ((i3 : Int) < (na : Int)) = true := decide_eq_true (by omega)
                    go_wp2_with fail
                    go_roundw
                    case rel => exact ⟨q + 1, na, lA, lc, acc, by omega, by go_num, rfl, HR9, HB2Y⟩
                    case measure => simp [intOf] <;> omega
                  · have dl1 : decide ((i3 : Int) < (na : Int)) = false := decide_eq_false (by omega)
                    go_wp2_with fail
                    go_roundw
                    case rel => exact ⟨q + 1, na, lA, lc, acc, by omega, by go_num, rfl, HR9, HB2Y⟩
                    case measure => simp [intOf] <;> omega
        · obtain rfl : q = M := by omega
          have HRN : Hid (LR w1 wo (T.subsL ((rs.take (j + 1)).map TX.plain)) acc na (.slice lA na lc)) := by
            have h1 := HR.out
            have e : t.plain.subs.take q = t.plain.subs := List.take_of_length_le (by rw [subs_len, ← HXN.out, HM.out]; exact Nat.le_refl _)
            rw [e] at h1
            unfold Hid
            rw [HSS.out]
            exact h1
          go_wp2_with fail
          go_roundw
          case rel => exact ⟨j + 1, na, lA, lc, acc, by omega, by go_num, rfl, HRN⟩
          case measure => simp [intOf] <;> omega
    · obtain rfl : j = N := by omega
      have HRF : Hid (LR w1 wr (T.subsL (rs.map TX.plain)) acc na (.slice lA na lc)) := by
        have h1 := HR.out
        rw [List.take_of_length_le (by rw [HN.out]; exact Nat.le_refl _)] at h1
        exact h1
      have HBR : Hid (Below w.heap.size w wr) := HB1.out.trans (HR.out.bel.mono HB1.out.size)
      have hmk := make_any A1 c1 rs wr (HLT.out.up HR.out.bel) (by have := HS.out; omega) (HT.out.below HBR.out)
      rw [HN.out] at hmk
      have HMK := Lib.hid hmk
      have hcount : (T.puts (rs.map TX.plain) []).1.length = na := by
        rw [puts_least, ← HRF.out.pl, List.length_map, HRF.out.len]
      have HC := Lib.hid hcount
      clear hmk hcount
      go_wp2_with fail
      refine (HMK.out).mono ?_
      rintro e w2 ⟨u, rfl, hun, -, -, hb2⟩
      have hul : u.ps.length = na := by rw [← u.ns_len, hun]; exact HC.out
      have HB2 : Hid (Below w.heap.size w w2) := HBR.out.trans (hb2.mono HBR.out.size)
      have HA := Lib.hid (awake_any w2 (HT.out.below HB2.out))
      have d1 : ((na : Int) == (na : Int)) = true := by simp
      unfold PkV.val
      rw [hul]
      have hfd := pack_nodes u.nA na u.nc (.slice u.rA u.rs.length u.rc)
      clear hun hb2 hul
      go_wp2_with fail
      refine (HA.out).mono ?_
      rintro e w3 ⟨rfl, hb3⟩
      have HB3 : Hid (Below w.heap.size w w3) := HB2.out.trans (hb3.mono HB2.out.size)
      clear hb3 HA
      go_wp2_with fail
      go_ret
      exact ⟨rfl, HB3.out⟩
theorem own : ownKnob Tryd.prog.godebug = none := by kernel_rfl
theorem laidOut : laidOutB Tryd.prog = true := by kernel_rfl
theorem specN (H : Type) (ds : List (DataW H)) (h : ds.length = 1) : Rows.packLeastSpec.fn H (ds ++ []) = { results := [.lit (.bool true)], args := ds } := by
  match ds, h with
  | [_], _ => rfl
theorem reads (os : Os) {H : Type} (enc : TypeId × Value → H) : ∃ places, DataW.whole enc Tryd.prog ((laidWorld os).forCall (fun _ _ => 0) ⟨#[], #[.slice none 0 0], []⟩).memory Tryd.f5.params.toList Rows.packLeastSpec.vars false (#[.slice none 0 0] : Array Value).toList 8 = some ([.nil], [], places) :=
  ⟨[], by kernel_rfl⟩

set_option maxRecDepth 100000 in
theorem lifted (os : Os) (started : os.Started) (H : Type) (enc : TypeId × Value → H) (F : Stop.Interp) :
    ReturnsInHanded {} Tryd.checked os 5 .any ((OpenSpec.ofChange Rows.packLeastSpec).preRow enc Tryd.prog Tryd.f5 Rows.packLeastRow.domain false Rows.packLeastRow.laid) (((OpenSpec.ofChange Rows.packLeastSpec).at F).post enc Tryd.prog Tryd.f5 false true false false) := by
  obtain ⟨places, hx⟩ := reads os enc
  refine law_of_walk_laid (C := Tryd.checked) own started (by kernel_rfl) Tryd.func5 rfl rfl Tryd.underlying4 laidOut (by kernel_rfl) (fun ds h => specN H ds (h.trans (by kernel_rfl)))
    (witness_row_at (enc := enc) (C := Tryd.checked) false (laidWorld os) #[.slice none 0 0] rfl (by kernel_rfl) (by kernel_rfl) (by kernel_rfl)
      (OpenSpec.preRow_of_cond 8 hx (by kernel_rfl) (fun k hk => by cases hk) (by kernel_rfl) (laid_met os #[.slice none 0 0]))) ?_
  intro W base args ds p hval hA hsz hL
  have hval' : ∀ (j : Nat) t v, Tryd.f5.params[j]? = some t → args[j]? = some v → Value.okWide Tryd.prog W .any base t v := hval
  rw [Tryd.params5] at hval' hA hsz
  obtain ⟨v0, vs0, d0, ds0, p0, q0, hargs, rfl, rfl, h0, r0⟩ := trodAll_cons hA
  obtain ⟨rfl, rfl, rfl⟩ := trodAll_nil r0
  obtain rfl : args = #[v0] := by cases args; simp_all
  obtain ⟨a0, len0, cap0, rfl⟩ := okWide_slice Tryd.underlying22 (hval' 0 22 v0 rfl rfl)
  obtain ⟨nc0, nm0, l0, nl0, nr0, ni0⟩ := open_nodes h0 (sm_arg hsz (j := 0) (t := 22) rfl rfl)
  exact walk a0 cap0 len0 l0 nl0 nc0 nm0 ni0 W nr0 (tab_of_laid hL)

theorem said : Rows.PackLeastSaid :=
  OpenClaim.holds_of_cond 5 Tryd.f5 rfl rfl rfl rfl rfl rfl rfl ⟨rfl, rfl, rfl, rfl, rfl⟩ rfl rfl rfl rfl rfl (by kernel_rfl) Tryd.func5 (by kernel_rfl)
    (of_decide_eq_true (by kernel_rfl)) (by unfold Func.isWrapper; first | (rw [if_pos (by decide +kernel)]; kernel_rfl) | (rw [if_neg (by decide +kernel)]; exact ⟨rfl, rfl⟩))
    (fun os started H enc _ F => by rw [OpenClaim.pre_eq_preRow]; exact lifted os started H enc F)

theorem plain (f : FuncId) (fn : Func) (hf : Tryd.pinned.checked.prog.funcNamed Rows.packLeastRow.func = some f) (hfn : Tryd.pinned.checked.prog.funcs[f]? = some fn) :
    false = Tryd.pinned.checked.prog.looks [] ∧ ∀ (j : Nat) t, fn.params[j]? = some t → Tryd.pinned.checked.prog.wantsStandIn t = false := by
  obtain rfl : f = 5 := Option.some.inj ((show Tryd.prog.funcNamed Rows.packLeastRow.func = some 5 by kernel_rfl).symm.trans hf) |>.symm
  obtain rfl : fn = Tryd.f5 := (Option.some.inj (Tryd.func5.symm.trans hfn)).symm
  refine ⟨by kernel_rfl, fun j t ht => ?_⟩
  have hall : Tryd.f5.params.toList.all (fun t => Tryd.prog.wantsStandIn t == false) = true := by kernel_rfl
  have hm := List.all_eq_true.1 hall t (by rw [Array.mem_toList_iff]; exact Array.mem_of_getElem? ht)
  have hm' : Tryd.prog.wantsStandIn t = false := by simpa using hm
  exact hm'

theorem proved : Rows.PackLeastCardSaid :=
  Claim7.holds_tied_plain_at .later [] _ _ _ _ said (fun _ h => by cases h) (by kernel_rfl) (fun _ h => by cases h) packLeast_row_tie rfl ⟨rfl, rfl⟩ (by kernel_rfl) rfl plain (by kernel_rfl)
end Go.Proofs.YtdabmjcpiblofaaDoor.packLeast
