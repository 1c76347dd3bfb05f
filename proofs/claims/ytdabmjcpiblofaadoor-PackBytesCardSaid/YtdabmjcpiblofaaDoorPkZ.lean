/-
  The reference's Bytes. No condition.
-/
import Derived.Test.YtdabmjcpiblofaaDoorPkM
import Derived.Test.YtdabmjcpiblofaaDoorPkI
namespace Go.Proofs.YtdabmjcpiblofaaDoor
open Go.RowKit
set_option linter.unusedVariables false

/-- bytes that were appended into new memory -/
def RB (w : World) (p q : List Nat) (e : Ending) (w' : World) : Prop := ∃ (A : Option Addr) (c : Nat) (r : List Nat), e = .returned (.slice A r.length c) ∧ r = p ++ q ∧ Reads w' w'.heap.size 1 A r.length (r.map byt) ∧ Below w.heap.size w w'
theorem RB.of {w w' : World} {p q : List Nat} {e : Ending} (h : New w (p ++ q) e w') : RB w p q e w' := by
  obtain ⟨v, rfl, ho, hb⟩ := h
  obtain ⟨A, c, rfl, hr⟩ := new_reads ho
  exact ⟨A, c, _, rfl, rfl, hr, hb⟩
theorem rint_any (A : Option Addr) (c : Nat) (p : List Nat) (z : Int) (w : World) (hr : Reads w w.heap.size 1 A p.length (p.map byt)) (hp : p.length ≤ 800000000) (hz : inI64 z) :
    Calls Tryd.prog 54 #[.slice A p.length c, .int .i64 z] w (RB w p (encI z)) :=
  (refInt_any A p.length c p z w (by omega) hr hz.1 hz.2).mono (fun e w' h => RB.of h)
theorem rtext_any (A : Option Addr) (c : Nat) (p : List Nat) (s : ByteArray) (w : World) (hr : Reads w w.heap.size 1 A p.length (p.map byt)) (hp : p.length + s.size ≤ 900000000) :
    Calls Tryd.prog 55 #[.slice A p.length c, .string s] w (RB w p (encT s)) :=
  (refText_any A p.length c p s w hp hr).mono (fun e w' h => RB.of h)

set_option maxRecDepth 100000 in
set_option maxHeartbeats 8000000 in
theorem rbytes_any (v : PkV) (w : World) (h : v.ok w w.heap.size) (hsz : (encP v.ns v.rs).length ≤ 700000000) : Calls Tryd.prog 32 #[v.val] w (RB w [] (encP v.ns v.rs)) := by
  obtain ⟨n, hn⟩ : ∃ n, v.ps.length = n := ⟨_, rfl⟩
  obtain ⟨m, hm⟩ : ∃ m, v.rs.length = m := ⟨_, rfl⟩
  obtain ⟨nA, hnA⟩ : ∃ a, v.nA = a := ⟨_, rfl⟩
  obtain ⟨rA, hrA⟩ : ∃ a, v.rA = a := ⟨_, rfl⟩
  have hnl := h.nl
  have hrl := h.rl
  rw [hn] at hnl
  rw [hm] at hrl
  have hval : v.val = .agg #[.slice nA n v.nc, .slice rA m v.rc] := by unfold PkV.val; rw [hn, hm, hnA, hrA]
  rw [hval]
  have hel := encP_len v.ns v.rs
  have hlr : (encL v.rs).length = (encI (m : Int)).length + (v.rs.flatMap encI).length := by unfold encL; rw [List.length_append, hm]
  rw [hel, v.ns_len, hn, hlr] at hsz
  obtain ⟨W, hW⟩ : ∃ W, w.alloc (.cells #[.slice nA n v.nc, .slice rA m v.rc] 29) = W := ⟨_, rfl⟩
  have HBX : Hid (Blk W w.heap.size 29 #[.slice nA n v.nc, .slice rA m v.rc]) := by subst hW; exact Blk.new w _ _
  have HBW : Hid (Below w.heap.size w W) := by subst hW; exact bal (Below.refl _ w) _
  have c0 := HBX.out.cell 0
  have c1 := HBX.out.cell 1
  simp at c0 c1
  have HC := Lib.hid (rint_any none 0 [] (n : Int) W Reads.none_ (by simp) ⟨by omega, by omega⟩)
  have H := Lib.hid h
  have HN := Lib.hid hn
  have HM := Lib.hid hm
  have HNA := Lib.hid hnA
  have HRA := Lib.hid hrA
  clear h hn hm hnA hrA hval hel hlr
  simp only [List.length_nil] at HC
  go_enter Tryd.func32, Tryd.ntmps32
  go_wp2_with fail
  refine (HC.out).mono ?_
  rintro e w1 ⟨A1, k1, p1, rfl, hp1, hr1, hb1⟩
  rw [List.nil_append] at hp1
  rw [← hp1] at hsz
  have HR1 := Lib.hid hr1
  have HP1 := Lib.hid hp1
  have HW := Lib.hid hW
  have HB1 : Hid (Below w.heap.size w w1) := HBW.out.trans (hb1.mono HBW.out.size)
  have HBX1 : Hid (Blk w1 w.heap.size 29 #[.slice nA n v.nc, .slice rA m v.rc]) := HBX.out.below hb1 HBX.out.lt
  clear hr1 hp1 hb1 HC hW c0 c1
  go_wp2_with fail
  go_loopw [3, 4] (fun b i wr => ∃ (j : Nat) (A' : Option Addr) (c' : Nat) (pre : List Nat), j ≤ n ∧ i = .int .i64 (j : Int) ∧ b = .slice A' pre.length c' ∧ Hid (pre = p1 ++ (v.ns.take j).flatMap encN) ∧ Hid (Reads wr wr.heap.size 1 A' pre.length (pre.map byt)) ∧ Hid (Below w.heap.size w wr) ∧ Hid (Blk wr w.heap.size 29 #[.slice nA n v.nc, .slice rA m v.rc])) (fun _ i _ => n - (intOf i).toNat)
  case atStart => exact ⟨0, A1, k1, p1, by omega, rfl, rfl, (by show p1 = _; simp), HR1, HB1, HBX1⟩
  case round =>
    obtain ⟨j, A', c', pre, hj, rfl, rfl, HP, HAC, HB, HBX2⟩ := hrel
    obtain ⟨wo, rfl⟩ : ∃ wo : World, wo = wr := ⟨_, rfl⟩
    have hzo := HB.out.size
    have c0 := HBX2.out.cell 0
    have c1 := HBX2.out.cell 1
    simp at c0 c1
    by_cases hlt : j < n
    · obtain ⟨p, hp⟩ : ∃ p, v.ps[j]? = some p := ⟨_, List.getElem?_eq_getElem (by rw [HN.out]; exact hlt)⟩
      obtain ⟨ab, ao, hA, hab, e0, e1, e2, e3⟩ := (H.out.low HB.out).at_ hp
      obtain rfl : nA = some ⟨ab, ao, none⟩ := HNA.out.symm.trans hA
      have HPO := Lib.hid (H.out.each p (List.mem_of_getElem? hp))
      have hnj := v.ns_at hp
      have hle := flat_len_le encN hnj
      have hpl : pre.length ≤ p1.length + ((v.ns.take j).flatMap encN).length := by rw [HP.out, List.length_append]; exact Nat.le_refl _
      have hnlen := encN_len p.plain
      have HNX : Hid (pre ++ encN p.plain = p1 ++ (v.ns.take (j + 1)).flatMap encN) := by
        unfold Hid
        rw [HP.out, flat_succ encN hnj, List.append_assoc]
      obtain ⟨ln, hln⟩ : ∃ ln, p.leads.length = ln := ⟨_, rfl⟩
      obtain ⟨kn, hkn⟩ : ∃ kn, p.kids.length = kn := ⟨_, rfl⟩
      obtain ⟨lA, hlA⟩ : ∃ lA, p.lA = lA := ⟨_, rfl⟩
      obtain ⟨kA, hkA⟩ : ∃ kA, p.kA = kA := ⟨_, rfl⟩
      have HLA := Lib.hid hlA
      have HKA := Lib.hid hkA
      rw [hlA] at e2
      rw [hkA] at e3
      have hpn : (encN p.plain).length = (encI p.kind).length + (encT p.text).length + (encI (ln : Int)).length + (p.leads.flatMap encT).length + ((encI (kn : Int)).length + (p.kids.flatMap encI).length) := by
        have : (encL p.kids).length = (encI (kn : Int)).length + (p.kids.flatMap encI).length := by unfold encL; rw [List.length_append, hkn]
        rw [← this, ← hln]; exact hnlen
      rw [hpn] at hle
      have htx := encT_ge p.text
      have hkr := HPO.out.kind
      have hll := HPO.out.ll
      have hkl := HPO.out.kl
      have hlf := flatT_ge p.leads
      rw [hln] at e2 hll hlf
      rw [hkn] at e3 hkl
      have HLN := Lib.hid hln
      have HKN := Lib.hid hkn
      obtain ⟨wk, hwk⟩ : ∃ wk, wo.alloc (.cells #[.int .i64 p.kind, .string p.text, .slice lA ln p.lc, .slice kA kn p.kc] 48) = wk := ⟨_, rfl⟩
      have HBK : Hid (Blk wk wo.heap.size 48 #[.int .i64 p.kind, .string p.text, .slice lA ln p.lc, .slice kA kn p.kc]) := by subst hwk; exact Blk.new wo _ _
      have HBPK : Hid (Blk wk w.heap.size 29 #[.slice (some ⟨ab, ao, none⟩) n v.nc, .slice rA m v.rc]) := by subst hwk; exact HBX2.out.alloc _
      have HBWK : Hid (Below w.heap.size w wk) := by subst hwk; exact bal HB.out _
      have HRK : Hid (∀ w', Below wk.heap.size wk w' → Reads w' w'.heap.size 1 A' pre.length (pre.map byt)) := fun w' hb => by
        subst hwk
        have h1 : Below wo.heap.size wo w' := (bal (Below.refl _ _) _).trans (hb.mono (by simp))
        exact (HAC.out.below h1).more h1.size
      have HCB : Hid (∀ w', Below wk.heap.size wk w' → w'.cell? ⟨wo.heap.size, 0, none⟩ = some (.int .i64 p.kind) ∧ w'.cell? ⟨wo.heap.size, 1, none⟩ = some (.string p.text) ∧ w'.cell? ⟨wo.heap.size, 2, none⟩ = some (.slice lA ln p.lc)) := fun w' hb => by
        have h1 := HBK.out.below hb HBK.out.lt
        exact ⟨by rw [h1.cell]; rfl, by rw [h1.cell]; rfl, by rw [h1.cell]; rfl⟩
      have B0 : Hid (Below wk.heap.size wk wk.drew) := below_drewN (Below.refl _ wk) 1
      have HL1 : Hid (pre.length ≤ 800000000) := by unfold Hid; omega
      have HL2 : Hid (∀ r : List Nat, r = pre ++ encI p.kind → r.length + p.text.size ≤ 900000000) := fun r hr => by rw [hr, List.length_append]; omega
      have HL3 : Hid (∀ r s : List Nat, r = pre ++ encI p.kind → s = r ++ encT p.text → s.length ≤ 800000000) := fun r s hr hs => by rw [hs, hr, List.length_append, List.length_append]; omega
      have HI1 : Hid (inI64 p.kind) := hkr
      have HI2 : Hid (inI64 (ln : Int)) := ⟨by omega, by omega⟩
      clear hp hA hnj hnlen hpn hkr hln hkn
      go_wp2_with fail
      have HWK := Lib.hid hwk
      clear hwk e0 e1 e2 e3 c0 c1
      go_region_held3 (fun w' => w'.cell? ⟨wo.heap.size, 0, none⟩ = some (.int .i64 p.kind) ∧ w'.cell? ⟨wo.heap.size, 1, none⟩ = some (.string p.text) ∧ w'.cell? ⟨wo.heap.size, 2, none⟩ = some (.slice lA ln p.lc))
        (first | (with_reducible exact HCB.out _ B0.out) | (with_reducible exact HCB.out _ B4.out) | (with_reducible exact HCB.out _ B5.out) | (with_reducible exact HCB.out _ B6.out))
        (first
          | (go_at_call 54; refine (rint_any A5 k5 r5 (ln : Int) _ R5.out (HL3.out _ _ E4.out E5.out) HI2.out).mono ?_; rintro e w6 ⟨A6, k6, r6, rfl, he6, hr6, hb6⟩; have B6 := Lib.hid (B5.out.trans (hb6.mono B5.out.size)); have E6 := Lib.hid he6; have R6 := Lib.hid hr6; clear he6 hr6 hb6)
          | (go_at_call 55; refine (rtext_any A4 k4 r4 p.text _ R4.out (HL2.out _ E4.out)).mono ?_; rintro e w5 ⟨A5, k5, r5, rfl, he5, hr5, hb5⟩; have B5 := Lib.hid (B4.out.trans (hb5.mono B4.out.size)); have E5 := Lib.hid he5; have R5 := Lib.hid hr5; clear he5 hr5 hb5)
          | (go_at_call 54; refine (rint_any A' c' pre p.kind _ (HRK.out _ B0.out) HL1.out HI1.out).mono ?_; rintro e w4 ⟨A4, k4, r4, rfl, he4, hr4, hb4⟩; have B4 := Lib.hid (B0.out.trans (hb4.mono B0.out.size)); have E4 := Lib.hid he4; have R4 := Lib.hid hr4; clear he4 hr4 hb4))
      clear B0 B4 B5 HL1 HL2 HL3 HI1 HI2 HRK HCB
      have HB6 : Hid (Below w.heap.size w w6) := HBWK.out.trans (B6.out.mono HBWK.out.size)
      have HK6 : Hid (Blk w6 wo.heap.size 48 #[.int .i64 p.kind, .string p.text, .slice lA ln p.lc, .slice kA kn p.kc]) := HBK.out.below B6.out HBK.out.lt
      have HQ6 : Hid (Blk w6 w.heap.size 29 #[.slice (some ⟨ab, ao, none⟩) n v.nc, .slice rA m v.rc]) := HBPK.out.below B6.out HBPK.out.lt
      have HE6 : Hid (r6 = pre ++ (encI p.kind ++ (encT p.text ++ encI (ln : Int)))) := by unfold Hid; rw [E6.out, E5.out, E4.out]; simp only [List.append_assoc]
      have hr6l : r6.length ≤ pre.length + (encI p.kind).length + (encT p.text).length + (encI (ln : Int)).length := by rw [HE6.out]; simp only [List.length_append]; omega
      clear R4 R5 E4 E5 E6
      go_wp2_with fail
      go_loopw [3, 6] (fun b i wr => ∃ (k : Nat) (A' : Option Addr) (c' : Nat) (q : List Nat), k ≤ ln ∧ i = .int .i64 (k : Int) ∧ b = .slice A' q.length c' ∧ Hid (q = r6 ++ (p.leads.take k).flatMap encT) ∧ Hid (Reads wr wr.heap.size 1 A' q.length (q.map byt)) ∧ Hid (Below w.heap.size w wr) ∧ Hid (Blk wr wo.heap.size 48 #[.int .i64 p.kind, .string p.text, .slice lA ln p.lc, .slice kA kn p.kc]) ∧ Hid (Blk wr w.heap.size 29 #[.slice (some ⟨ab, ao, none⟩) n v.nc, .slice rA m v.rc])) (fun _ i _ => ln - (intOf i).toNat)
      case atStart => exact ⟨0, A6, k6, r6, by omega, rfl, rfl, (by show r6 = _; simp), R6, HB6, HK6, HQ6⟩
      case round =>
        obtain ⟨k, A5, c5, q, hk, rfl, rfl, HQP, HA5, HB5, HK5, HQ5⟩ := hrel
        have f2 := HK5.out.cell 2
        have f3 := HK5.out.cell 3
        simp at f2 f3
        have hz5 := HB5.out.size
        by_cases hlk : k < ln
        · obtain ⟨s, hs⟩ : ∃ s, p.leads[k]? = some s := ⟨_, List.getElem?_eq_getElem (by rw [HLN.out]; exact hlk)⟩
          have hlr := HPO.out.leads.below HB5.out
          rw [HLN.out] at hlr
          obtain ⟨b1, o1, u1, hlA, -, hu1, g1⟩ := hlr.at1 hlk
          obtain rfl : u1 = Value.string s := by rw [List.getElem?_map, hs] at hu1; simpa using hu1.symm
          obtain rfl : lA = some ⟨b1, o1, none⟩ := HLA.out.symm.trans hlA
          have hsle := flat_len_le encT hs
          have hss := encT_ge s
          have hql : q.length ≤ r6.length + ((p.leads.take k).flatMap encT).length := by rw [HQP.out, List.length_append]; exact Nat.le_refl _
          have HQX : Hid (q ++ encT s = r6 ++ (p.leads.take (k + 1)).flatMap encT) := by
            unfold Hid
            rw [HQP.out, flat_succ encT hs, List.append_assoc]
          clear hs hu1 hlA
          have HC6 := Lib.hid (rtext_any A5 c5 q s wr HA5.out (by omega))
          go_wp2_with fail
          refine (HC6.out).mono ?_
          rintro e x6 ⟨A7, k7, r7, rfl, he7, hr7, hb7⟩
          have HR7 := Lib.hid hr7
          have HE7 : Hid (r7 = r6 ++ (p.leads.take (k + 1)).flatMap encT) := by unfold Hid; rw [he7]; exact HQX
          have HB7 : Hid (Below w.heap.size w x6) := HB5.out.trans (hb7.mono HB5.out.size)
          have HK7 := Lib.hid (HK5.out.below hb7 HK5.out.lt)
          have HQ7 := Lib.hid (HQ5.out.below hb7 HQ5.out.lt)
          clear he7 hr7 hb7 HC6 f2 f3
          go_wp2_with fail
          go_roundw
          case rel => exact ⟨k + 1, A7, k7, r7, by omega, by go_num, rfl, HE7, HR7, HB7, HK7, HQ7⟩
          case measure => simp [intOf]; omega
        · obtain rfl : k = ln := by omega
          have hqe : q = r6 ++ p.leads.flatMap encT := by rw [HQP.out, List.take_of_length_le (by rw [HLN.out]; exact Nat.le_refl _)]
          have hql : q.length ≤ r6.length + (p.leads.flatMap encT).length := by rw [hqe, List.length_append]; exact Nat.le_refl _
          have HQE := Lib.hid hqe
          have HC6 := Lib.hid (rint_any A5 c5 q (kn : Int) wr HA5.out (by omega) ⟨by omega, by omega⟩)
          clear hqe
          go_wp2_with fail
          refine (HC6.out).mono ?_
          rintro e x6 ⟨A7, k7, r7, rfl, he7, hr7, hb7⟩
          have HR7 := Lib.hid hr7
          have hr7l : r7.length ≤ q.length + (encI (kn : Int)).length := by rw [he7, List.length_append]; exact Nat.le_refl _
          have HE7 := Lib.hid he7
          have HB7 : Hid (Below w.heap.size w x6) := HB5.out.trans (hb7.mono HB5.out.size)
          have HK7 := Lib.hid (HK5.out.below hb7 HK5.out.lt)
          have HQ7 := Lib.hid (HQ5.out.below hb7 HQ5.out.lt)
          clear he7 hr7 hb7 HC6 f2 f3
          go_wp2_with fail
          go_loopw [3, 7] (fun b i wr => ∃ (x : Nat) (A' : Option Addr) (c' : Nat) (y : List Nat), x ≤ kn ∧ i = .int .i64 (x : Int) ∧ b = .slice A' y.length c' ∧ Hid (y = r7 ++ (p.kids.take x).flatMap encI) ∧ Hid (Reads wr wr.heap.size 1 A' y.length (y.map byt)) ∧ Hid (Below w.heap.size w wr) ∧ Hid (Blk wr wo.heap.size 48 #[.int .i64 p.kind, .string p.text, .slice lA k p.lc, .slice kA kn p.kc]) ∧ Hid (Blk wr w.heap.size 29 #[.slice (some ⟨ab, ao, none⟩) n v.nc, .slice rA m v.rc])) (fun _ i _ => kn - (intOf i).toNat)
          case atStart => exact ⟨0, A7, k7, r7, by omega, rfl, rfl, (by show r7 = _; simp), HR7, HB7, HK7, HQ7⟩
          case round =>
            obtain ⟨x, A8, c8, y, hx, rfl, rfl, HYP, HA8, HB8, HK8, HQ8⟩ := hrel
            have f3 := HK8.out.cell 3
            simp at f3
            have hz8 := HB8.out.size
            by_cases hlx : x < kn
            · obtain ⟨z, hz⟩ : ∃ z, p.kids[x]? = some z := ⟨_, List.getElem?_eq_getElem (by rw [HKN.out]; exact hlx)⟩
              have hkr := HPO.out.kids.below HB8.out
              rw [HKN.out] at hkr
              obtain ⟨b1, o1, u1, hkA, -, hu1, g1⟩ := hkr.at1 hlx
              obtain rfl : u1 = Value.int .i64 z := by rw [List.getElem?_map, hz] at hu1; simpa using hu1.symm
              obtain rfl : kA = some ⟨b1, o1, none⟩ := HKA.out.symm.trans hkA
              have hsle := flat_len_le encI hz
              have hz64 := HPO.out.kk z (List.mem_of_getElem? hz)
              have hyl : y.length ≤ r7.length + ((p.kids.take x).flatMap encI).length := by rw [HYP.out, List.length_append]; exact Nat.le_refl _
              have HYX : Hid (y ++ encI z = r7 ++ (p.kids.take (x + 1)).flatMap encI) := by
                unfold Hid
                rw [HYP.out, flat_succ encI hz, List.append_assoc]
              clear hz hu1 hkA hkr
              have HC9 := Lib.hid (rint_any A8 c8 y z wr HA8.out (by omega) hz64)
              go_wp2_with fail
              refine (HC9.out).mono ?_
              rintro e x9 ⟨A9, k9, r9, rfl, he9, hr9, hb9⟩
              have HR9 := Lib.hid hr9
              have HE9 : Hid (r9 = r7 ++ (p.kids.take (x + 1)).flatMap encI) := by unfold Hid; rw [he9]; exact HYX
              have HB9 : Hid (Below w.heap.size w x9) := HB8.out.trans (hb9.mono HB8.out.size)
              have HK9 := Lib.hid (HK8.out.below hb9 HK8.out.lt)
              have HQ9 := Lib.hid (HQ8.out.below hb9 HQ8.out.lt)
              clear he9 hr9 hb9 HC9 f3
              go_wp2_with fail
              go_roundw
              case rel => exact ⟨x + 1, A9, k9, r9, by omega, by go_num, rfl, HE9, HR9, HB9, HK9, HQ9⟩
              case measure => simp [intOf]; omega
            · obtain rfl : x = kn := by omega
              have HYE : Hid (y = p1 ++ (v.ns.take (j + 1)).flatMap encN) := by
                unfold Hid
                rw [← HNX.out, HYP.out, HE7.out, HQE.out, HE6.out, List.take_of_length_le (by rw [HKN.out]; exact Nat.le_refl _)]
                unfold encN PX.plain encL
                rw [HLN.out, HKN.out]
                simp only [List.append_assoc]
              go_wp2_with fail
              go_roundw
              case rel => exact ⟨j + 1, A8, c8, y, by omega, by go_num, rfl, HYE, HA8, HB8, HQ8⟩
              case measure => simp [intOf]; omega
    · obtain rfl : j = n := by omega
      have hpre : pre = p1 ++ v.ns.flatMap encN := by rw [HP.out, List.take_of_length_le (by rw [v.ns_len, HN.out]; exact Nat.le_refl _)]
      have hpl : pre.length ≤ p1.length + (v.ns.flatMap encN).length := by rw [hpre, List.length_append]; exact Nat.le_refl _
      have HPE := Lib.hid hpre
      have HC6 := Lib.hid (rint_any A' c' pre (m : Int) wo HAC.out (by omega) ⟨by omega, by omega⟩)
      clear hpre
      go_wp2_with fail
      refine (HC6.out).mono ?_
      rintro e x6 ⟨A7, k7, r7, rfl, he7, hr7, hb7⟩
      have HR7 := Lib.hid hr7
      have hr7l : r7.length ≤ pre.length + (encI (m : Int)).length := by rw [he7, List.length_append]; exact Nat.le_refl _
      have HE7 := Lib.hid he7
      have HB7 : Hid (Below w.heap.size w x6) := HB.out.trans (hb7.mono HB.out.size)
      have HQ7 := Lib.hid (HBX2.out.below hb7 HBX2.out.lt)
      clear he7 hr7 hb7 HC6 c0 c1
      go_wp2_with fail
      go_loopw [3, 8] (fun b i wr => ∃ (x : Nat) (A' : Option Addr) (c' : Nat) (y : List Nat), x ≤ m ∧ i = .int .i64 (x : Int) ∧ b = .slice A' y.length c' ∧ Hid (y = r7 ++ (v.rs.take x).flatMap encI) ∧ Hid (Reads wr wr.heap.size 1 A' y.length (y.map byt)) ∧ Hid (Below w.heap.size w wr) ∧ Hid (Blk wr w.heap.size 29 #[.slice nA j v.nc, .slice rA m v.rc])) (fun _ i _ => m - (intOf i).toNat)
      case atStart => exact ⟨0, A7, k7, r7, by omega, rfl, rfl, (by show r7 = _; simp), HR7, HB7, HQ7⟩
      case round =>
        obtain ⟨x, A8, c8, y, hx, rfl, rfl, HYP, HA8, HB8, HQ8⟩ := hrel
        have c0 := HQ8.out.cell 0
        have c1 := HQ8.out.cell 1
        simp at c0 c1
        have hz8 := HB8.out.size
        by_cases hlx : x < m
        · obtain ⟨z, hz⟩ : ∃ z, v.rs[x]? = some z := ⟨_, List.getElem?_eq_getElem (by rw [HM.out]; exact hlx)⟩
          have hkr := H.out.roots.below HB8.out
          rw [HM.out] at hkr
          obtain ⟨b1, o1, u1, hkA, -, hu1, g1⟩ := hkr.at1 hlx
          obtain rfl : u1 = Value.int .i64 z := by rw [List.getElem?_map, hz] at hu1; simpa using hu1.symm
          obtain rfl : rA = some ⟨b1, o1, none⟩ := HRA.out.symm.trans hkA
          have hsle := flat_len_le encI hz
          have hz64 := H.out.rr z (List.mem_of_getElem? hz)
          have hyl : y.length ≤ r7.length + ((v.rs.take x).flatMap encI).length := by rw [HYP.out, List.length_append]; exact Nat.le_refl _
          have HYX : Hid (y ++ encI z = r7 ++ (v.rs.take (x + 1)).flatMap encI) := by
            unfold Hid
            rw [HYP.out, flat_succ encI hz, List.append_assoc]
          clear hz hu1 hkA hkr
          have HC9 := Lib.hid (rint_any A8 c8 y z wr HA8.out (by omega) hz64)
          go_wp2_with fail
          refine (HC9.out).mono ?_
          rintro e x9 ⟨A9, k9, r9, rfl, he9, hr9, hb9⟩
          have HR9 := Lib.hid hr9
          have HE9 : Hid (r9 = r7 ++ (v.rs.take (x + 1)).flatMap encI) := by unfold Hid; rw [he9]; exact HYX
          have HB9 : Hid (Below w.heap.size w x9) := HB8.out.trans (hb9.mono HB8.out.size)
          have HQ9 := Lib.hid (HQ8.out.below hb9 HQ8.out.lt)
          clear he9 hr9 hb9 HC9 c0 c1
          go_wp2_with fail
          go_roundw
          case rel => exact ⟨x + 1, A9, k9, r9, by omega, by go_num, rfl, HE9, HR9, HB9, HQ9⟩
          case measure => simp [intOf]; omega
        · obtain rfl : x = m := by omega
          have HYE : Hid (y = [] ++ encP v.ns v.rs) := by
            unfold Hid
            rw [HYP.out, HE7.out, HPE.out, HP1.out, List.take_of_length_le (by rw [HM.out]; exact Nat.le_refl _), List.nil_append]
            unfold encP encL
            rw [v.ns_len, HN.out, HM.out]
            simp only [List.append_assoc]
          have HBP : Hid (RB w [] (encP v.ns v.rs) (.returned (.slice A8 y.length c8)) wr) := ⟨A8, c8, y, rfl, HYE.out, HA8.out, HB8.out⟩
          go_wp2_with fail
          go_ret
          exact HBP.out
end Go.Proofs.YtdabmjcpiblofaaDoor
