/-
  slices.EqualFunc with its function value, same, Valid: the program's. Valid, the program's. No condition.
-/
import Derived.Test.YtdabmjcpiblofaaDoorPkSc
import Derived.BigQuiet
namespace Go.Proofs.YtdabmjcpiblofaaDoor
open Go.RowKit
set_option linter.unusedVariables false

set_option maxRecDepth 100000 in
set_option maxHeartbeats 3200000 in
theorem equalFunc_any (a b : PkV) (w : World) (ha : a.ok w w.heap.size) (hb : b.ok w w.heap.size) : Calls Tryd.prog 66 #[.slice a.nA a.ps.length a.nc, .slice b.nA b.ps.length b.nc, .func (.func 67) #[] #[]] w (RetB w (a.ns = b.ns)) := by
  obtain ⟨kA, hkA⟩ : ∃ x, a.nA = x := ⟨_, rfl⟩
  obtain ⟨kB, hkB⟩ : ∃ x, b.nA = x := ⟨_, rfl⟩
  have HKA := Lib.hid hkA
  have HKB := Lib.hid hkB
  rw [hkA, hkB]
  have hna := ha.nl
  have hnb := hb.nl
  have HA := Lib.hid ha
  have HB := Lib.hid hb
  clear ha hb hkA hkB
  by_cases el : a.ps.length = b.ps.length
  rotate_left
  · have HN : Hid (false = true ↔ a.ns = b.ns) := ⟨(fun h => by cases h), fun h => absurd (by have := congrArg List.length h; rwa [a.ns_len, b.ns_len] at this) el⟩
    have n1 : ((a.ps.length : Int) != (b.ps.length : Int)) = true := by simp; omega
    have n2 : ((a.ps.length : Int) == (b.ps.length : Int)) = false := by simp; omega
    have n3 : (a.ps.length == b.ps.length) = false := by simp; omega
    have n4 : (a.ps.length != b.ps.length) = true := by simp; omega
    clear el
    go_enter Tryd.func66, Tryd.ntmps66
    go_wp2_with fail
    go_ret
    exact ⟨false, HN.out, rfl, Below.refl _ _⟩
  obtain ⟨n, hn⟩ : ∃ n, a.ps.length = n := ⟨_, rfl⟩
  have hn' : b.ps.length = n := by omega
  rw [hn] at hna
  rw [hn'] at hnb
  rw [hn, hn']
  have HN1 := Lib.hid hn
  have HN2 := Lib.hid hn'
  clear hn hn' el
  go_enter Tryd.func66, Tryd.ntmps66
  go_wp2_with fail
  go_loopw [17] (fun i wr => ∃ j : Nat, j ≤ n ∧ i = .int .i64 (j : Int) ∧ Hid (a.ns.take j = b.ns.take j) ∧ Hid (Below w.heap.size w wr)) (fun i _ => n - (intOf i).toNat)
  case atStart => exact ⟨0, by omega, rfl, rfl, Below.refl _ _⟩
  case round =>
    obtain ⟨j, hj, rfl, HT, HBR⟩ := hrel
    by_cases hlt : j < n
    · obtain ⟨k, hk⟩ : ∃ k, a.ps[j]? = some k := ⟨_, List.getElem?_eq_getElem (by rw [HN1.out]; exact hlt)⟩
      obtain ⟨l, hl⟩ : ∃ l, b.ps[j]? = some l := ⟨_, List.getElem?_eq_getElem (by rw [HN2.out]; exact hlt)⟩
      obtain ⟨ab, ao, hA, hab, p0, p1, p2, p3⟩ := (HA.out.low HBR.out).at_ hk
      obtain ⟨bb, bo, hB, hbb, q0, q1, q2, q3⟩ := (HB.out.low HBR.out).at_ hl
      obtain rfl : kA = some ⟨ab, ao, none⟩ := HKA.out.symm.trans hA
      obtain rfl : kB = some ⟨bb, bo, none⟩ := HKB.out.symm.trans hB
      have hzr := HBR.out.size
      obtain ⟨W, hW⟩ : ∃ W, wr.alloc (.cells #[.int .i64 k.kind, .string k.text, .slice k.lA k.leads.length k.lc, .slice k.kA k.kids.length k.kc] 48) = W := ⟨_, rfl⟩
      have hX1 : Blk W wr.heap.size 48 #[.int .i64 k.kind, .string k.text, .slice k.lA k.leads.length k.lc, .slice k.kA k.kids.length k.kc] := by subst hW; exact Blk.new _ _ _
      have hBW : Below wr.heap.size wr W := by subst hW; exact bal (Below.refl _ _) _
      have hsz : W.heap.size = wr.heap.size + 1 := by subst hW; simp
      obtain ⟨W2, hW2⟩ : ∃ W2, W.alloc (.cells #[.int .i64 l.kind, .string l.text, .slice l.lA l.leads.length l.lc, .slice l.kA l.kids.length l.kc] 48) = W2 := ⟨_, rfl⟩
      have hX2 : Blk W2 W.heap.size 48 #[.int .i64 l.kind, .string l.text, .slice l.lA l.leads.length l.lc, .slice l.kA l.kids.length l.kc] := by
        have := Blk.new W 48 #[.int .i64 l.kind, .string l.text, .slice l.lA l.leads.length l.lc, .slice l.kA l.kids.length l.kc]
        rwa [hW2] at this
      have hX1' : Blk W2 wr.heap.size 48 #[.int .i64 k.kind, .string k.text, .slice k.lA k.leads.length k.lc, .slice k.kA k.kids.length k.kc] := by rw [← hW2]; exact hX1.alloc _
      have HBW2 : Hid (Below wr.heap.size wr W2) := by rw [← hW2]; exact bal hBW _
      have u0 := hX1'.cell 0
      have u1 := hX1'.cell 1
      have u2 := hX1'.cell 2
      have u3 := hX1'.cell 3
      have v0 := hX2.cell 0
      have v1 := hX2.cell 1
      have v2 := hX2.cell 2
      have v3 := hX2.cell 3
      simp at u0 u1 u2 u3 v0 v1 v2 v3
      have q0' := (hBW.cell (p := ⟨bb, bo + j * 4, none⟩) (by show bb < _; omega)).trans q0
      have q1' := (hBW.cell (p := ⟨bb, bo + j * 4 + 1, none⟩) (by show bb < _; omega)).trans q1
      have q2' := (hBW.cell (p := ⟨bb, bo + j * 4 + 2, none⟩) (by show bb < _; omega)).trans q2
      have q3' := (hBW.cell (p := ⟨bb, bo + j * 4 + 3, none⟩) (by show bb < _; omega)).trans q3
      have HB2 : Hid (Below w.heap.size w W2) := HBR.out.trans (HBW2.out.mono hzr)
      have HC := Lib.hid (same1_any k l W2 (((HA.out.each k (List.mem_of_getElem? hk)).low HB2.out).more HB2.out.size) (((HB.out.each l (List.mem_of_getElem? hl)).low HB2.out).more HB2.out.size))
      have i0 : (0 : Int) ≤ (j : Int) := by omega
      have i1 : (j : Int) < (n : Int) := by omega
      have HK1 := Lib.hid hk
      have HK2 := Lib.hid hl
      clear hk hl hA hB hX1 hX2 hX1' hBW hsz q0 q1 q2 q3
      go_wp2_with fail
      refine (HC.out).mono ?_
      rintro e w1 ⟨bv, hv, rfl, hb1⟩
      have HB1 : Hid (Below w.heap.size w w1) := HB2.out.trans (hb1.mono HB2.out.size)
      have HV := Lib.hid hv
      clear hb1 hv p0 p1 p2 p3 q0' q1' q2' q3' u0 u1 u2 u3 v0 v1 v2 v3
      rcases bv with _ | _
      · have HN : Hid (false = true ↔ a.ns = b.ns) := ⟨(fun h => by cases h), fun h => absurd h (ne_at (a.ns_at HK1.out) (b.ns_at HK2.out) (fun e => by have := HV.out.2 e; cases this))⟩
        go_wp2_with fail
        go_ret
        exact ⟨false, HN.out, rfl, HB1.out⟩
      · have HT2 : Hid (a.ns.take (j + 1) = b.ns.take (j + 1)) := take_eq_succ HT.out (a.ns_at HK1.out) (by rw [b.ns_at HK2.out, HV.out.1 rfl])
        go_wp2_with fail
        go_roundw
        case rel => exact ⟨j + 1, by omega, by go_num, HT2, HB1⟩
        case measure => simp [intOf]; omega
    · have HYE : Hid (a.ns = b.ns) := by
        have h := HT.out
        rw [List.take_of_length_le (by rw [a.ns_len, HN1.out]; omega), List.take_of_length_le (by rw [b.ns_len, HN2.out]; omega)] at h
        exact h
      go_wp2_with fail
      go_ret
      exact ⟨true, ⟨fun _ => HYE.out, fun _ => rfl⟩, rfl, HBR.out⟩

set_option maxRecDepth 100000 in
set_option maxHeartbeats 1600000 in
theorem packSame_any (a b : PkV) (w : World) (ha : a.ok w w.heap.size) (hb : b.ok w w.heap.size) : Calls Tryd.prog 46 #[a.val, b.val] w (RetB w (eqPk a b)) := by
  unfold PkV.val
  obtain ⟨W, hW⟩ : ∃ W, (w.alloc (.cells #[.slice a.nA a.ps.length a.nc, .slice a.rA a.rs.length a.rc] 29)).alloc (.cells #[.slice b.nA b.ps.length b.nc, .slice b.rA b.rs.length b.rc] 29) = W := ⟨_, rfl⟩
  have HBW : Hid (Below w.heap.size w W) := by subst hW; exact ((Below.refl _ w).alloc (Nat.le_refl _) _).alloc (by simp) _
  have HX1 : Hid (Blk W w.heap.size 29 #[.slice a.nA a.ps.length a.nc, .slice a.rA a.rs.length a.rc]) := by subst hW; exact (Blk.new w _ _).alloc _
  have HX2 : Hid (Blk W (w.heap.size + 1) 29 #[.slice b.nA b.ps.length b.nc, .slice b.rA b.rs.length b.rc]) := by
    subst hW
    have := Blk.new (w.alloc (.cells #[.slice a.nA a.ps.length a.nc, .slice a.rA a.rs.length a.rc] 29)) 29 #[.slice b.nA b.ps.length b.nc, .slice b.rA b.rs.length b.rc]
    have e : (w.alloc (.cells #[.slice a.nA a.ps.length a.nc, .slice a.rA a.rs.length a.rc] 29)).heap.size = w.heap.size + 1 := by simp
    rw [e] at this
    exact this
  have c0 := HX1.out.cell 0
  have c1 := HX1.out.cell 1
  have d0 := HX2.out.cell 0
  have d1 := HX2.out.cell 1
  simp at c0 c1 d0 d1
  have hna := ha.nl
  have hnb := hb.nl
  have hra := ha.rl
  have hrb := hb.rl
  have HE2 := Lib.hid (equalI_any a.rA b.rA a.rc b.rc _ _ a.rs b.rs W (ha.roots.below HBW.out) (hb.roots.below HBW.out) (by omega) (by omega))
  have HEF := Lib.hid (fun q : Nat => equalFunc_any a b (W.drewN q) (ha.up (Nat.le_refl _) (below_drewN HBW.out q)) (hb.up (Nat.le_refl _) (below_drewN HBW.out q)))
  clear ha hb
  by_cases es : a.rs = b.rs
  rotate_left
  · have HN : Hid (false = true ↔ eqPk a b) := ⟨(fun h => by cases h), fun h => absurd h.2 es⟩
    rw [decide_eq_false es] at HE2
    clear es
    go_enter Tryd.func46, Tryd.ntmps46
    go_wp2_with fail
    refine (HE2.out).mono ?_
    rintro e w1 ⟨rfl, q, rfl⟩
    go_wp2_with fail
    go_ret
    exact ⟨false, HN.out, rfl, below_drewN HBW.out q⟩
  rw [decide_eq_true es] at HE2
  have HES := Lib.hid es
  clear es
  go_enter Tryd.func46, Tryd.ntmps46
  go_wp2_with fail
  refine (HE2.out).mono ?_
  rintro e w1 ⟨rfl, q, rfl⟩
  go_wp2_with fail
  refine (HEF.out q).mono ?_
  rintro e w1 ⟨bv, hv, rfl, hb1⟩
  have HV : Hid (bv = true ↔ eqPk a b) := ⟨fun h => ⟨hv.1 h, HES.out⟩, fun h => hv.2 h.1⟩
  have HB1 := Lib.hid hb1
  clear hv hb1
  go_wp2_with fail
  go_ret
  exact ⟨bv, HV.out, rfl, (below_drewN HBW.out q).trans (HB1.out.mono (below_drewN HBW.out q).size)⟩
end Go.Proofs.YtdabmjcpiblofaaDoor

namespace Go.Proofs.YtdabmjcpiblofaaDoor
open Go.RowKit
set_option linter.unusedVariables false

theorem valid_iff {ns : List PN} {rs : List Int} (h : errP ns rs = 0) : validP ns rs ↔ T.puts (treesP ns rs) [] = (ns, rs) := by
  obtain ⟨h1, h2, h3⟩ := errP_zero h
  exact ⟨fun hv => hv.2.2.2, fun hp => ⟨h1, h2, h3, hp⟩⟩
theorem valid_err {ns : List PN} {rs : List Int} (h : errP ns rs ≠ 0) : ¬ validP ns rs := fun hv => h (errP_ok ⟨hv.1, hv.2.1⟩ hv.2.2.1)

set_option maxRecDepth 100000 in
set_option maxHeartbeats 3200000 in
theorem valid_any (v : PkV) (w : World) (h : v.ok w w.heap.size) (ht : Tab w) : Calls Tryd.prog 21 #[v.val] w (RetB w (validP v.ns v.rs)) := by
  obtain ⟨n, hn⟩ : ∃ n, v.ps.length = n := ⟨_, rfl⟩
  obtain ⟨m, hm⟩ : ∃ m, v.rs.length = m := ⟨_, rfl⟩
  have hval : v.val = .agg #[.slice v.nA n v.nc, .slice v.rA m v.rc] := by unfold PkV.val; rw [hn, hm]
  have HV := Lib.hid hval
  have H := Lib.hid h
  have HT := Lib.hid ht
  rw [hval]
  obtain ⟨W, hW⟩ : ∃ W, w.alloc (.cells #[.slice v.nA n v.nc, .slice v.rA m v.rc] 29) = W := ⟨_, rfl⟩
  have HBX : Hid (Blk W w.heap.size 29 #[.slice v.nA n v.nc, .slice v.rA m v.rc]) := by subst hW; exact Blk.new w _ _
  have HBW : Hid (Below w.heap.size w W) := by subst hW; exact bal (Below.refl _ w) _
  have c0 := HBX.out.cell 0
  have c1 := HBX.out.cell 1
  simp at c0 c1
  have HC := Lib.hid (trees_any v W (h.up (Nat.le_refl _) HBW.out))
  rw [hval] at HC
  clear h ht hn hm hval
  go_enter Tryd.func21, Tryd.ntmps21
  go_wp2_with fail
  refine (HC.out).mono ?_
  rintro e w1 ⟨A, c, ts, rfl, htl, hpl, hno, hb⟩
  have HW := Lib.hid hW
  have HB1 : Hid (Below w.heap.size w w1) := HBW.out.trans (hb.mono HBW.out.size)
  have HBX1 : Hid (Blk w1 w.heap.size 29 #[.slice v.nA n v.nc, .slice v.rA m v.rc]) := HBX.out.below hb HBX.out.lt
  by_cases h0 : errP v.ns v.rs = 0
  · have HPL := Lib.hid (hpl h0)
    have HLT := Lib.hid htl.lt
    have HIFF := Lib.hid (valid_iff h0)
    have HSZ : Hid (T.sizes (ts.map TX.plain) ≤ 1000000) := by
      unfold Hid
      rw [hpl h0]
      have := (errP_zero h0).2.2
      omega
    rw [h0]
    have HCM : Hid (∀ w', Below w1.heap.size w1 w' → Calls Tryd.prog 13 #[.slice A ts.length c] w' (MakePost w' (T.puts (treesP v.ns v.rs) []).1 (T.puts (treesP v.ns v.rs) []).2)) := fun w' hb' => by
      have := make_any A c ts w' (HLT.out.up hb') HSZ.out (HT.out.below (HB1.out.trans (hb'.mono HB1.out.size)))
      rw [HPL.out] at this
      exact this
    have HCS : Hid (∀ (w' : World) (u : PkV), Below w1.heap.size w1 w' → u.ok w' w'.heap.size → Calls Tryd.prog 46 #[.agg #[.slice u.nA u.ps.length u.nc, .slice u.rA u.rs.length u.rc], .agg #[.slice v.nA n v.nc, .slice v.rA m v.rc]] w' (RetB w' (eqPk u v))) := fun w' u hb' hu => by
      have := packSame_any u v w' hu (H.out.up (Nat.le_refl _) (HB1.out.trans (hb'.mono HB1.out.size)))
      rw [HV.out] at this
      exact this
    have HCB : Hid (∀ w', Below w1.heap.size w1 w' → w'.cell? ⟨w.heap.size, 0, none⟩ = some (.slice v.nA n v.nc) ∧ w'.cell? ⟨w.heap.size, 1, none⟩ = some (.slice v.rA m v.rc)) := fun w' hb' => by
      have h1 := HBX1.out.below hb' HBX1.out.lt
      exact ⟨by rw [h1.cell]; rfl, by rw [h1.cell]; rfl⟩
    have B0 : Hid (Below w1.heap.size w1 w1.drew) := below_drewN (Below.refl _ w1) 1
    clear htl hpl hno hb hW c0 c1 h0
    go_wp2_with fail
    go_region_held3 (fun w' => w'.cell? ⟨w.heap.size, 0, none⟩ = some (.slice v.nA n v.nc) ∧ w'.cell? ⟨w.heap.size, 1, none⟩ = some (.slice v.rA m v.rc))
      (first | (with_reducible exact HCB.out _ B0.out) | (with_reducible exact HCB.out _ B5.out) | (with_reducible exact HCB.out _ B6.out))
      (first
        | (go_at_call 46; refine (HCS.out _ u5 B5.out U5.out).mono ?_; rintro e w6 ⟨bv, hv, rfl, hb6⟩; have B6 := Lib.hid (B5.out.trans (hb6.mono B5.out.size)); have HV6 := Lib.hid hv; clear hv hb6)
        | (go_at_call 13; refine (HCM.out _ B0.out).mono ?_; rintro e w5 ⟨u5, rfl, hn5, hr5, hu5, hb5⟩; unfold PkV.val; have B5 := Lib.hid (B0.out.trans (hb5.mono B0.out.size)); have U5 := Lib.hid hu5; have N5 := Lib.hid hn5; have R5 := Lib.hid hr5; clear hn5 hr5 hu5 hb5))
    all_goals
      go_wp2_with fail
      go_ret
      refine ⟨bv, ?_, rfl, HB1.out.trans (B6.out.mono HB1.out.size)⟩
      rw [HV6.out, HIFF.out]
      unfold eqPk
      rw [N5.out, R5.out]
      exact ⟨fun h => Prod.ext h.1 h.2, fun h => ⟨congrArg Prod.fst h, congrArg Prod.snd h⟩⟩
  · have HNV := Lib.hid (valid_err h0)
    obtain ⟨er, her⟩ : ∃ er, errP v.ns v.rs = er := ⟨_, rfl⟩
    rw [her] at h0 ⊢
    have d1 : (er == 0) = false := by simpa using h0
    clear htl hpl hno hb hW c0 c1 h0 her
    go_wp2_with fail
    go_quiet (fail)
    go_wp2_with fail
    go_ret
    exact ⟨false, ⟨(fun h => by cases h), fun h => absurd h HNV.out⟩, rfl, below_drewN HB1.out _⟩
end Go.Proofs.YtdabmjcpiblofaaDoor
