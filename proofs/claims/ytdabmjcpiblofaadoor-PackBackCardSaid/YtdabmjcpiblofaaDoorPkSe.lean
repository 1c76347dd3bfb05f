/-
  Valid, the program's. No condition.
-/
import Derived.Test.YtdabmjcpiblofaaDoorPkSd
import Derived.BigQuiet
namespace Go.Proofs.YtdabmjcpiblofaaDoor
open Go.RowKit
set_option linter.unusedVariables false

theorem valid_iff {ns : List PN} {rs : List Int} (h : errP ns rs = 0) : validP ns rs ↔ T.puts (treesP ns rs) [] = (ns, rs) := by
  obtain ⟨h1, h2, h3⟩ := errP_zero h
  exact ⟨fun hv => hv.2.2.2, fun hp => ⟨h1, h2, h3, hp⟩⟩
theorem valid_err {ns : List PN} {rs : List Int} (h : errP ns rs ≠ 0) : ¬ validP ns rs := fun hv => h (errP_ok ⟨hv.1, hv.2.1⟩ hv.2.2.1)

set_option maxRecDepth 100000 in
set_option maxHeartbeats 3200000 in
theorem valid_any (v : PkV) (w : World) (h : v.ok w w.heap.size) (ht : Tab w) : Calls Tryd.prog 21 #[v.val] w (RetB w (validP v.ns v.rs)) := by
  obtain ⟨n, hn⟩ : ∃ n, v.ps.length = n := ⟨_, rfl⟩
  obtain ⟨m, hm⟩ : ∃ m, v.rs.length = m := ⟨_, rfl⟩
  have hval : v.val = .agg #[.slice v.nA n v.nc, .slice v.rA m v.rc] := by unfold PkV.val; rw [hn, hm]
  have HV := Lib.hid hval
  have H := Lib.hid h
  have HT := Lib.hid ht
  rw [hval]
  obtain ⟨W, hW⟩ : ∃ W, w.alloc (.cells #[.slice v.nA n v.nc, .slice v.rA m v.rc] 29) = W := ⟨_, rfl⟩
  have HBX : Hid (Blk W w.heap.size 29 #[.slice v.nA n v.nc, .slice v.rA m v.rc]) := by subst hW; exact Blk.new w _ _
  have HBW : Hid (Below w.heap.size w W) := by subst hW; exact bal (Below.refl _ w) _
  have c0 := HBX.out.cell 0
  have c1 := HBX.out.cell 1
  simp at c0 c1
  have HC := Lib.hid (trees_any v W (h.up (Nat.le_refl _) HBW.out))
  rw [hval] at HC
  clear h ht hn hm hval
  go_enter Tryd.func21, Tryd.ntmps21
  go_wp2_with fail
  refine (HC.out).mono ?_
  rintro e w1 ⟨A, c, ts, rfl, htl, hpl, hno, hb⟩
  have HW := Lib.hid hW
  have HB1 : Hid (Below w.heap.size w w1) := HBW.out.trans (hb.mono HBW.out.size)
  have HBX1 : Hid (Blk w1 w.heap.size 29 #[.slice v.nA n v.nc, .slice v.rA m v.rc]) := HBX.out.below hb HBX.out.lt
  by_cases h0 : errP v.ns v.rs = 0
  · have HPL := Lib.hid (hpl h0)
    have HLT := Lib.hid htl.lt
    have HIFF := Lib.hid (valid_iff h0)
    have HSZ : Hid (T.sizes (ts.map TX.plain) ≤ 1000000) := by
      unfold Hid
      rw [hpl h0]
      have := (errP_zero h0).2.2
      omega
    rw [h0]
    have HCM : Hid (∀ w', Below w1.heap.size w1 w' → Calls Tryd.prog 13 #[.slice A ts.length c] w' (MakePost w' (T.puts (treesP v.ns v.rs) []).1 (T.puts (treesP v.ns v.rs) []).2)) := fun w' hb' => by
      have := make_any A c ts w' (HLT.out.up hb') HSZ.out (HT.out.below (HB1.out.trans (hb'.mono HB1.out.size)))
      rw [HPL.out] at this
      exact this
    have HCS : Hid (∀ (w' : World) (u : PkV), Below w1.heap.size w1 w' → u.ok w' w'.heap.size → Calls Tryd.prog 46 #[.agg #[.slice u.nA u.ps.length u.nc, .slice u.rA u.rs.length u.rc], .agg #[.slice v.nA n v.nc, .slice v.rA m v.rc]] w' (RetB w' (eqPk u v))) := fun w' u hb' hu => by
      have := packSame_any u v w' hu (H.out.up (Nat.le_refl _) (HB1.out.trans (hb'.mono HB1.out.size)))
      rw [HV.out] at this
      exact this
    have HCB : Hid (∀ w', Below w1.heap.size w1 w' → w'.cell? ⟨w.heap.size, 0, none⟩ = some (.slice v.nA n v.nc) ∧ w'.cell? ⟨w.heap.size, 1, none⟩ = some (.slice v.rA m v.rc)) := fun w' hb' => by
      have h1 := HBX1.out.below hb' HBX1.out.lt
      exact ⟨by rw [h1.cell]; rfl, by rw [h1.cell]; rfl⟩
    have B0 : Hid (Below w1.heap.size w1 w1.drew) := below_drewN (Below.refl _ w1) 1
    clear htl hpl hno hb hW c0 c1 h0
    go_wp2_with fail
    go_region_held3 (fun w' => w'.cell? ⟨w.heap.size, 0, none⟩ = some (.slice v.nA n v.nc) ∧ w'.cell? ⟨w.heap.size, 1, none⟩ = some (.slice v.rA m v.rc))
      (first | (with_reducible exact HCB.out _ B0.out) | (with_reducible exact HCB.out _ B5.out) | (with_reducible exact HCB.out _ B6.out))
      (first
        | (go_at_call 46; refine (HCS.out _ u5 B5.out U5.out).mono ?_; rintro e w6 ⟨bv, hv, rfl, hb6⟩; have B6 := Lib.hid (B5.out.trans (hb6.mono B5.out.size)); have HV6 := Lib.hid hv; clear hv hb6)
        | (go_at_call 13; refine (HCM.out _ B0.out).mono ?_; rintro e w5 ⟨u5, rfl, hn5, hr5, hu5, hb5⟩; unfold PkV.val; have B5 := Lib.hid (B0.out.trans (hb5.mono B0.out.size)); have U5 := Lib.hid hu5; have N5 := Lib.hid hn5; have R5 := Lib.hid hr5; clear hn5 hr5 hu5 hb5))
    all_goals
      go_wp2_with fail
      go_ret
      refine ⟨bv, ?_, rfl, HB1.out.trans (B6.out.mono HB1.out.size)⟩
      rw [HV6.out, HIFF.out]
      unfold eqPk
      rw [N5.out, R5.out]
      exact ⟨fun h => Prod.ext h.1 h.2, fun h => ⟨congrArg Prod.fst h, congrArg Prod.snd h⟩⟩
  · have HNV := Lib.hid (valid_err h0)
    obtain ⟨er, her⟩ : ∃ er, errP v.ns v.rs = er := ⟨_, rfl⟩
    rw [her] at h0 ⊢
    have d1 : (er == 0) = false := by simpa using h0
    clear htl hpl hno hb hW c0 c1 h0 her
    go_wp2_with fail
    go_quiet (fail)
    go_wp2_with fail
    go_ret
    exact ⟨false, ⟨(fun h => by cases h), fun h => absurd h HNV.out⟩, rfl, below_drewN HB1.out _⟩
end Go.Proofs.YtdabmjcpiblofaaDoor
