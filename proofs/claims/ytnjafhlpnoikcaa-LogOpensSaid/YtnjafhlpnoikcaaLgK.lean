/-
  awake of the log. No condition.
-/
import Derived.Test.YtnjafhlpnoikcaaLgJ
import Derived.Lib.SlBytesConst
namespace Go.Proofs.Ytnjafhlpnoikcaa
open Go.RowKit
set_option linter.unusedVariables false

/-- from the law's first world on: a disk and a log of the law's own -/
structure LB (w0 w : World) (g d : Nat) (s : DS) (l : LS) (F K : Nat → Prop) : Prop where
  both : Both w g d s l F K
  own : ∀ b, F b ∨ K b → w0.heap.size ≤ b
  bel : Below w0.heap.size w0 w
section
variable {w0 w w' : World} {g d : Nat} {s s' : DS} {l : LS} {F K : Nat → Prop}
theorem Both.below (h : Both w g d s l F K) (hb : Below w.heap.size w w') : Both w' g d s l F K := ⟨h.disk.below hb (Nat.le_refl _), h.log.below hb, h.apart⟩
theorem LB.below (h : LB w0 w g d s l F K) (hb : Below w.heap.size w w') : LB w0 w' g d s l F K := ⟨h.both.below hb, h.own, h.bel.trans (hb.mono h.bel.size)⟩
theorem LB.alloc (h : LB w0 w g d s l F K) (o : Obj) : LB w0 (w.alloc o) g d s l F K := h.below ((Below.refl _ w).alloc (Nat.le_refl _) o)
theorem LB.app {r : Int × DS × LS} {e : Ending} (h : LB w0 w g d s l F K) (ha : AppPost w g d F K r e w') : e = .returned (.int .i64 r.1) ∧ ∃ F' K', LB w0 w' g d r.2.1 r.2.2 F' K' := by
  obtain ⟨he, F', K', h1, h2, h3⟩ := ha
  have hs := h.bel.size
  refine ⟨he, F', K', h1, fun b hb => ?_, h.bel.trans (h2.below hs h.own)⟩
  rcases h3 b hb with h4 | h4
  · exact h.own b h4
  · omega
theorem LB.op (h : LB w0 w g d s l F K) (ho : OpPost w d s' F w') : ∃ F', LB w0 w' g d s' l F' K := by
  obtain ⟨F', h1, h2, h3⟩ := ho
  have hs := h.bel.size
  obtain ⟨v, rs, hx⟩ := h.both.log
  refine ⟨F', ⟨h1, LogAt.chg ⟨v, rs, hx⟩ h2 (fun i hK hF => h.both.apart i hF hK), fun i hF hK => ?_⟩, fun b hb => ?_, h.bel.trans (h2.below hs (fun i hF => h.own i (.inl hF)))⟩
  · rcases h3 i hF with h4 | h4
    · exact h.both.apart i h4 hK
    · have := hx.lt i hK; omega
  · rcases hb with hb | hb
    · rcases h3 b hb with h4 | h4
      · exact h.own b (.inl h4)
      · omega
    · exact h.own b (.inr hb)
/-- a slice that was just made is no block of the disk or the log -/
theorem LB.fresh {n : Nat} (h : LB w0 w g d s l F K) : 0 < n → ∀ ad, some (⟨w.heap.size, 0, none⟩ : Addr) = some ad → ¬ F ad.block ∧ ¬ K ad.block := fun _ ad e => by
  injection e with e
  obtain ⟨v, rs, hx⟩ := h.both.log
  rw [← e]
  exact ⟨fun hF => absurd (h.both.disk.lt _ hF) (Nat.lt_irrefl _), fun hK => absurd (hx.lt _ hK) (Nat.lt_irrefl _)⟩
end
def lg0 : LS := ⟨31, false, 0, [], false⟩
def lg1 : LS := ⟨31, false, 8, [[97, 98, 99]], false⟩
def lg3 : LS := ⟨31, false, 8, [[97, 98, 99]], true⟩
def lg4 : LS := ⟨31, false, 14, [[97, 98, 99], [100]], false⟩
def sg1 : DS := (appS (newS 64) lg0 [97, 98, 99]).2.1
def sg2 : DS := fuseS sg1 3
def sg3 : DS := (appS sg2 lg1 [100]).2.1
def sg4 : DS := crashS sg3 [true] 0
theorem aw1 : openS (newS 64) = some lg0 := by kernel_rfl
theorem aw2 : appS (newS 64) lg0 [97, 98, 99] = (0, sg1, lg1) := by kernel_rfl
theorem aw3 : roomS lg1 = 17 := by kernel_rfl
theorem aw4 : appS sg2 lg1 [100] = (15, sg3, lg3) := by kernel_rfl
theorem aw5 : openS sg4 = some lg4 := by kernel_rfl
theorem aw6 : (newS 64).dur.length = 64 := by kernel_rfl
theorem aw7 : sg2.dur.length = 64 := by kernel_rfl

theorem bytes_newM (w : World) (l : List Nat) (fr : Nat × Nat) : Reads (w.alloc (.cells (l.map byt).toArray 5 fr)) (w.alloc (.cells (l.map byt).toArray 5 fr)).heap.size 1 (some ⟨w.heap.size, 0, none⟩) l.length (l.map byt) :=
  ⟨by simp, fun _ => ⟨_, rfl, by simp, fun j u hu => by
    rw [Addr.add_lit, cell_of_row _ _ _ _ 5 fr (heap_alloc_new w _)]
    simpa using hu⟩⟩
def AwPost (w : World) (e : Ending) (w' : World) : Prop := e = .returned (.bool true) ∧ Below w.heap.size w w'
set_option maxRecDepth 100000 in
set_option maxHeartbeats 4000000 in
theorem awake_any (w : World) : Calls Try.prog 13 #[] w (AwPost w) := by
  have HN := Lib.hid (new_m 64 w (by omega) (by omega))
  have hcv := fun (W : World) (C : Array Value) (n c : Nat) => Lib.run_convert_bytes_const (P := Try.prog) W 32 5 C n c Try.underlying32 Try.underlying5
  go_enter Try.func13, Try.ntmps13
  go_wp2_with fail
  refine (HN.out).mono ?_
  rintro e w1 ⟨d, F, rfl, hm, hF, hb⟩
  have HO := Lib.hid (open_any hm)
  have HF := Lib.hid hF
  have HB1 := Lib.hid hb
  clear hm hF hb HN
  go_wp2_with fail
  refine (HO.out).mono ?_
  rintro e w2 ⟨hb2, ho⟩
  rw [aw1] at ho
  obtain ⟨g, K, rfl, hbo, hK⟩ := ho
  have L2 : Hid (LB w w2 g d (newS 64) lg0 F K) := ⟨hbo, fun b hb => by
    rcases hb with hb | hb
    · exact (HF.out) b hb
    · have h1 := hK b hb; have h2 := (HB1.out).size; omega, (HB1.out).trans (hb2.mono (HB1.out).size)⟩
  have HA := app_any (c := 3) ((L2.out).alloc (.cells #[.int .u8 97, .int .u8 98, .int .u8 99] 5 (3, 4))).both (by rw [aw6]; decide) (by simp) (bytes_newM w2 [97, 98, 99] (3, 4)) (L2.out).fresh (by simp)
  rw [aw2] at HA
  replace HA := Lib.hid HA
  clear hb2 hbo hK HO
  go_wp2_with fail
  refine (HA.out).mono ?_
  intro e w3 ha
  obtain ⟨rfl, F3, K3, h3⟩ := ((L2.out).alloc _).app ha
  have L3 := Lib.hid h3
  have HR := room_any h3.both.log
  rw [aw3] at HR
  replace HR := Lib.hid HR
  clear ha h3 HA L2
  go_wp2_with fail
  refine (HR.out).mono ?_
  rintro e w4 ⟨rfl, q4, rfl⟩
  have L4 := Lib.hid ((L3.out).below (below_drewN (Below.refl _ w3) q4))
  have HU := Lib.hid (fuse_m d sg1 F3 3 _ (L4.out).both.disk (by omega))
  clear L3 HR
  go_wp2_with fail
  refine (HU.out).mono ?_
  rintro e w5 ⟨rfl, ho⟩
  obtain ⟨F5, h5⟩ := (L4.out).op ho
  have L5 := Lib.hid h5
  have HA := app_any (c := 1) (s := sg2) (l := lg1) ((L5.out).alloc (.cells #[.int .u8 100] 5 (1, 2))).both (by rw [aw7]; decide) (by simp) (bytes_newM w5 [100] (1, 2)) (L5.out).fresh (by simp)
  rw [aw4] at HA
  replace HA := Lib.hid HA
  clear ho h5 HU L4
  go_wp2_with fail
  refine (HA.out).mono ?_
  intro e w6 ha
  obtain ⟨rfl, F6, K6, h6⟩ := ((L5.out).alloc _).app ha
  have L6 := Lib.hid h6
  have HD := Lib.hid (dead_any h6.both.log)
  clear ha h6 HA L5
  go_wp2_with fail
  refine (HD.out).mono ?_
  rintro e w7 ⟨rfl, rfl⟩
  have HK : Reads (w6.alloc (.cells #[.bool true] 4)) (w6.alloc (.cells #[.bool true] 4)).heap.size 1 (some ⟨w6.heap.size, 0, none⟩) 1 ([true].map Value.bool) := ⟨rfl, fun _ => ⟨_, rfl, by simp, fun j u hu => by
    rw [Addr.add_lit, (Blk.new w6 4 #[.bool true]).cell]
    simpa using hu⟩⟩
  have HC := Lib.hid (crash_m d sg3 F6 (some ⟨w6.heap.size, 0, none⟩) 1 [true] 0 _ ((L6.out).alloc (.cells #[.bool true] 4)).both.disk (by simp) HK (fun hn ad e => ((L6.out).fresh hn ad e).1))
  clear HK HD
  go_wp2_with fail
  refine (HC.out).mono ?_
  rintro e w8 ⟨rfl, ho⟩
  obtain ⟨F8, h8⟩ := ((L6.out).alloc _).op ho
  have L8 := Lib.hid h8
  have HO := Lib.hid (open_any (s := sg4) h8.both.disk)
  clear ho h8 HC L6
  go_wp2_with fail
  refine (HO.out).mono ?_
  rintro e w9 ⟨hb9, ho⟩
  rw [aw5] at ho
  obtain ⟨g9, K9, rfl, hbo, -⟩ := ho
  have B9 := Lib.hid ((L8.out).bel.trans (hb9.mono (L8.out).bel.size))
  have HRC := Lib.hid (records_any hbo.log)
  clear hb9 hbo HO L8
  go_wp2_with fail
  refine (HRC.out).mono ?_
  rintro e w10 ⟨rs, hrs, rs', rfl, hC⟩
  have hl : rs.length = 2 := by have := congrArg List.length hrs; simpa [lg4] using this
  have B10 := Lib.hid ((B9.out).trans (hC.bel.mono (B9.out).size))
  rw [hl]
  clear hC hrs hl HRC
  go_wp2_with fail
  go_ret
  exact ⟨rfl, B10.out⟩
end Go.Proofs.Ytnjafhlpnoikcaa
