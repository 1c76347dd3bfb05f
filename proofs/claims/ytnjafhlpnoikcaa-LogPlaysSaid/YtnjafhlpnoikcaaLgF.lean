/-
  Open. No condition.
-/
import Derived.Test.YtnjafhlpnoikcaaLgE
import Derived.Deep.RegionHeld3
namespace Go.Proofs.Ytnjafhlpnoikcaa
open Go.RowKit
set_option linter.unusedVariables false

/-- the disk at d with the log at g on it: each with blocks of its own -/
structure Both (w : World) (g d : Nat) (s : DS) (l : LS) (F K : Nat → Prop) : Prop where
  disk : Mine w d s F
  log : LogAt w g d l K
  apart : ∀ b, F b → ¬ K b
def OpenPost (w : World) (d : Nat) (s : DS) (F : Nat → Prop) (e : Ending) (w' : World) : Prop :=
  Below w.heap.size w w' ∧ match openS s with
    | none => e = .returned (.tuple #[.pointer none, .int .i64 15])
    | some l => ∃ g K, e = .returned (.tuple #[.pointer (some ⟨g, 0, none⟩), .int .i64 0]) ∧ Both w' g d s l F K ∧ ∀ b, K b → w.heap.size ≤ b
theorem open_half {N : Nat} (h : 64 ≤ N) (h2 : N ≤ 131072) : ((N : Int) - 1) / 2 = (((N - 1) / 2 : Nat) : Int) := by omega

set_option maxRecDepth 100000 in
set_option maxHeartbeats 400000 in
theorem open_nil (w : World) : Calls Try.prog 8 #[.pointer none] w fun e w' => e = .returned (.tuple #[.pointer none, .int .i64 5]) ∧ w = w' := by
  go_enter Try.func8, Try.ntmps8
  go_wp2_with fail
  go_ret2
  exact ⟨rfl, rfl⟩

set_option maxRecDepth 100000 in
set_option maxHeartbeats 2000000 in
theorem open_any {w : World} {d : Nat} {s : DS} {F : Nat → Prop} (h : Mine w d s F) : Calls Try.prog 8 #[.pointer (some ⟨d, 0, none⟩)] w (OpenPost w d s F) := by
  have hok := h.ok
  obtain ⟨N, hN⟩ : ∃ N, s.dur.length = N := ⟨_, rfl⟩
  have hlo := hok.lo
  have hhi := hok.hi
  have hsl : (seenL s.dur s.wait).length = N := by rw [← hN]; exact seen_len _ _ hok.fit rfl
  have hsm : ∀ x ∈ seenL s.dur s.wait, x < 256 := seen_mem _ _ hok.fit hok.byt
  have HSZ := size_m d s F w h
  rw [hN] at HSZ hlo hhi
  replace HSZ := Lib.hid HSZ
  have HH := Lib.hid h
  have HN := Lib.hid hN
  have HSL := Lib.hid hsl
  have HSM := Lib.hid hsm
  obtain ⟨hf, hhf⟩ : ∃ hf, hf = (N - 1) / 2 := ⟨_, rfl⟩
  have q1 : ((N : Int) - 1) / 2 = (hf : Int) := by omega
  have q2 : ((N - 1 : Nat) : Int) / 2 = (hf : Int) := by omega
  have hfb : hf + hf + 1 ≤ N := by omega
  have hf1 : 31 ≤ hf := by omega
  have HHF := Lib.hid hhf
  have M1 := Lib.hid ((HH.out).alloc (.cells #[.iface 26 (.pointer (some ⟨d, 0, none⟩)), .int .i64 (hf : Int), .bool false, .int .i64 0, .slice none 0 0, .bool false] 62))
  have B1 := Lib.hid ((Below.refl _ w).alloc (Nat.le_refl _) (.cells #[.iface 26 (.pointer (some ⟨d, 0, none⟩)), .int .i64 (hf : Int), .bool false, .int .i64 0, .slice none 0 0, .bool false] 62))
  have G1 := Lib.hid (Blk.new w 62 #[.iface 26 (.pointer (some ⟨d, 0, none⟩)), .int .i64 (hf : Int), .bool false, .int .i64 0, .slice none 0 0, .bool false])
  clear h hok hN hsl hsm hhf
  go_enter Try.func8, Try.ntmps8
  go_wp2_with fail
  refine (HSZ.out).mono ?_
  rintro e w1 ⟨rfl, rfl⟩
  clear HSZ
  go_wp2_with fail
  have hrd := read_m d s F 0 1 _ (M1.out) (by omega)
  by_cases hoff : s.off = true
  · have hrs : readS s 0 1 = ([], 15) := by unfold readS; rw [if_pos hoff]
    rw [hrs] at hrd
    replace hrd := Lib.hid hrd
    have hop : Hid (openS s = none) := by unfold Hid openS; rw [if_pos hoff]
    clear hrs M1 G1
    refine (hrd.out).mono ?_
    rintro e w2 ⟨A, c, rfl, -, -, -, hb2⟩
    have B2 := Lib.hid ((B1.out).trans (hb2.mono (B1.out).size))
    clear hb2 hrd B1
    go_wp2_with fail
    go_ret2
    unfold OpenPost
    rw [hop.out]
    exact ⟨B2.out, rfl⟩
  · obtain ⟨b0, hb0⟩ : ∃ b0, (seenL s.dur s.wait)[0]? = some b0 := ⟨(seenL s.dur s.wait)[0]'(by rw [HSL.out]; omega), List.getElem?_eq_getElem _⟩
    have hrs : readS s 0 1 = ([b0], 0) := by
      unfold readS
      rw [if_neg hoff]
      have hin : insideB s.dur.length 0 1 = true := by unfold insideB; rw [HN.out]; simp; omega
      rw [hin]
      simp only [Bool.not_true, Bool.false_eq_true, if_false]
      have e0 : ((0 : Int)).toNat = 0 := rfl
      have e1 : ((1 : Int)).toNat = 1 := rfl
      rw [e0, e1, List.drop_zero]
      cases hs : seenL s.dur s.wait with
      | nil => rw [hs] at hb0; cases hb0
      | cons x r => rw [hs] at hb0; injection hb0 with hb0; rw [hb0]; rfl
    rw [hrs] at hrd
    replace hrd := Lib.hid hrd
    clear hrs
    refine (hrd.out).mono ?_
    rintro e w2 ⟨A, c, rfl, hr2, -, -, hb2⟩
    have B2 := Lib.hid ((B1.out).trans (hb2.mono (B1.out).size))
    have M2 := Lib.hid ((M1.out).below hb2 (Nat.le_refl _))
    have hg2 := (G1.out).below hb2 (G1.out).lt
    have G2 := Lib.hid hg2
    obtain ⟨ab, ao, u, rfl, -, hu, hcell⟩ := hr2.at1 (show 0 < [b0].length by simp)
    obtain rfl : u = .int .u8 (b0 : Int) := by simpa [byt] using hu.symm
    have c2 := hg2.cell 2
    have f2 := hg2.frozen 2
    simp at c2
    rw [Nat.add_zero] at hcell
    obtain ⟨sec, hsec⟩ : ∃ sec, ((b0 : Int) != 0) = sec := ⟨_, rfl⟩
    have hsec2 : ((seenL s.dur s.wait).getD 0 0 != 0) = sec := by
      rw [List.getD_eq_getElem?_getD, hb0, ← hsec]
      show (b0 != 0) = ((b0 : Int) != 0)
      by_cases h0 : b0 = 0
      · subst h0; rfl
      · have e1 : (b0 != 0) = true := by simpa using h0
        have e2 : ((b0 : Int) != 0) = true := by simp; omega
        rw [e1, e2]
    have HSEC := Lib.hid hsec2
    obtain ⟨W3, hW3⟩ : ∃ W3, w2.setCell ⟨w.heap.size, 2, none⟩ (.bool sec) = W3 := ⟨_, rfl⟩
    have G3 : Hid (Blk W3 w.heap.size 62 #[.iface 26 (.pointer (some ⟨d, 0, none⟩)), .int .i64 (hf : Int), .bool sec, .int .i64 0, .slice none 0 0, .bool false]) := by rw [← hW3]; exact (G2.out).set_ 2 _
    have hFg : ∀ b, F b → ¬ b = w.heap.size := fun b hF e => by have := (HH.out).lt b hF; omega
    have hch : Chg w2 W3 (fun b => b = w.heap.size) := by rw [← hW3]; exact (Chg.refl w2 (fun b => b = w.heap.size)).setCell (p := ⟨w.heap.size, 2, none⟩) (.inl rfl) _
    have M3 : Hid (Mine W3 d s F) := (M2.out).chg hch hFg
    have B3 : Hid (Below w.heap.size w W3) := by rw [← hW3]; exact (B2.out).setCell (Nat.le_refl _) _
    have L3 : Hid (LogAt W3 w.heap.size d { (⟨hf, sec, 0, [], false⟩ : LS) with recs := [], fin := 0 } (fun b => b = w.heap.size)) :=
      ⟨.slice none 0 0, [], ⟨G3.out, ⟨rfl, .inl ⟨rfl, rfl⟩⟩, rfl, (fun r hr => by cases hr), rfl, (fun b hb => by simp [Value.ownBlock] at hb), (fun b hb => by rw [hb]; exact (G3.out).lt), by show hf ≤ 65536; omega, Nat.zero_le _, Nat.le_refl _, (fun b hb => by cases hb), (fun b hb => by cases hb)⟩⟩
    have HFG := Lib.hid hFg
    have HW3 := Lib.hid hW3
    have HST := Lib.hid ((start_any (w := W3.drew) ((L3.out).below (below_drewN (Below.refl _ W3) 1)) sec).mono fun e w'' (h : _ ∧ _) => (⟨h.1, h.2.symm⟩ : _ ∧ _))
    clear hb2 hrd B1 M1 G1 hr2 hg2 hu hb0 hsec2 hW3 hch hFg M2 G2 B2
    go_wp2_with fail
    rw [HW3.out]
    have g0 := (G3.out).cell 0
    have g1 := (G3.out).cell 1
    have g2 := (G3.out).cell 2
    simp at g0 g1 g2
    clear HW3 hcell c2 f2
    obtain ⟨ar, har⟩ : ∃ ar, ar = ((seenL s.dur s.wait).drop (startS hf sec)).take hf := ⟨_, rfl⟩
    have hst1 : startS hf sec + hf ≤ N := by unfold startS; split <;> omega
    have harl : ar.length = hf := by rw [har, List.length_take, List.length_drop, HSL.out]; omega
    have hrd2 : readS s (startS hf sec : Nat) (hf : Int) = (ar, 0) := by
      unfold readS
      rw [if_neg hoff]
      have hin : insideB s.dur.length (startS hf sec : Nat) (hf : Int) = true := by unfold insideB; rw [HN.out]; simp; omega
      rw [hin]
      simp only [Bool.not_true, Bool.false_eq_true, if_false]
      rw [Int.toNat_natCast, Int.toNat_natCast, ← har]
    have HRD := read_m d s F (startS hf sec : Nat) (hf : Int) W3.drew ((M3.out).drewN 1) (by omega)
    rw [hrd2] at HRD
    replace HRD := Lib.hid HRD
    have HAR := Lib.hid har
    have HARL := Lib.hid harl
    have HG0 := Lib.hid g0
    have HG1 := Lib.hid g1
    have HG2 := Lib.hid g2
    clear hrd2 har harl
    go_region_held3 (fun w' => w'.cell? ⟨w.heap.size, 0, none⟩ = some (.iface 26 (.pointer (some ⟨d, 0, none⟩))) ∧ w'.cell? ⟨w.heap.size, 1, none⟩ = some (.int .i64 (hf : Int)) ∧ w'.cell? ⟨w.heap.size, 2, none⟩ = some (.bool sec)) (first | exact ⟨HG0.out, HG1.out, HG2.out⟩ | exact ⟨((G4.out).cell 0).trans rfl, ((G4.out).cell 1).trans rfl, ((G4.out).cell 2).trans rfl⟩) (first | (go_at_call 46; refine (HRD.out).mono ?_; rintro e w4 ⟨A4, c4, rfl, hr4, hc4, hA4, hb4⟩; have G4 := Lib.hid ((G3.out).below (B := W3.heap.size) ⟨hb4.os, hb4.tape, hb4.output, hb4.size, hb4.block⟩ (G3.out).lt); have HR4 := Lib.hid hr4; have HC4 := Lib.hid hc4; have HA4 := Lib.hid hA4; have HB4 := Lib.hid hb4; clear hr4 hc4 hA4 hb4) | (go_at_call 30; refine (HST.out).mono ?_; rintro e w5 ⟨rfl, rfl⟩))
    all_goals
      have hb34 : Below W3.heap.size W3 w4 := ⟨(HB4.out).os, (HB4.out).tape, (HB4.out).output, (HB4.out).size, (HB4.out).block⟩
      have hbs : ∀ x ∈ ar, x < 256 := fun x hx => by rw [HAR.out] at hx; exact (HSM.out) x (List.mem_of_mem_drop (List.mem_of_mem_take hx))
      have hsc := scan_any (l := ⟨hf, sec, 0, [], false⟩) (K := fun b => b = w.heap.size) (c := c4) ((L3.out).below hb34) (HARL.out) (HR4.out) (fun ad ha => by have h1 := (HA4.out) ad ha; have h2 := (G3.out).lt; intro he; have he' : ad.block = w.heap.size := he; have h1' : W3.heap.size ≤ ad.block := h1; omega) hbs (HC4.out)
      have hop : openS s = some ⟨hf, sec, (scanS ar (ar.length + 1) 0).2, (scanS ar (ar.length + 1) 0).1, false⟩ := by
        unfold openS
        rw [if_neg hoff, HN.out, ← HHF.out, HSEC.out, HARL.out, HAR.out]
      have HSC := Lib.hid hsc
      have HOP := Lib.hid hop
      have HB34 := Lib.hid hb34
      have M4 := Lib.hid ((M3.out).below hb34 (Nat.le_refl _))
      clear hb34 hbs hsc hop G4 HR4 HC4 HA4 HB4 g0 g1 g2
      go_wp2_with fail
      refine (HSC.out).mono ?_
      rintro e w5 ⟨rfl, K', hl5, hc5, hs5⟩
      have L5 := Lib.hid hl5
      have FIN : Hid (OpenPost w d s F (.returned (.tuple #[.pointer (some ⟨w.heap.size, 0, none⟩), .int .i64 0])) w5) := by
        unfold Hid OpenPost
        have hb4 : Below w.heap.size w w4 := (B3.out).trans ((HB34.out).mono (B3.out).size)
        refine ⟨hb4.trans (hc5.below hb4.size (fun i hi => by rw [hi]; exact Nat.le_refl _)), ?_⟩
        rw [HOP.out]
        refine ⟨w.heap.size, K', rfl, ⟨(M4.out).chg hc5 (HFG.out), hl5, fun b hF hK => ?_⟩, fun b hK => ?_⟩
        · have h1 := (HH.out).lt b hF
          have h4 := hb4.size
          rcases hs5 b hK with h2 | h2 <;> omega
        · have h4 := hb4.size
          rcases hs5 b hK with h2 | h2 <;> omega
      clear hl5 hc5 hs5 L5 HSC HOP
      go_wp2_with fail
      go_ret2
      exact FIN.out
end Go.Proofs.Ytnjafhlpnoikcaa
