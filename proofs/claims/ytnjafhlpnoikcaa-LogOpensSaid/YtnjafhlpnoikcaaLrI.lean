/-
  alike: both logs and both disks tell the same. No condition.
-/
import Derived.Test.YtnjafhlpnoikcaaLrH
namespace Go.Proofs.Ytnjafhlpnoikcaa
open Go.RowKit
set_option linter.unusedVariables false

theorem read_mem (s : DS) (hs : s.ok) (a n : Int) : ∀ x ∈ (readS s a n).1, x < 256 := by
  unfold readS
  split
  · simp
  · split
    · simp
    · intro x hx
      exact seen_mem _ _ hs.fit hs.byt x (List.mem_of_mem_drop (List.mem_of_mem_take hx))

set_option maxRecDepth 100000 in
set_option maxHeartbeats 8000000 in
theorem alike_any {w0 wb w : World} {B : Nat → Prop} {d g r q : Nat} {s : DS} {l : LS} (h : LLb w0 wb B w d g r q s l s l) :
    Calls Try.prog 21 #[.pointer (some ⟨d, 0, none⟩), .pointer (some ⟨g, 0, none⟩), .pointer (some ⟨q, 0, none⟩)] w fun e w' => e = .returned (.bool true) ∧ Below w.heap.size w w' := by
  obtain ⟨F, K, G, H, hD⟩ := h
  have hbo : Both w g d s l F K := hD.p
  have hro : RBoth w q r s l G H := hD.q
  have hok := hro.disk.ok
  have hlen : (s.dur.length : Int) ≤ 9223372036854775807 := by have := hok.hi; omega
  obtain ⟨v, rs, hx⟩ := hro.log
  obtain ⟨Av, cv, hv⟩ := hx.slice
  subst hv
  obtain ⟨N, hN⟩ : ∃ N, s.dur.length = N := ⟨_, rfl⟩
  have HSZ : Hid (∀ X, Below w.heap.size w X → Calls Try.prog 43 #[.pointer (some ⟨r, 0, none⟩)] X fun e w' => e = .returned (.int .i64 (N : Int)) ∧ X = w') := fun X hb => by
    rw [← hN]; exact rsize_m r s G X (hro.below hb).disk
  have HRD := Lib.hid (read_m d s F 0 (N : Int) w hbo.disk (by omega))
  have HRD1 : Hid (∀ X, Below w.heap.size w X → Calls Try.prog 42 #[.pointer (some ⟨r, 0, none⟩), .int .i64 0, .int .i64 (N : Int)] X (ReadPost X (readS s 0 (N : Int)))) := fun X hb => rread_m r s G 0 (N : Int) X (hro.below hb).disk (by omega)
  have HREC : Hid (∀ X, Below w.heap.size w X → Calls Try.prog 16 #[.pointer (some ⟨g, 0, none⟩)] X (RecsPost X l.recs)) := fun X hb => recs_m (hbo.below hb).log
  have HROOM : Hid (∀ X, Below w.heap.size w X → Calls Try.prog 35 #[.pointer (some ⟨g, 0, none⟩)] X fun e w' => e = .returned (.int .i64 (roomS l)) ∧ ∃ k, w' = X.drewN k) := fun X hb => room_any (hbo.below hb).log
  have HRROOM : Hid (∀ X, Below w.heap.size w X → Calls Try.prog 47 #[.pointer (some ⟨q, 0, none⟩)] X fun e w' => e = .returned (.int .i64 (roomS l)) ∧ ∃ k, w' = X.drewN k) := fun X hb => rroom_any (hro.below hb)
  have HDEAD : Hid (∀ X, Below w.heap.size w X → Calls Try.prog 36 #[.pointer (some ⟨g, 0, none⟩)] X fun e w' => e = .returned (.bool l.dead) ∧ X = w') := fun X hb => dead_any (hbo.below hb).log
  have HRDEAD : Hid (∀ X, Below w.heap.size w X → Calls Try.prog 48 #[.pointer (some ⟨q, 0, none⟩)] X fun e w' => e = .returned (.bool l.dead) ∧ X = w') := fun X hb => rdead_any (hro.below hb).log
  have HPEND : Hid (∀ X, Below w.heap.size w X → Calls Try.prog 49 #[.pointer (some ⟨d, 0, none⟩)] X fun e w' => e = .returned (.int .i64 s.wait.length) ∧ X = w') := fun X hb => pending_m d s F X (hbo.below hb).disk
  have HRPEND : Hid (∀ X, Below w.heap.size w X → Calls Try.prog 50 #[.pointer (some ⟨r, 0, none⟩)] X fun e w' => e = .returned (.int .i64 s.wait.length) ∧ X = w') := fun X hb => rpending_m r s G X (hro.below hb).disk
  have hrl : rs.length ≤ 65536 := by have h1 := hx.few; have h2 := hx.fin; have h3 := hx.half; have h4 := hx.len; omega
  have HSAME : Hid (∀ X A c (zs : List Rc), Below w.heap.size w X → zs.map (·.b) = l.recs → zs.length ≤ 65536 → RcR X X.heap.size A zs → Calls Try.prog 17 #[.slice A zs.length c, .slice Av rs.length cv] X (SamePost X true)) := fun X A c zs hb hz hzl hr => by
    have hx2 := hx.below hb
    have hy : RcR X X.heap.size Av rs := by
      obtain ⟨A', c', he, hrd, -⟩ := reads_of_owns hx2.own
      injection he with he
      subst he
      exact ⟨hrd, fun r hr => ⟨(hx2.good r hr).1, hx2.byte _ (by rw [← hx2.rsb]; exact List.mem_map.2 ⟨r, hr, rfl⟩)⟩⟩
    have hs := same_any (c := c) (c' := cv) hr hy (by omega) (by omega)
    have he : zs.map (·.b) = rs.map (·.b) := by rw [hz, hx2.rsb]
    rw [decide_eq_true he] at hs
    exact hs
  have HC : Hid (∀ X, Below w.heap.size w X → X.cell? ⟨q, 0, none⟩ = some (.pointer (some ⟨r, 0, none⟩)) ∧ X.cell? ⟨q, 1, none⟩ = some (.slice Av rs.length cv)) := fun X hb => by
    have hk := hx.blk.below hb hx.blk.lt
    exact ⟨by rw [hk.cell]; rfl, by rw [hk.cell]; rfl⟩
  have HQM := Lib.hid (read_mem s hok 0 (N : Int))
  obtain ⟨y, hy⟩ : ∃ y, readS s 0 (N : Int) = y := ⟨_, rfl⟩
  rw [hy] at HRD HRD1 HQM
  obtain ⟨c0, c1⟩ := (HC.out) w (Below.refl _ w)
  have hqlt := hx.blk.lt
  have BW : Hid (Below w.heap.size w w.drew) := below_drewN (Below.refl _ w) 1
  have BW0 : Hid (Below w.heap.size w w) := Below.refl _ w
  clear hD hbo hro hok hx hN hy hlen
  go_enter Try.func21, Try.ntmps21
  go_wp2_with fail
  refine (HSZ.out _ (BW0.out)).mono ?_
  rintro e w1 ⟨rfl, rfl⟩
  go_wp2_with fail
  refine (HRD.out).mono ?_
  rintro e w1 ⟨A1, k1, rfl, hr1, -, -, hb1⟩
  have B1 := Lib.hid hb1
  have HR1 := Lib.hid hr1
  have B1d : Hid (Below w.heap.size w w1.drew) := below_drewN hb1 1
  clear hb1 hr1 HRD c0 c1
  go_wp2_with fail
  go_region_held3 (fun w' => w'.cell? ⟨q, 0, none⟩ = some (.pointer (some ⟨r, 0, none⟩)) ∧ w'.cell? ⟨q, 1, none⟩ = some (.slice Av rs.length cv)) (first | exact HC.out _ B2.out | exact HC.out _ B1d.out | exact HC.out _ B1.out) (first | (go_at_call 42; refine (HRD1.out _ B1d.out).mono ?_; rintro e w2 ⟨A2, k2, rfl, hr2, -, -, hb2⟩; have B2 := Lib.hid ((B1d.out).trans (hb2.mono (B1d.out).size)); have HR2 := Lib.hid hr2; have H12 := Lib.hid hb2; clear hb2 hr2) | (go_at_call 43; refine (HSZ.out _ B1d.out).mono ?_; rintro e w2 ⟨rfl, rfl⟩))
  have hm : y.1.length = y.1.length := rfl
  have HR12 : Hid (Reads w2 w2.heap.size 1 A1 y.1.length (y.1.map byt)) := ((show Reads w1.drew w1.drew.heap.size 1 A1 y.1.length (y.1.map byt) from (HR1.out).drewN 1).below (H12.out)).more (H12.out).size
  have HR2B := Lib.hid (B2.out)
  have HCV : Hid (∀ X, Below w2.heap.size w2 X → Below w.heap.size w X ∧ X.cell? ⟨q, 0, none⟩ = some (.pointer (some ⟨r, 0, none⟩)) ∧ X.cell? ⟨q, 1, none⟩ = some (.slice Av rs.length cv) ∧ (convert 32 9 (.slice A1 y.1.length k1)).run Try.prog X = .ok (.string (str y.1)) X ∧ (convert 32 9 (.slice A2 y.1.length k2)).run Try.prog X = .ok (.string (str y.1)) X) := fun X hb => by
    have hX : Below w.heap.size w X := (HR2B.out).trans (hb.mono (HR2B.out).size)
    exact ⟨hX, (HC.out _ hX).1, (HC.out _ hX).2, run_bytes_str (P := Try.prog) _ 32 9 5 k1 Try.underlying32 Try.underlying5 Try.underlying9 (HR12.below hb) (HQM.out), run_bytes_str (P := Try.prog) _ 32 9 5 k2 Try.underlying32 Try.underlying5 Try.underlying9 ((HR2.out).below hb) (HQM.out)⟩
  have B2d : Hid (Below w2.heap.size w2 w2.drew) := below_drewN (Below.refl _ _) 1
  clear hm HR12 HR1 HR2 H12 B1 B1d
  go_wp2_with fail
  go_region_held3 (fun w' => w'.cell? ⟨q, 0, none⟩ = some (.pointer (some ⟨r, 0, none⟩)) ∧ w'.cell? ⟨q, 1, none⟩ = some (.slice Av rs.length cv) ∧ (convert 32 9 (.slice A1 y.1.length k1)).run Try.prog w' = .ok (.string (str y.1)) w' ∧ (convert 32 9 (.slice A2 y.1.length k2)).run Try.prog w' = .ok (.string (str y.1)) w') (first | exact (HCV.out _ B6.out).2 | exact (HCV.out _ B5.out).2 | exact (HCV.out _ B4.out).2 | exact (HCV.out _ B3.out).2 | exact (HCV.out _ B2d.out).2) (first | (go_at_call 50; refine (HRPEND.out _ (HCV.out _ B6.out).1).mono ?_; rintro e wp ⟨rfl, rfl⟩) | (go_at_call 49; refine (HPEND.out _ (HCV.out _ B6.out).1).mono ?_; rintro e wp ⟨rfl, rfl⟩) | (go_at_call 48; refine (HRDEAD.out _ (HCV.out _ B6.out).1).mono ?_; rintro e wp ⟨rfl, rfl⟩) | (go_at_call 36; refine (HDEAD.out _ (HCV.out _ B6.out).1).mono ?_; rintro e wp ⟨rfl, rfl⟩) | (go_at_call 47; refine (HRROOM.out _ (HCV.out _ B5.out).1).mono ?_; rintro e w6 ⟨rfl, n6, h6⟩; have B6 : Hid (Below w2.heap.size w2 w6) := (by rw [h6]; exact below_drewN B5.out n6); clear h6) | (go_at_call 35; refine (HROOM.out _ (HCV.out _ B4.out).1).mono ?_; rintro e w5 ⟨rfl, n5, h5⟩; have B5 : Hid (Below w2.heap.size w2 w5) := (by rw [h5]; exact below_drewN B4.out n5); clear h5) | (go_at_call 17; refine (HSM.out).mono ?_; rintro e w4 ⟨rfl, n4, h4⟩; have B4 : Hid (Below w2.heap.size w2 w4) := (by rw [h4]; exact below_drewN B3.out n4); clear h4) | (go_at_call 16; refine (HREC.out _ (HCV.out _ B2d.out).1).mono ?_; rintro e w3 ⟨zs, A3, k3, rfl, hz, hzl, hra, hb3⟩; have B3 := Lib.hid ((B2d.out).trans (hb3.mono (B2d.out).size)); have HSM := Lib.hid (HSAME.out w3 A3 k3 zs (HCV.out _ B3.out).1 hz hzl hra.rcr); clear hz hzl hra hb3))
  all_goals
    go_wp2_with fail
    go_ret
    exact ⟨rfl, (HCV.out _ B6.out).1⟩
end Go.Proofs.Ytnjafhlpnoikcaa
