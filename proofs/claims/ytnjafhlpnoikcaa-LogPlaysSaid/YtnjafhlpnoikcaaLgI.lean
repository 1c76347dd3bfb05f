/-
  Append. No condition.
-/
import Derived.Test.YtnjafhlpnoikcaaLgHa
import Derived.Test.YtnjafhlpnoikcaaLgHb
namespace Go.Proofs.Ytnjafhlpnoikcaa
open Go.RowKit
set_option linter.unusedVariables false

theorem add_any {w : World} {g d : Nat} {s : DS} {l : LS} {F K : Nat → Prop} {A : Option Addr} {c : Nat} {b : List Nat} (h : Both w g d s l F K) (hN : 2 * l.half + 1 ≤ s.dur.length) (hroom : l.fin + 6 + b.length ≤ l.half) (hr : Reads w w.heap.size 1 A b.length (b.map byt)) (hA : 0 < b.length → ∀ ad, A = some ad → ¬ F ad.block) (hb : ∀ x ∈ b, x < 256) :
    Calls Try.prog 37 #[.pointer (some ⟨g, 0, none⟩), .slice A b.length c] w (AddPost w g d l F K (addS s l b)) := by
  by_cases hz : s.off = true ∨ (seenL s.dur s.wait).getD l.at_ 0 = 0
  · exact add_a h hN hroom hr hA hb hz
  · exact add_b h hN hroom hr hA hb ⟨by cases ho : s.off with | false => rfl | true => exact absurd (.inl ho) hz, fun h0 => hz (.inr h0)⟩

def AppPost (w : World) (g d : Nat) (F K : Nat → Prop) (r : Int × DS × LS) (e : Ending) (w' : World) : Prop :=
  e = .returned (.int .i64 r.1) ∧ ∃ F' K', Both w' g d r.2.1 r.2.2 F' K' ∧ Chg w w' (fun i => F i ∨ K i) ∧ ∀ i, F' i ∨ K' i → (F i ∨ K i) ∨ w.heap.size ≤ i
theorem chg_undrew {w w' : World} {M : Nat → Prop} {q : Nat} (h : Chg (w.drewN q) w' M) : Chg w w' M := ⟨h.os, h.tape, h.output, h.size, h.block⟩
theorem Chg.union {w w1 w2 : World} {M N S : Nat → Prop} (h : Chg w w1 M) (k : Chg w1 w2 N) (h1 : ∀ i, M i → S i) (h2 : ∀ i, i < w.heap.size → N i → S i) : Chg w w2 S :=
  ⟨k.os.trans h.os, k.tape.trans h.tape, k.output.trans h.output, Nat.le_trans h.size k.size, fun i hi hn => (k.block i (Nat.lt_of_lt_of_le hi h.size) (fun hN => hn (h2 i hi hN))).trans (h.block i hi (fun hM => hn (h1 i hM)))⟩

set_option maxRecDepth 100000 in
set_option maxHeartbeats 4000000 in
theorem app_any {w : World} {g d : Nat} {s : DS} {l : LS} {F K : Nat → Prop} {A : Option Addr} {c : Nat} {b : List Nat} (h : Both w g d s l F K) (hN : 2 * l.half + 1 ≤ s.dur.length) (hbl : b.length ≤ 1000000000) (hr : Reads w w.heap.size 1 A b.length (b.map byt)) (hA : 0 < b.length → ∀ ad, A = some ad → ¬ F ad.block ∧ ¬ K ad.block) (hb : ∀ x ∈ b, x < 256) :
    Calls Try.prog 14 #[.pointer (some ⟨g, 0, none⟩), .slice A b.length c] w (AppPost w g d F K (appS s l b)) := by
  obtain ⟨v0, rs0, hx0⟩ := h.log
  have c1 := hx0.blk.cell 1
  have c3 := hx0.blk.cell 3
  have c5 := hx0.blk.cell 5
  have hhalf := hx0.half
  have hfin := hx0.fin
  simp at c1 c3 c5
  have happ : appS s l b = if l.dead then (15, s, l) else if l.half < l.fin + 6 + b.length then (17, s, l) else if (addS s l b).1 = 0 then (0, (addS s l b).2, { l with recs := l.recs ++ [b], fin := l.fin + 5 + b.length }) else ((addS s l b).1, (addS s l b).2, { l with dead := true }) := rfl
  have same : ∀ x q, AppPost w g d F K (x, s, l) (.returned (.int .i64 x)) (w.drewN q) := fun x q =>
    ⟨rfl, F, K, ⟨h.disk.drewN q, h.log.below (below_drewN (Below.refl _ w) q), h.apart⟩, (Chg.refl w _).drewN q, fun i hi => .inl hi⟩
  have SAME := Lib.hid same
  clear same
  by_cases hdead : l.dead = true
  · rw [if_pos hdead] at happ
    replace happ := Lib.hid happ
    rw [hdead] at c5
    clear h hr hA hb hx0
    go_enter Try.func14, Try.ntmps14
    go_wp2_with fail
    go_ret
    rw [happ.out]
    exact SAME.out 15 0
  · have hd' : l.dead = false := by cases hd : l.dead with | false => rfl | true => exact absurd hd hdead
    rw [if_neg hdead] at happ
    rw [hd'] at c5
    by_cases hfull : l.half < l.fin + 6 + b.length
    · rw [if_pos hfull] at happ
      replace happ := Lib.hid happ
      have df : decide ((l.half : Int) < (l.fin : Int) + 6 + (b.length : Int)) = true := by simp; omega
      clear h hr hA hb hx0
      go_enter Try.func14, Try.ntmps14
      go_wp2_with fail
      go_quiet (fail)
      go_wp2_with fail
      go_ret
      rw [happ.out]
      exact SAME.out 17 _
    · rw [if_neg hfull] at happ
      have df : decide ((l.half : Int) < (l.fin : Int) + 6 + (b.length : Int)) = false := by simp; omega
      have HADD : Hid (∀ q, Calls Try.prog 37 #[.pointer (some ⟨g, 0, none⟩), .slice A b.length c] (w.drewN q) (AddPost (w.drewN q) g d l F K (addS s l b))) := fun q =>
        add_any ⟨h.disk.drewN q, h.log.below (below_drewN (Below.refl _ w) q), h.apart⟩ hN (by omega) hr (fun hn ad ha => (hA hn ad ha).1) hb
      generalize addS s l b = ra at happ HADD
      obtain ⟨xa, sa⟩ := ra
      simp only at happ HADD
      by_cases h0 : xa = 0
      · subst h0
        rw [if_pos rfl] at happ
        replace happ := Lib.hid happ
        have HR := Lib.hid hr
        have HAA := Lib.hid hA
        have HB := Lib.hid hb
        obtain ⟨i0, hi0, hz0, hz1, hz2⟩ := info_parts slices_info
        have HI0 := Lib.hid hi0
        have HZ0 := Lib.hid hz0
        have HZ1 := Lib.hid hz1
        have HZ2 := Lib.hid hz2
        clear h hr hA hb hx0 hi0 hz0 hz1 hz2
        go_enter Try.func14, Try.ntmps14
        go_wp2_with fail
        go_quiet (fail)
        go_wp2_with fail
        refine (HADD.out _).mono ?_
        rintro e wq ⟨rfl, Fa, hbo, hca, hsa⟩
        simp only [if_true] at hbo
        have hla : LogAt wq g d l K := hbo.log
        obtain ⟨v, rs, hx⟩ := hla
        obtain ⟨Av, cv, hv⟩ := hx.slice
        subst hv
        have RX := Lib.hid hx
        have c4q := hx.blk.cell 4
        have f4q := hx.blk.frozen 4
        have c3q := hx.blk.cell 3
        have f3q := hx.blk.frozen 3
        simp at c4q c3q
        have hrq : Reads wq w.heap.size 1 A b.length (b.map byt) := ((HR.out).drewN nq).chg0 hca (Nat.le_refl _) (fun hn ad ha hu => by
          rcases hu with hu | hu
          · exact ((HAA.out) hn ad ha).1 hu
          · exact ((HAA.out) hn ad ha).2 hu)
        have hrs : rs.length ≤ 65536 := by have h1 := hx.few; have h4 := hx.len; omega
        have HCL := Lib.hid (clone_any A c w.heap.size b wq.drew hbl hrq hca.size)
        have HO1 := Lib.hid hx.own
        have BO := Lib.hid hbo
        have CA := Lib.hid hca
        have SA := Lib.hid hsa
        clear hx hbo hca hsa hrq HADD c1 c3 c5
        go_wp2_with fail
        go_region_law (first
          | (refine step_call rfl 34 _ _ rfl Try.func34 (by kernel_rfl) (by kernel_rfl) #[.slice A b.length c] (by first | (simp [Act.eval]; done) | (simp [Act.eval, Act.put]; done)) HCL.out ?_; rintro e' w2 ⟨A2, q2, rfl, hr2, hA2, hcp2, hb2'⟩; refine ⟨_, rfl, ?_⟩; have hb2 : Below wq.heap.size wq w2 := ⟨hb2'.os, hb2'.tape, hb2'.output, hb2'.size, hb2'.block⟩; have hk2 := (RX.out).blk.below hb2 (RX.out).blk.lt; have k2 : w2.cell? ⟨g, 4, none⟩ = some (.slice Av rs.length cv) := (by rw [hk2.cell]; rfl); have hlt2 : g < w2.heap.size := hk2.lt; have HB2 := Lib.hid hb2; have HR2 := Lib.hid hr2; have HA2 := Lib.hid hA2; have HO2 := Lib.hid (owns_below HO1.out hb2 (own_lt HO1.out)); clear hr2 hA2 hb2 hb2' hk2 hcp2)
          | (refine step_append_row _ rfl (.tmp 33) (.tmp 36) 35 35 rfl 0 32 i0 (.slice none 0 0) 1 24 Try.underlying35 HI0.out HZ0.out HZ1.out HZ2.out rfl (by decide) (.slice Av rs.length cv) rs.length (rs.flatMap rcell) (by simp [Act.eval]) (HO2.out.alloc _) (.slice (some ⟨w2.heap.size, 0, none⟩) 1 1) 1 [.slice A2 b.length q2] (by simp [Act.eval]) (src_new w2 Try.underlying35 [.slice A2 b.length q2] 1 1 1 32 rfl (by intro u hu; simp at hu; subst hu; rfl)) (by unfold maxLen; omega) (by omega) (by omega) ?_; intro v3 w3 hown3 hg3; obtain ⟨A3, q3, rfl, -, -⟩ := reads_of_owns hown3; have hk3 := hg3.blk (((RX.out).blk.below HB2.out (RX.out).blk.lt).alloc _) (own_blk_ne HO1.out (RX.out).blk (by decide)); have k3 : w3.cell? ⟨g, 4, none⟩ = some (.slice Av rs.length cv) := (by rw [hk3.cell]; rfl); have l3 := hk3.frozen 4; have k33 : w3.cell? ⟨g, 3, none⟩ = some (.int .i64 (l.fin : Int)) := (by rw [hk3.cell]; rfl); have l33 := hk3.frozen 3; have HO3 := Lib.hid hown3; have HG3 := Lib.hid hg3; clear hown3 hg3 hk3))
        all_goals
          have hP := rec_push (fin' := l.fin + 5 + b.length) (RX.out) (HB2.out) (HR2.out) (fun ad ha => ((HA2.out) ad ha).1) (HB.out) (by omega) (HG3.out) (HO3.out) (by omega) (by omega)
          have hcast : ((l.fin + 5 + b.length : Nat) : Int) = (l.fin : Int) + (5 + (b.length : Int)) := by omega
          rw [hcast] at hP
          have FIN : Hid (∀ q, AppPost w g d F K (0, sa, { l with recs := l.recs ++ [b], fin := l.fin + 5 + b.length }) (.returned (.int .i64 0)) (((w3.setCell ⟨g, 4, none⟩ (.slice A3 (rs.length + 1) q3)).setCell ⟨g, 3, none⟩ (.int .i64 ((l.fin : Int) + (5 + (b.length : Int))))).drewN q)) := fun q => by
            have hs1 := (CA.out).size
            have hs1' : w.heap.size ≤ wq.heap.size := hs1
            refine ⟨rfl, Fa, fun i => K i ∨ (wq.heap.size ≤ i ∧ i < w3.heap.size), ⟨((BO.out).disk.chg hP.2 (fun i hF hK => (BO.out).apart i hF hK)).drewN q, LogAt.below ⟨_, _, hP.1⟩ (below_drewN (Below.refl _ _) q), fun i hF hK => ?_⟩, ?_, fun i hi => ?_⟩
            · have h1 := (BO.out).disk.lt i hF
              rcases hK with hK | hK
              · exact (BO.out).apart i hF hK
              · omega
            · exact Chg.drewN (Chg.union (S := fun i => F i ∨ K i) (chg_undrew (CA.out)) hP.2 (fun i hi => hi) (fun i _ hK => .inr hK)) q
            · rcases hi with hi | hi | hi
              · rcases (SA.out) i hi with h1 | h1
                · exact .inl (.inl h1)
                · exact .inr h1
              · exact .inl (.inr hi)
              · exact .inr (by omega)
          clear hP HO3 HG3 HB2 HR2 HA2 HO2 RX HCL BO CA SA
          go_wp2_with fail
          go_ret
          rw [happ.out]
          exact FIN.out 0
      · rw [if_neg h0] at happ
        replace happ := Lib.hid happ
        have dx := bne_true h0
        have HBO := Lib.hid h
        clear h hr hA hb hx0
        go_enter Try.func14, Try.ntmps14
        go_wp2_with fail
        go_quiet (fail)
        go_wp2_with fail
        refine (HADD.out _).mono ?_
        rintro e wq ⟨rfl, Fa, hbo, hca, hsa⟩
        simp only [if_neg h0] at hbo
        have BO := Lib.hid hbo
        have CA := Lib.hid hca
        have SA := Lib.hid hsa
        clear hbo hca hsa HADD c1 c3 c5
        go_wp2_with fail
        go_ret
        rw [happ.out]
        refine ⟨rfl, Fa, K, BO.out, ⟨(CA.out).os, (CA.out).tape, (CA.out).output, (CA.out).size, (CA.out).block⟩, fun i hi => ?_⟩
        rcases hi with hi | hi
        · rcases (SA.out) i hi with h1 | h1
          · exact .inl (.inl h1)
          · exact .inr h1
        · exact .inl (.inr hi)
end Go.Proofs.Ytnjafhlpnoikcaa
