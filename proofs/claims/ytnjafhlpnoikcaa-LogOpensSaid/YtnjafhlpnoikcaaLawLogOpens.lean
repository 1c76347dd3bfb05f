/-
  LogOpens: for every input the law returns true, and its arguments are as they were. No condition beside the given statement's own.
-/
import Derived.Test.YtnjafhlpnoikcaaLrI
namespace Go.Proofs.Ytnjafhlpnoikcaa.logOpens
open Go.ChangeShapes Go.WideShapes Go.ChangeAt Go.RowKit
open Go.ChangeMaps (open_string shut_string)
set_option linter.unusedVariables false

theorem write_on {s : DS} (a : Int) (b : List Nat) (h1 : s.off = false) (h2 : s.fuse = none) : (writeS s a b).2.off = false ∧ (writeS s a b).2.fuse = none := by
  have h3 : spendS s = (true, s) := by unfold spendS; rw [h2]
  unfold writeS
  rw [h1, h3]
  simp only [Bool.false_eq_true, if_false, if_true]
  split
  · exact ⟨h1, h2⟩
  · split
    · exact ⟨h1, h2⟩
    · exact ⟨h1, h2⟩
theorem open_on {s : DS} (h : s.off = false) : ∃ l, openS s = some l := by
  unfold openS
  rw [h]
  exact ⟨_, rfl⟩

set_option maxRecDepth 100000 in
set_option maxHeartbeats 4000000 in
theorem walk (r0 r1 : Rc) (oth : Bool) (w : World) (G0 : GoodR w r0) (G1 : GoodR w r1) :
    Calls Try.prog 5 #[.slice r0.A r0.b.length r0.c, .slice r1.A r1.b.length r1.c, .bool oth] w fun e w' => e = .returned (.bool true) ∧ Below w.heap.size w w' := by
  have HA := fun W => Lib.hid (awake_any W)
  obtain ⟨n0, hn0⟩ : ∃ n, r0.b.length = n := ⟨_, rfl⟩
  obtain ⟨n1, hn1⟩ : ∃ n, r1.b.length = n := ⟨_, rfl⟩
  have hs0 := G0.small
  have hs1 := G1.small
  rw [hn0] at hs0
  rw [hn1] at hs1
  rw [hn0, hn1]
  by_cases hbig : 200 < n0 ∨ 100 < n1
  · have hd : decide ((200 : Int) < (n0 : Int)) = true ∨ (decide ((200 : Int) < (n0 : Int)) = false ∧ decide ((100 : Int) < (n1 : Int)) = true) := by simp; omega
    clear hbig hn0 hn1 G0 G1
    rcases hd with d1 | ⟨d1, d2⟩
    all_goals
      go_enter Try.func5, Try.ntmps5
      go_wp2_with fail
      refine ((HA _).out).mono ?_
      rintro e w1 ⟨rfl, hb⟩
      have HB := Lib.hid hb
      clear hb HA
      go_wp2_with fail
      go_ret
      exact ⟨rfl, HB.out⟩
  · have d1 : decide ((200 : Int) < (n0 : Int)) = false := by simp; omega
    have d2 : decide ((100 : Int) < (n1 : Int)) = false := by simp; omega
    have hcap0 := G0.cap
    rw [hn0] at hcap0
    obtain ⟨q, hqA, hqc, hqg, hqb⟩ : ∃ q : Rc, q.A = r0.A ∧ q.c = r0.c ∧ GoodR w q ∧ ((min (n0 : Int) 50 = (n0 : Int) ∧ q.b.length = n0 ∧ n0 ≤ r0.c) ∨ ((50 : Int) < (n0 : Int) ∧ min (n0 : Int) 50 = 50 ∧ q.b.length = 50 ∧ 50 ≤ r0.c)) := by
      by_cases h50 : n0 ≤ 50
      · exact ⟨r0, rfl, rfl, G0, .inl ⟨by omega, hn0, hcap0⟩⟩
      · exact ⟨r0.cut 50, rfl, rfl, G0.cut 50, .inr ⟨by omega, by omega, by show (r0.b.take 50).length = 50; rw [List.length_take]; omega, by omega⟩⟩
    have hql : q.b.length ≤ 1000000000 := by rcases hqb with ⟨_, h, _⟩ | ⟨_, _, h, _⟩ <;> omega
    have HWR : Hid (∀ X d r s t (a : Int), DD w X d r s t → Calls Try.prog 12 #[.pointer (some ⟨d, 0, none⟩), .int .i64 a, .slice r0.A q.b.length r0.c] X fun e w' => e = .returned (.int .i64 (writeS s a q.b).1) ∧ DD w w' d r (writeS s a q.b).2 t) := fun X d r s t a h => by
      rw [← hqA, ← hqc]; exact h.write a hql hqg.read hqg.byte
    have HRWR : Hid (∀ X d r s t (a : Int), DD w X d r s t → Calls Try.prog 19 #[.pointer (some ⟨r, 0, none⟩), .int .i64 a, .slice r0.A q.b.length r0.c] X fun e w' => e = .returned (.int .i64 (writeS t a q.b).1) ∧ DD w w' d r s (writeS t a q.b).2) := fun X d r s t a h => by
      rw [← hqA, ← hqc]; exact h.rwrite a hql hqg.read hqg.byte
    have HAP : Hid (∀ X d g r q' s l t m, LL w X d g r q' s l t m → 2 * l.half + 1 ≤ s.dur.length → Calls Try.prog 14 #[.pointer (some ⟨g, 0, none⟩), .slice r1.A n1 r1.c] X fun e w' => e = .returned (.int .i64 (appS s l r1.b).1) ∧ LL w w' d g r q' (appS s l r1.b).2.1 (appS s l r1.b).2.2 t m) := fun X d g r q' s l t m h hN => by
      rw [← hn1]; exact h.app hN (by omega) G1.read G1.byte
    have HRAP : Hid (∀ X d g r q' s l t m, LL w X d g r q' s l t m → Calls Try.prog 22 #[.pointer (some ⟨q', 0, none⟩), .slice r1.A n1 r1.c] X fun e w' => e = .returned (.int .i64 (appS t m r1.b).1) ∧ LL w w' d g r q' s l (appS t m r1.b).2.1 (appS t m r1.b).2.2) := fun X d g r q' s l t m h => by
      rw [← hn1]; exact h.rapp (by omega) G1.read G1.byte
    have HN := Lib.hid (new_m 101 w (by omega) (by omega))
    have HRN := Lib.hid (fun X => rnew_m 101 X (by omega) (by omega))
    clear hbig hn0 hn1 G0 G1 hqA hqc hqg hcap0 hql
    have hat : ∀ a : Nat, (a : Int).toNat = a := fun a => Int.toNat_natCast a
    clear hat
    rcases hqb with ⟨e1, e2, e3⟩ | ⟨e0, e1, e2, e3⟩
    all_goals
      rw [e2] at HWR HRWR
      clear e2
      go_enter Try.func5, Try.ntmps5
      go_wp2_with fail
      refine (HN.out).mono ?_
      rintro e w1 ⟨d, F, rfl, hm, hF, hb⟩
      have K1 := Lib.hid (And.intro hm (And.intro hF hb))
      clear hm hF hb HN
      go_wp2_with fail
      refine (HRN.out _).mono ?_
      rintro e w2 ⟨r, G, rfl, hm2, hG, hb2⟩
      have D2 : Hid (DD w w2 d r (newS 101) (newS 101)) := (DDb.make (K1.out).1 (K1.out).2.1 (K1.out).2.2 hm2 hG hb2)
      have ON2 : Hid ((newS 101).off = false ∧ (newS 101).fuse = none) := ⟨rfl, rfl⟩
      clear hm2 hG hb2 HRN K1
      generalize newS 101 = sx at D2 ON2
      cases oth
      go_wp2_with fail
      refine (HWR.out _ _ _ _ _ _ D2.out).mono ?_
      rintro e w3 ⟨rfl, hd3⟩
      have D3 := Lib.hid hd3
      clear hd3 D2
      go_wp2_with fail
      refine (HRWR.out _ _ _ _ _ _ D3.out).mono ?_
      rintro e w4 ⟨rfl, hd4⟩
      have D4 := Lib.hid hd4
      have ON4 := Lib.hid (write_on 1 q.b (ON2.out).1 (ON2.out).2)
      clear hd4 D3 ON2
      generalize writeS sx 1 q.b = y4 at D4 ON4 ⊢
      rotate_left
      go_wp2_with fail
      have S1 : Hid (∀ X : World, Below X.heap.size X (X.alloc (.cells #[.int .u8 7] 5)) ∧ Reads (X.alloc (.cells #[.int .u8 7] 5)) (X.alloc (.cells #[.int .u8 7] 5)).heap.size 1 (some ⟨X.heap.size, 0, none⟩) ([7] : List Nat).length (([7] : List Nat).map byt)) := fun X => ⟨(Below.refl _ X).alloc (Nat.le_refl _) _, bytes_new X [7]⟩
      refine (DDb.writeN (c := 1) (b := [7]) 0 D2.out (by decide) ((S1.out) _).1 ((S1.out) _).2 (fun _ ad ha => by injection ha with ha; rw [← ha]; exact Nat.le_refl _) (by simp)).mono ?_
      rintro e w3 ⟨rfl, hd3⟩
      have D3 := Lib.hid hd3
      clear hd3 D2
      go_wp2_with fail
      refine (DDb.rwriteN (c := 1) (b := [7]) 0 D3.out (by decide) ((S1.out) _).1 ((S1.out) _).2 (fun _ ad ha => by injection ha with ha; rw [← ha]; exact Nat.le_refl _) (by simp)).mono ?_
      rintro e w4 ⟨rfl, hd4⟩
      have D2 := Lib.hid hd4
      have ON3 := Lib.hid (write_on 0 [7] (ON2.out).1 (ON2.out).2)
      clear hd4 D3 ON2 S1
      have ON2 := ON3
      clear ON3
      generalize w4 = w2 at D2 ⊢
      generalize writeS sx 0 [7] = y3 at D2 ON2 ⊢
      obtain ⟨c3, sx⟩ := y3
      simp only at D2 ON2
      go_wp2_with fail
      refine (HWR.out _ _ _ _ _ _ D2.out).mono ?_
      rintro e w3 ⟨rfl, hd3⟩
      have D3 := Lib.hid hd3
      clear hd3 D2
      go_wp2_with fail
      refine (HRWR.out _ _ _ _ _ _ D3.out).mono ?_
      rintro e w4 ⟨rfl, hd4⟩
      have D4 := Lib.hid hd4
      have ON4 := Lib.hid (write_on 51 q.b (ON2.out).1 (ON2.out).2)
      clear hd4 D3 ON2
      generalize writeS sx 51 q.b = y4 at D4 ON4 ⊢
      all_goals
        obtain ⟨c4, s⟩ := y4
        simp only at D4 ON4
        obtain ⟨l, hl⟩ := open_on (ON4.out).1
        have HL := Lib.hid hl
        clear hl ON4 HWR HRWR
        go_wp2_with fail
        refine ((D4.out).open_ (HL.out)).mono ?_
        rintro e w5 ⟨g, rfl, h5⟩
        have D5 := Lib.hid h5
        clear h5 D4
        go_wp2_with fail
        refine ((D5.out).open_ (HL.out)).mono ?_
        rintro e w6 ⟨q', rfl, h6⟩
        have D6 := Lib.hid h6
        have HALK := Lib.hid (alike_any h6)
        clear h6 D5 HL
        go_wp2_with fail
        refine (HALK.out).mono ?_
        rintro e w7 ⟨rfl, h7⟩
        have hD7 := (D6.out).below h7
        have HAP1 := Lib.hid (HAP.out _ _ _ _ _ _ _ _ _ hD7 hD7.sizes.1)
        clear h7 HALK D6 hD7 HAP
        go_wp2_with fail
        refine (HAP1.out).mono ?_
        rintro e w8 ⟨rfl, h8⟩
        have HRA := Lib.hid (HRAP.out _ _ _ _ _ _ _ _ _ h8)
        clear h8 HAP1 HRAP
        go_wp2_with fail
        refine (HRA.out).mono ?_
        rintro e w9 ⟨rfl, h9⟩
        have HALK := Lib.hid (alike_any h9)
        have B9 := Lib.hid h9.bel
        clear h9 HRA
        go_wp2_with fail
        refine (HALK.out).mono ?_
        rintro e w10 ⟨rfl, h10⟩
        have B10 := Lib.hid ((B9.out).trans (h10.mono (B9.out).size))
        clear h10 HALK B9
        go_wp2_with fail
        refine ((HA _).out).mono ?_
        rintro e w11 ⟨rfl, hb⟩
        have HB := Lib.hid ((B10.out).trans (hb.mono (B10.out).size))
        clear hb HA B10
        go_wp2_with fail
        go_ret
        exact ⟨rfl, HB.out⟩

theorem own : ownKnob Try.prog.godebug = none := by kernel_rfl
theorem laidOut : laidOutB Try.prog = true := by kernel_rfl
theorem specN (H : Type) (ds : List (DataW H)) (h : ds.length = 3) : Rows.logOpensSpec.fn H (ds ++ []) = { results := [.lit (.bool true)], args := ds } := by
  match ds, h with
  | [_, _, _], _ => rfl

set_option maxRecDepth 100000 in
theorem lifted (os : Os) (started : os.Started) (H : Type) (enc : TypeId × Value → H) :
    ReturnsInHanded {} Try.checked os 5 .any (Rows.logOpensSpec.pre6 enc Try.prog Try.f5 Rows.logOpensRow.domain false) (Rows.logOpensSpec.post enc Try.prog Try.f5 false true false false) := by
  refine law_of_walk (C := Try.checked) own started (by kernel_rfl) Try.func5 rfl rfl Try.underlying4 laidOut (by kernel_rfl) (fun ds h => specN H ds (h.trans (by kernel_rfl)))
    (ChangeSpec.witness6 (enc := enc) (C := Try.checked) false ⟨#[], #[.slice none 0 0, .slice none 0 0, .bool false], []⟩ 8 (by kernel_rfl) (by kernel_rfl) (by kernel_rfl) (by kernel_rfl)) ?_
  intro W base args ds p hval hA hsz
  have hval' : ∀ (j : Nat) t v, Try.f5.params[j]? = some t → args[j]? = some v → Value.okWide Try.prog W .any base t v := hval
  rw [Try.params5] at hval' hA hsz
  obtain ⟨v0, vs0, d0, ds0, p0, q0, hargs, rfl, rfl, h0, r0⟩ := trodAll_cons hA
  obtain ⟨v1, vs1, d1, ds1, p1, q1, rfl, rfl, rfl, h1, r1⟩ := trodAll_cons r0
  obtain ⟨v2, vs2, d2, ds2, p2, q2, rfl, rfl, rfl, h2, r2⟩ := trodAll_cons r1
  obtain ⟨rfl, rfl, rfl⟩ := trodAll_nil r2
  obtain rfl : args = #[v0, v1, v2] := by cases args; simp_all
  obtain ⟨a0, len0, cap0, rfl⟩ := okWide_slice Try.underlying32 (hval' 0 32 v0 rfl rfl)
  obtain ⟨fu0, hf0⟩ := h0
  obtain ⟨s0, t0, x0, rfl, y0, z0⟩ := open_bytesS (d := d0) (p := p0) Try.underlying32 Try.underlying5 (by kernel_rfl) (of_decide_eq_true (by kernel_rfl)) hf0 (sm_arg hsz (j := 0) rfl rfl)
  obtain ⟨a1, len1, cap1, rfl⟩ := okWide_slice Try.underlying32 (hval' 1 32 v1 rfl rfl)
  obtain ⟨fu1, hf1⟩ := h1
  obtain ⟨s1, t1, x1, rfl, y1, z1⟩ := open_bytesS (d := d1) (p := p1) Try.underlying32 Try.underlying5 (by kernel_rfl) (of_decide_eq_true (by kernel_rfl)) hf1 (sm_arg hsz (j := 1) rfl rfl)
  obtain ⟨a2, rfl, rfl, rfl⟩ := open_bool Try.underlying4 (hval' 2 4 v2 rfl rfl) h2
  exact walk ⟨a0, cap0, x0⟩ ⟨a1, cap1, x1⟩ a2 W ⟨s0, t0, y0, z0⟩ ⟨s1, t1, y1, z1⟩

theorem proved : Rows.LogOpensSaid :=
  OpenClaim.holds_of_wide 5 Try.f5 rfl rfl rfl rfl rfl rfl rfl ⟨rfl, rfl, rfl, rfl, rfl⟩ rfl rfl rfl rfl rfl (by kernel_rfl) Try.func5 (by kernel_rfl)
    (of_decide_eq_true (by kernel_rfl)) (by unfold Func.isWrapper; first | (rw [if_pos (by decide +kernel)]; kernel_rfl) | (rw [if_neg (by decide +kernel)]; exact ⟨rfl, rfl⟩))
    (fun os started H enc _ => lifted os started H enc)
end Go.Proofs.Ytnjafhlpnoikcaa.logOpens
