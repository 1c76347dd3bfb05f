/-
  LogKeeps: for every input the law returns true, and its arguments are as they were. No condition beside the given statement's own.
-/
import Derived.Test.YtnjafhlpnoikcaaLgW
namespace Go.Proofs.Ytnjafhlpnoikcaa.logKeeps
open Go.ChangeShapes Go.WideShapes Go.ChangeAt Go.RowKit
open Go.ChangeMaps (open_string shut_string)
set_option linter.unusedVariables false

def lk0 : LS := ⟨199, false, 0, [], false⟩
theorem open400 : openS (newS 400) = some lk0 := open_clean (clean_new (by decide))
/-- what the loop knows -/
structure KR (w wr : World) (g d : Nat) (s : DS) (l : LS) (F K : Nat → Prop) (v : Value) (sure : List Rc) (late : Rc) (dead : Bool) : Prop where
  lr : LR w wr g d s l F K v sure
  keeps : Keeps s l (sure.map (·.b)) late.b dead
  half : l.half = 199
  long : s.dur.length = 400 ∨ dead = true
  one : GoodR w late

set_option maxRecDepth 100000 in
set_option maxHeartbeats 4000000 in
theorem walk (a0 : Option Addr) (n0 k0 : Nat) (z : Int) (a2 : Option Addr) (n2 k2 : Nat) (part : Int) (a4 : Option Addr) (n4 k4 : Nat) (xs : List Rc) (ks : List Bool) (more : Rc) (w : World) (h0 : n0 ≤ 140737488351232) (hxl : xs.length = n0) (hx : Reads w w.heap.size 1 a0 n0 (xs.flatMap rcell)) (hxg : ∀ x ∈ xs, GoodR w x)
    (hz : (Lit.int .i64 z).wf = true) (h2 : n2 ≤ 140737488351232) (hkl : ks.length = n2) (hk : Reads w w.heap.size 1 a2 n2 (ks.map Value.bool)) (hm : GoodR w more) (hma : more.A = a4) (hmc : more.c = k4) (hml : more.b.length = n4) :
    Calls Try.prog 4 #[.slice a0 n0 k0, .int .i64 z, .slice a2 n2 k2, .int .i64 part, .slice a4 n4 k4] w fun e w' => e = .returned (.bool true) ∧ Below w.heap.size w w' := by
  have HA := fun W => Lib.hid (awake_any W)
  by_cases hbig : 20 < n0 ∨ 50 < n2 ∨ 50 < n4
  · have hd : decide ((20 : Int) < (n0 : Int)) = true ∨ (decide ((20 : Int) < (n0 : Int)) = false ∧ decide ((50 : Int) < (n2 : Int)) = true) ∨ (decide ((20 : Int) < (n0 : Int)) = false ∧ decide ((50 : Int) < (n2 : Int)) = false ∧ decide ((50 : Int) < (n4 : Int)) = true) := by simp; omega
    clear hx hxg hk hm hma hmc hml hbig hxl hkl
    rcases hd with d1 | ⟨d1, d2⟩ | ⟨d1, d2, d3⟩
    all_goals
      go_enter Try.func4, Try.ntmps4
      go_wp2_with fail
      refine ((HA _).out).mono ?_
      rintro e w1 ⟨rfl, hb⟩
      have HB := Lib.hid hb
      clear hb HA
      go_wp2_with fail
      go_ret
      exact ⟨rfl, HB.out⟩
  · have d1 : decide ((20 : Int) < (n0 : Int)) = false := by simp; omega
    have d2 : decide ((50 : Int) < (n2 : Int)) = false := by simp; omega
    have d3 : decide ((50 : Int) < (n4 : Int)) = false := by simp; omega
    have HM := Lib.hid (fun w => mod_any z 50 w (by omega) (by omega) (wf_i64 hz).1 (wf_i64 hz).2)
    obtain ⟨k, hkk, hk50⟩ : ∃ k : Nat, z % 50 = k ∧ k < 50 := ⟨(z % 50).toNat, by omega, by omega⟩
    rw [hkk] at HM
    have HN := Lib.hid (new_m 400 w (by omega) (by omega))
    have HX := Lib.hid hx
    have HXG := Lib.hid hxg
    have HXL := Lib.hid hxl
    have HK := Lib.hid hk
    have HKL := Lib.hid hkl
    have HMO := Lib.hid hm
    have HMA := Lib.hid hma
    have HMC := Lib.hid hmc
    have HML := Lib.hid hml
    have h20 : n0 ≤ 20 := by omega
    have h4n : n4 ≤ 50 := by omega
    have h2n : n2 ≤ 50 := by omega
    clear hx hxg hk hm hma hmc hml hbig hxl hkl hkk hz
    go_enter Try.func4, Try.ntmps4
    go_wp2_with fail
    refine (HN.out).mono ?_
    rintro e w1 ⟨d, F, rfl, hm, hF, hb⟩
    have HO := Lib.hid (open_any hm)
    have HF := Lib.hid hF
    have HB1 := Lib.hid hb
    clear hm hF hb HN
    go_wp2_with fail
    refine (HO.out).mono ?_
    rintro e w2 ⟨hb2, ho⟩
    rw [open400] at ho
    obtain ⟨g, K, rfl, hbo, hK⟩ := ho
    have L2 : Hid (LB w w2 g d (newS 400) lk0 F K) := ⟨hbo, fun b hb => by
      rcases hb with hb | hb
      · exact (HF.out) b hb
      · have h1 := hK b hb; have h2 := (HB1.out).size; omega, (HB1.out).trans (hb2.mono (HB1.out).size)⟩
    clear hb2 hbo hK HO HF HB1
    go_wp2_with fail
    refine ((HM.out) _).mono ?_
    rintro e w3 ⟨rfl, rfl⟩
    have HU := Lib.hid (fuse_m d (newS 400) F (k : Int) _ (L2.out).both.disk (by omega))
    clear HM
    go_wp2_with fail
    refine (HU.out).mono ?_
    rintro e w4 ⟨rfl, ho⟩
    obtain ⟨F4, h4⟩ := (L2.out).op ho
    have R0 : Hid (KR w w4 g d (fuseS (newS 400) (k : Int)) lk0 F4 K (.slice none 0 0) [] ⟨none, 0, []⟩ false) := by
      refine ⟨⟨h4, ⟨rfl, .inl ⟨rfl, rfl⟩⟩, (fun b hb => by simp [Value.ownBlock] at hb), (fun r hr => by cases hr)⟩, .up (clean_fuse (clean_new (by decide)) _) rfl ?_, rfl, .inl rfl, ⟨Nat.zero_le _, Nat.zero_le _, Reads.none_, (fun x hx => by cases hx)⟩⟩
      show (if (k : Int) < 0 then none else some (k : Int).toNat) ≠ none
      rw [if_neg (by omega)]
      exact fun h => by cases h
    clear ho h4 HU L2
    go_wp2_with fail
    go_loopw [15, 16, 17, 18] (fun sv lv dv iv wr => ∃ (i : Nat) (s : DS) (l : LS) (F K : Nat → Prop) (sure : List Rc) (late : Rc) (dead : Bool), iv = .int .i64 (i : Int) ∧ dv = .bool dead ∧ lv = .slice late.A late.b.length late.c ∧ i ≤ n0 ∧ sure.length ≤ i ∧ KR w wr g d s l F K sv sure late dead) (fun _ _ _ iv _ => n0 - (intOf iv).toNat)
    case atStart => exact ⟨0, _, _, _, _, [], ⟨none, 0, []⟩, false, rfl, rfl, rfl, Nat.zero_le _, Nat.le_refl _, R0.out⟩
    case round =>
      obtain ⟨i, s, l, F, K, sure, late, dead, rfl, rfl, rfl, hi, hsl, hR⟩ := hrel
      have RR := Lib.hid hR
      clear hR R0
      by_cases hgo : i < n0 ∧ dead = false
      · obtain ⟨hlt, rfl⟩ := hgo
        have dlt : decide ((i : Int) < (n0 : Int)) = true := by simp; omega
        obtain ⟨r, hr⟩ : ∃ r, xs[i]? = some r := ⟨xs[i]'(by rw [HXL.out]; exact hlt), List.getElem?_eq_getElem _⟩
        obtain ⟨b1, o1, u1, rfl, hb1, hu1, g1⟩ := ((HX.out).below (RR.out).lr.lb.bel).at1 hlt
        obtain rfl : u1 = .slice r.A r.b.length r.c := by rw [rcell_at hr] at hu1; injection hu1 with hu1; exact hu1.symm
        have GR := (HXG.out) r (List.mem_of_getElem? hr)
        have hsm := GR.small
        have hne : ¬ n0 ≤ i := by omega
        obtain ⟨q, hqA, hqc, hqg, hqb⟩ : ∃ q : Rc, q.A = r.A ∧ q.c = r.c ∧ GoodR w q ∧ ((r.b.length ≤ 30 ∧ q.b.length = r.b.length) ∨ (¬ r.b.length ≤ 30 ∧ q.b.length = 30)) := by
          by_cases h30 : r.b.length ≤ 30
          · exact ⟨r, rfl, rfl, GR, .inl ⟨h30, rfl⟩⟩
          · exact ⟨r.cut 30, rfl, rfl, GR.cut 30, .inr ⟨h30, by show (r.b.take 30).length = 30; rw [List.length_take]; omega⟩⟩
        have hql : q.b.length ≤ 30 := by rcases hqb with ⟨h1, h2⟩ | ⟨h1, h2⟩ <;> omega
        have hcapr := GR.cap
        have hcap30 : ¬ r.b.length ≤ 30 → 30 ≤ r.c := fun h => by have := GR.cap; omega
        have HQ := Lib.hid hqg
        have hfr : ∀ ad : Addr, ad.block < w.heap.size → ¬ F ad.block ∧ ¬ K ad.block := fun ad hl => ⟨fun hF => by have := (RR.out).lr.lb.own _ (.inl hF); omega, fun hK => by have := (RR.out).lr.lb.own _ (.inr hK); omega⟩
        have hqlt : 0 < q.b.length → ∀ ad, q.A = some ad → ¬ F ad.block ∧ ¬ K ad.block := fun hn ad ha => by
          obtain ⟨ad', e, hl, -⟩ := hqg.read.2 hn
          rw [ha] at e
          injection e with e
          rw [e]
          exact hfr ad' hl
        have HAP : Hid (∀ nq, Calls Try.prog 14 #[.pointer (some ⟨g, 0, none⟩), .slice r.A q.b.length r.c] (wr.drewN nq) (AppPost (wr.drewN nq) g d F K (appS s l q.b))) := fun nq => by
          have hb2 := below_drewN (Below.refl wr.heap.size wr) nq
          rw [← hqA, ← hqc]
          exact app_any ((RR.out).lr.lb.both.below hb2) (by
            have h1 := (RR.out).half
            rcases (RR.out).long with h2 | h2
            · rw [h1, h2]; decide
            · cases h2) (by omega) ((hqg.up (RR.out).lr.lb.bel).read) hqlt hqg.byte
        have hstep := keeps_step (late := late.b) (b := q.b) ((RR.out).keeps) (by omega)
        generalize appS s l q.b = ra at HAP hstep
        obtain ⟨x, s1, l1⟩ := ra
        simp only at hstep HAP
        have HST := Lib.hid hstep
        have HQL := Lib.hid hqlt
        clear hu1 GR hr hqlt hfr hqg hstep
        have HRB : Hid ((r.b.length ≤ 30 ∧ q.b.length = r.b.length) ∨ (¬ r.b.length ≤ 30 ∧ q.b.length = 30)) := hqb
        have hcase : (min (r.b.length : Int) 30 = (r.b.length : Int) ∧ q.b.length = r.b.length ∧ r.b.length ≤ r.c) ∨ ((30 : Int) < (r.b.length : Int) ∧ min (r.b.length : Int) 30 = 30 ∧ q.b.length = 30 ∧ 30 ≤ r.c) := by
          rcases hqb with ⟨h1, h2⟩ | ⟨h1, h2⟩
          · exact .inl ⟨by omega, h2, hcapr⟩
          · exact .inr ⟨by omega, by omega, h2, hcap30 h1⟩
        clear hqb hcap30 hcapr
        rcases hcase with ⟨e1, e2, e3⟩ | ⟨e0, e1, e2, e3⟩
        all_goals
          rw [e2] at HAP
          have E2 := Lib.hid e2
          clear e2
          go_wp2_with fail
          go_quiet (fail)
          go_wp2_with fail
        all_goals have HAQ := HAP.out nq
        all_goals clear HAP
        all_goals refine Calls.mono HAQ ?_
        all_goals
          clear HAQ
          intro e w5 ha
          obtain ⟨rfl, F5, K5, h5⟩ := ((RR.out).lr.drewN nq).app ha
          simp only at h5
          have H5 := Lib.hid h5
          clear ha h5
          rcases HST.out with ⟨hx, hk5, hh5, hd5⟩ | ⟨hx, hk5, hh5, hd5⟩ | ⟨hx, hk5, hh5⟩
        all_goals
          subst hx
          have HK5 := Lib.hid hk5
          have HH5 := Lib.hid (hh5.trans (RR.out).half)
          have hone := (RR.out).one
          have HONE := Lib.hid hone
          clear hk5 hh5 hone
        all_goals first
          | (have HD5 := Lib.hid hd5; clear hd5; have hlong : Hid (s1.dur.length = 400) := (by rcases (RR.out).long with h | h; exact (HD5.out).trans h; cases h); clear RR HST)
          | (clear RR HST)
        rotate_left
        · go_wp2_with fail
          go_roundw
          case rel => exact ⟨i + 1, s1, l1, F5, K5, sure, late, false, by go_num, rfl, rfl, by omega, by omega, ⟨H5.out, HK5.out, HH5.out, .inl hlong, HONE.out⟩⟩
          case measure => simp [intOf]; omega
        · go_wp2_with fail
          go_roundw
          case rel => exact ⟨i + 1, s1, l1, F5, K5, sure, q, true, by go_num, rfl, by rw [hqA, hqc, E2.out], by omega, by omega, ⟨H5.out, HK5.out, HH5.out, .inr rfl, HQ.out⟩⟩
          case measure => simp [intOf]; omega
        rotate_left
        · go_wp2_with fail
          go_roundw
          case rel => exact ⟨i + 1, s1, l1, F5, K5, sure, late, false, by go_num, rfl, rfl, by omega, by omega, ⟨H5.out, HK5.out, HH5.out, .inl hlong, HONE.out⟩⟩
          case measure => simp [intOf]; omega
        · go_wp2_with fail
          go_roundw
          case rel => exact ⟨i + 1, s1, l1, F5, K5, sure, q, true, by go_num, rfl, by rw [hqA, hqc, E2.out], by omega, by omega, ⟨H5.out, HK5.out, HH5.out, .inr rfl, HQ.out⟩⟩
          case measure => simp [intOf]; omega
        all_goals
          obtain ⟨i0, hi0, hz0, hz1, hz2⟩ := info_parts slices_info
          go_wp2_with (at_builtin; refine wpList_append_row _ rfl (.tmp 84) (.tmp 86) 35 35 rfl w.heap.size 32 i0 (.slice none 0 0) 1 24 Try.underlying35 hi0 hz0 hz1 hz2 rfl (by decide) _ sure.length _ rfl (((H5.out).alloc _).own) _ 1 _ rfl (src_new w5 Try.underlying35 [_] 1 1 1 32 rfl (fun u hu => by simp at hu; subst hu; rfl)) (by unfold maxLen; omega) (by omega) (by have := (H5.out).lb.bel.size; simp; omega) ?_)
          intro v6 w6 ho6 hg6
          have L6 := Lib.hid (((H5.out).alloc _).push (q := q) hg6 (by rw [hqA, hqc, E2.out]; exact ho6) HQ.out)
          clear ho6 hg6 H5 hi0 hz0 hz1 hz2
          go_wp2_with fail
          go_roundw
          case rel => exact ⟨i + 1, s1, l1, F5, K5, sure ++ [q], late, false, by go_num, rfl, rfl, by omega, by simp; omega, ⟨L6.out, by rw [List.map_append]; exact HK5.out, HH5.out, .inl hlong, HONE.out⟩⟩
          case measure => simp [intOf]; omega
      · have hend : (i < n0 ∧ dead = true) ∨ i = n0 := by
          by_cases h : i < n0
          · left; refine ⟨h, ?_⟩; cases dead with
            | true => rfl
            | false => exact absurd ⟨h, rfl⟩ hgo
          · right; omega
        have hC := crash_m d s F a2 k2 ks part wr (RR.out).lr.lb.both.disk (by rw [HKL.out]; omega) (by rw [HKL.out]; exact (((HK.out).below (RR.out).lr.lb.bel).more (RR.out).lr.lb.bel.size)) (fun hn ad ha hF => by
          have h1 := (HK.out).at_block (by rw [HKL.out] at hn; exact hn) ad ha
          have h2 := (RR.out).lr.lb.own _ (.inl hF)
          omega)
        rw [HKL.out] at hC
        obtain ⟨l', hcl, hrec, hhalf⟩ := keeps_end (RR.out).keeps ks part
        have HCL := Lib.hid hcl
        have HREC := Lib.hid hrec
        have HCR := Lib.hid hC
        clear hcl hrec hhalf hC
        have hi20 : sure.length ≤ 20 := by omega
        have hsm20 := hi20
        clear hgo hsl
        obtain ⟨As, cs, hv, -⟩ := (RR.out).lr.rca
        subst hv
        obtain ⟨i0, hi0, hz0, hz1, hz2⟩ := info_parts slices_info
        have HI0 := Lib.hid hi0
        have HZ0 := Lib.hid hz0
        have HZ1 := Lib.hid hz1
        have HZ2 := Lib.hid hz2
        clear hi0 hz0 hz1 hz2
        have hcases : (i < n0 ∧ dead = true ∧ l'.recs = sure.map (·.b)) ∨ (i < n0 ∧ dead = true ∧ ¬ l'.recs = sure.map (·.b) ∧ l'.recs = sure.map (·.b) ++ [late.b]) ∨ (i = n0 ∧ l'.recs = sure.map (·.b)) ∨ (i = n0 ∧ dead = true ∧ ¬ l'.recs = sure.map (·.b) ∧ l'.recs = sure.map (·.b) ++ [late.b]) := by
          by_cases he : l'.recs = sure.map (·.b)
          · rcases hend with ⟨h1, h2⟩ | h1
            · exact .inl ⟨h1, h2, he⟩
            · exact .inr (.inr (.inl ⟨h1, he⟩))
          · rcases HREC.out with h | ⟨h3, h4⟩
            · exact absurd h he
            · rcases hend with ⟨h1, h2⟩ | h1
              · exact .inr (.inl ⟨h1, h2, he, h4⟩)
              · exact .inr (.inr (.inr ⟨h1, h3, he, h4⟩))
        clear hend HREC
        rcases hcases with ⟨hlt, rfl, heq⟩ | ⟨hlt, rfl, hne, heq⟩ | ⟨hlt, heq⟩ | ⟨hlt, rfl, hne, heq⟩
        all_goals first
          | (have dlt : decide ((i : Int) < (n0 : Int)) = true := (by simp; omega))
          | (have dlt : decide ((i : Int) < (n0 : Int)) = false := (by simp; omega))
        all_goals first
          | (have EQ : Hid (decide (l'.recs = sure.map (·.b)) = true) := decide_eq_true heq; clear heq)
          | (have EQ : Hid (decide (l'.recs = sure.map (·.b)) = false) := decide_eq_false hne; have EQ2 : Hid (decide (l'.recs = (sure ++ [late]).map (·.b)) = true) := decide_eq_true (by rw [List.map_append]; exact heq); clear heq hne)
        all_goals
          go_wp2_with fail
          refine (HCR.out).mono ?_
          rintro e w6 ⟨rfl, ho⟩
          have h6 := (RR.out).lr.op ho
          have hone := (RR.out).one
          have HONE := Lib.hid hone
          obtain ⟨F6, h6⟩ := h6
          have hcl := HCL.out
          have hfn : (crashS s ks part).fuse = none := rfl
          clear ho hone RR HCL HCR
          generalize crashS s ks part = s6 at h6 hcl hfn
          have HO := Lib.hid (open_any h6.lb.both.disk)
          have hop := open_clean hcl
          have HOP := Lib.hid hop
          have HCL := Lib.hid hcl
          have HFN := Lib.hid hfn
          have H6 := Lib.hid h6
          clear h6 hop hcl hfn
          go_wp2_with fail
          refine (HO.out).mono ?_
          rintro e w7 ⟨hb7, ho⟩
          rw [HOP.out] at ho
          obtain ⟨g7, K7, rfl, hbo, hK⟩ := ho
          have L7 : Hid (LB w w7 g7 d s6 l' F6 K7) := ⟨hbo, fun b hb => by
            rcases hb with hb | hb
            · exact (H6.out).lb.own b (.inl hb)
            · have h1 := hK b hb; have h2 := (H6.out).lb.bel.size; omega, (H6.out).lb.bel.trans (hb7.mono (H6.out).lb.bel.size)⟩
          obtain ⟨As', cs', hv, hrs⟩ := (H6.out).rca
          injection hv with hv1 hv2 hv3
          rw [← hv1] at hrs
          have S7 : Hid (RcA w7 (fun i => F6 i ∨ K7 i) As sure) := hrs.chg (Chg.of_bel hb7) (fun i hi => by
            rcases hi with hi | hi
            · exact .inl (.inl hi)
            · exact .inr (hK i hi))
          have HR := Lib.hid (recs_m hbo.log)
          clear hb7 hbo hK HO HOP H6 hrs hv1 hv2 hv3
          go_wp2_with fail
          refine (HR.out).mono ?_
          rintro e w8 ⟨rs8, A8, c8, rfl, hm8, hl8, hr8, hb8⟩
          have L8 := Lib.hid ((L7.out).below hb8)
          have S8 := Lib.hid ((S7.out).below hb8)
          have N8 : Hid (RcA w8 (fun i => F6 i ∨ K7 i) A8 rs8) := hr8.sub (fun i hi => (L7.out).lt i hi)
          have HS := same_any (c := c8) (c' := cs) (N8.out).rcr (S8.out).rcr (by omega) (by omega)
          rw [hm8, EQ.out] at HS
          have HM8 := Lib.hid hm8
          replace HS := Lib.hid HS
          clear hm8 hr8 hb8 HR L7 S7
          go_wp2_with fail
          refine (HS.out).mono ?_
          rintro e w9 ⟨rfl, q9, hw9⟩
          have hb9 : Below w8.heap.size w8 w9 := by rw [hw9]; exact below_drewN (Below.refl _ w8) q9
          have L9 := Lib.hid ((L8.out).below hb9)
          have S9 := Lib.hid ((S8.out).below hb9)
          have N9 := Lib.hid ((N8.out).below hb9)
          have hs9 := (L9.out).bel.size
          clear hw9 hb9 HS L8 S8 N8
        any_goals
          have hal : Hid (decide (l'.recs = (sure ++ [late]).map (·.b)) = true) := EQ2
          go_wp2_with (at_builtin; refine wpList_append_rowG _ rfl (.tmp 117) (.tmp 118) 35 35 rfl w9.heap.size 32 i0 (.slice none 0 0) 1 24 Try.underlying35 HI0.out HZ0.out HZ1.out HZ2.out rfl (by decide) _ 0 _ rfl (own_emp (Blk.new w9 32 #[]) (Nat.le_refl _)) _ sure.length _ rfl (src_reads (P := Try.prog) _ (tx := 35) Try.underlying35 cs ((S9.out).alloc _).row (rcell_one sure)) (by unfold maxLen; omega) (by omega) (by simp) ?_)
          intro v10 w10 ho10 hg10
          have HO10 := Lib.hid ho10
          have HG10 := Lib.hid hg10
          have hs10 := hg10.size
          simp at hs10
          clear ho10 hg10
          go_wp2_with (at_builtin; refine wpList_append_rowG _ rfl (.tmp 119) (.tmp 121) 35 35 rfl w9.heap.size 32 i0 (.slice none 0 0) 1 24 Try.underlying35 HI0.out HZ0.out HZ1.out HZ2.out rfl (by decide) _ sure.length _ rfl ((HO10.out).alloc _) _ 1 _ rfl (src_new w10 Try.underlying35 [_] 1 1 1 32 rfl (fun u hu => by simp at hu; subst hu; rfl)) (by unfold maxLen; omega) (by omega) (by simp; omega) ?_)
          intro v11 w11 ho11 hg11
          obtain ⟨A11, c11, hv11, hr11, hb11⟩ := (S9.out).appended (q := late) HO10.out HG10.out hg11 ho11 (((HONE.out).up (L9.out).bel).read) (HONE.out).byte
          subst hv11
          have HS := same_any (c := c8) (c' := c11) ((N9.out).below hb11).rcr hr11 (by omega) (by simp; omega)
          rw [HM8.out, EQ2.out, List.length_append, List.length_singleton] at HS
          have L11 := Lib.hid ((L9.out).below hb11)
          have N11 := Lib.hid ((N9.out).below hb11)
          replace HS := Lib.hid HS
          clear hr11 hb11 ho11 hg11 HO10 HG10 L9 N9 S9 EQ EQ2 hal hs9
          go_wp2_with fail
          refine (HS.out).mono ?_
          rintro e w9 ⟨rfl, q12, hw9⟩
          have hb9 : Below w11.heap.size w11 w9 := by rw [hw9]; exact below_drewN (Below.refl _ w11) q12
          have L9 := Lib.hid ((L11.out).below hb9)
          have N9 := Lib.hid ((N11.out).below hb9)
          clear hw9 hb9 HS L11 N11 hs10
        any_goals clear EQ S9
        all_goals
          have hag := again (b := more.b) HCL.out HFN.out (by rw [HML.out]; omega)
          have hap := app_any (c := k4) (L9.out).both (by have h1 := (HCL.out).half; have h2 := (HCL.out).long; omega) (by rw [HML.out]; omega) (((HMO.out).up (L9.out).bel).read) (fun hn ad ha => by
            have h1 := (HMO.out).read.at_block hn ad ha
            exact ⟨fun hF => by have h2 := (L9.out).own _ (.inl hF); omega, fun hF => by have h2 := (L9.out).own _ (.inr hF); omega⟩) (HMO.out).byte
          rw [HML.out, HMA.out] at hap
          generalize appS s6 l' more.b = ra at hag hap
          obtain ⟨x13, s13, l13⟩ := ra
          simp only at hag hap
          have HAP := Lib.hid hap
          have HAG := Lib.hid hag
          clear hap hag HCL HFN
          go_wp2_with fail
          refine (HAP.out).mono ?_
          intro e w13 ha
          obtain ⟨rfl, F13, K13, h13, n13⟩ := (L9.out).appN ha N9.out
          have L13 := Lib.hid h13
          have N13 := Lib.hid n13
          have HCR := crash_m d s13 F13 none 0 [] 0 w13 h13.both.disk (by simp) Reads.none_ (fun hn ad ha => by cases ha)
          simp only [List.length_nil] at HCR
          replace HCR := Lib.hid HCR
          simp only at L13 N13
          clear ha h13 n13 HAP L9 N9
          go_wp2_with fail
          refine (HCR.out).mono ?_
          rintro e w14 ⟨rfl, ho⟩
          obtain ⟨F14, h14, n14⟩ := (L13.out).opN ho N13.out
          have L14 := Lib.hid h14
          have N14 := Lib.hid n14
          have HO := Lib.hid (open_any h14.both.disk)
          clear ho h14 n14 HCR L13 N13
          go_wp2_with fail
          refine (HO.out).mono ?_
          rintro e w15 ⟨hb15, ho⟩
          have hx : ∃ l2, openS (crashS s13 [] 0) = some l2 ∧ ((x13 = 0 ∧ l2.recs = l'.recs ++ [more.b]) ∨ (x13 = 17 ∧ l2.recs = l'.recs)) := by
            rcases HAG.out with ⟨h1, l2, h2, h3⟩ | ⟨h1, l2, h2, h3⟩
            · exact ⟨l2, h2, .inl ⟨h1, h3⟩⟩
            · exact ⟨l2, h2, .inr ⟨h1, h3⟩⟩
          obtain ⟨l2, hop2, hx⟩ := hx
          rw [hop2] at ho
          obtain ⟨g15, K15, rfl, hbo, hK⟩ := ho
          obtain ⟨h15, hn15⟩ := (L14.out).opened hb15 hbo hK
          have L15 := Lib.hid h15
          have N15 := Lib.hid (hn15 N14.out)
          have HR := Lib.hid (recs_m hbo.log)
          clear hb15 hbo hK HO HAG h15 hn15 hop2 L14 N14
          rcases hx with ⟨rfl, hx⟩ | ⟨rfl, hx⟩
          · have HX2 := Lib.hid hx
            clear hx
            go_wp2_with fail
            refine (HR.out).mono ?_
            rintro e w16 ⟨rs16, A16, c16, rfl, hm16, hl16, hr16, hb16⟩
            have L16 := Lib.hid ((L15.out).below hb16)
            have N16 := Lib.hid ((N15.out).below hb16)
            have M16 := Lib.hid hr16
            have HM16 := Lib.hid (hm16.trans HX2.out)
            clear hm16 hr16 hb16 HR L15 N15 HX2
            go_wp2_with (at_builtin; refine wpList_append_rowG _ rfl (.tmp 145) (.tmp 146) 35 35 rfl w16.heap.size 32 i0 (.slice none 0 0) 1 24 Try.underlying35 HI0.out HZ0.out HZ1.out HZ2.out rfl (by decide) _ 0 _ rfl (own_emp (Blk.new w16 32 #[]) (Nat.le_refl _)) _ rs8.length _ rfl (src_reads (P := Try.prog) _ (tx := 35) Try.underlying35 c8 ((N16.out).alloc _).row (rcell_one rs8)) (by unfold maxLen; omega) (by omega) (by simp) ?_)
            intro v10 w10 ho10 hg10
            have HO10 := Lib.hid ho10
            have HG10 := Lib.hid hg10
            have hs10 := hg10.size
            simp at hs10
            clear ho10 hg10
            go_wp2_with (at_builtin; refine wpList_append_rowG _ rfl (.tmp 147) (.tmp 149) 35 35 rfl w16.heap.size 32 i0 (.slice none 0 0) 1 24 Try.underlying35 HI0.out HZ0.out HZ1.out HZ2.out rfl (by decide) _ rs8.length _ rfl ((HO10.out).alloc _) _ 1 _ rfl (src_new w10 Try.underlying35 [_] 1 1 1 32 rfl (fun u hu => by simp at hu; subst hu; rfl)) (by unfold maxLen; omega) (by omega) (by simp; omega) ?_)
            intro v11 w11 ho11 hg11
            obtain ⟨A11, c11, hv11, hr11, hb11⟩ := (N16.out).appended (q := more) HO10.out HG10.out hg11 (by rw [HMA.out, HML.out, HMC.out]; exact ho11) (((HMO.out).up (L16.out).bel).read) (HMO.out).byte
            subst hv11
            have hdd : decide (rs16.map (·.b) = (rs8 ++ [more]).map (·.b)) = true := decide_eq_true (by rw [HM16.out, List.map_append, HM8.out]; rfl)
            have HS := same_any (c := c16) (c' := c11) ((M16.out).below hb11).rcr hr11 (by omega) (by simp; omega)
            rw [hdd, List.length_append, List.length_singleton] at HS
            have L11 := Lib.hid ((L16.out).below hb11)
            replace HS := Lib.hid HS
            clear hdd hr11 hb11 ho11 hg11 HO10 HG10 L16 N16 M16 hs10
            go_wp2_with fail
            refine (HS.out).mono ?_
            rintro e w17 ⟨rfl, q17, hw17⟩
            have hb17 : Below w11.heap.size w11 w17 := by rw [hw17]; exact below_drewN (Below.refl _ w11) q17
            have B17 := Lib.hid ((L11.out).bel.trans (hb17.mono (L11.out).bel.size))
            clear hw17 hb17 HS
            go_wp2_with fail
            refine ((HA _).out).mono ?_
            rintro e w18 ⟨rfl, hb18⟩
            have B18 := Lib.hid ((B17.out).trans (hb18.mono (B17.out).size))
            clear hb18 HA
            go_wp2_with fail
            go_ret
            exact ⟨rfl, B18.out⟩
          · have HX2 := Lib.hid hx
            clear hx
            go_wp2_with fail
            refine (HR.out).mono ?_
            rintro e w16 ⟨rs16, A16, c16, rfl, hm16, hl16, hr16, hb16⟩
            have L16 := Lib.hid ((L15.out).below hb16)
            have N16 := Lib.hid ((N15.out).below hb16)
            have M16 := Lib.hid hr16
            have HM16 := Lib.hid (hm16.trans HX2.out)
            clear hm16 hr16 hb16 HR L15 N15 HX2
            have hdd : decide (rs16.map (·.b) = rs8.map (·.b)) = true := decide_eq_true (by rw [HM16.out, HM8.out])
            have HS := same_any (c := c16) (c' := c8) (M16.out).rcr (N16.out).rcr (by omega) (by omega)
            rw [hdd] at HS
            replace HS := Lib.hid HS
            clear hdd N16 M16
            go_wp2_with fail
            refine (HS.out).mono ?_
            rintro e w17 ⟨rfl, q17, hw17⟩
            have hb17 : Below w16.heap.size w16 w17 := by rw [hw17]; exact below_drewN (Below.refl _ w16) q17
            have B17 := Lib.hid ((L16.out).bel.trans (hb17.mono (L16.out).bel.size))
            clear hw17 hb17 HS
            go_wp2_with fail
            refine ((HA _).out).mono ?_
            rintro e w18 ⟨rfl, hb18⟩
            have B18 := Lib.hid ((B17.out).trans (hb18.mono (B17.out).size))
            clear hb18 HA
            go_wp2_with fail
            go_ret
            exact ⟨rfl, B18.out⟩
theorem own : ownKnob Try.prog.godebug = none := by kernel_rfl
theorem laidOut : laidOutB Try.prog = true := by kernel_rfl
theorem specN (H : Type) (ds : List (DataW H)) (h : ds.length = 5) : Rows.logKeepsSpec.fn H (ds ++ []) = { results := [.lit (.bool true)], args := ds } := by
  match ds, h with
  | [_, _, _, _, _], _ => rfl

set_option maxRecDepth 100000 in
theorem lifted (os : Os) (started : os.Started) (H : Type) (enc : TypeId × Value → H) :
    ReturnsInHanded {} Try.checked os 4 .any (Rows.logKeepsSpec.pre6 enc Try.prog Try.f4 Rows.logKeepsRow.domain false) (Rows.logKeepsSpec.post enc Try.prog Try.f4 false true false false) := by
  refine law_of_walk (C := Try.checked) own started (by kernel_rfl) Try.func4 rfl rfl Try.underlying4 laidOut (by kernel_rfl) (fun ds h => specN H ds (h.trans (by kernel_rfl)))
    (ChangeSpec.witness6 (enc := enc) (C := Try.checked) false ⟨#[], #[.slice none 0 0, .int .i64 0, .slice none 0 0, .int .i64 0, .slice none 0 0], []⟩ 8 (by kernel_rfl) (by kernel_rfl) (by kernel_rfl) (by kernel_rfl)) ?_
  intro W base args ds p hval hA hsz
  have hval' : ∀ (j : Nat) t v, Try.f4.params[j]? = some t → args[j]? = some v → Value.okWide Try.prog W .any base t v := hval
  rw [Try.params4] at hval' hA hsz
  obtain ⟨v0, vs0, d0, ds0, p0, q0, hargs, rfl, rfl, h0, r0⟩ := trodAll_cons hA
  obtain ⟨v1, vs1, d1, ds1, p1, q1, rfl, rfl, rfl, h1, r1⟩ := trodAll_cons r0
  obtain ⟨v2, vs2, d2, ds2, p2, q2, rfl, rfl, rfl, h2, r2⟩ := trodAll_cons r1
  obtain ⟨v3, vs3, d3, ds3, p3, q3, rfl, rfl, rfl, h3, r3⟩ := trodAll_cons r2
  obtain ⟨v4, vs4, d4, ds4, p4, q4, rfl, rfl, rfl, h4, r4⟩ := trodAll_cons r3
  obtain ⟨rfl, rfl, rfl⟩ := trodAll_nil r4
  obtain rfl : args = #[v0, v1, v2, v3, v4] := by cases args; simp_all
  obtain ⟨a0, len0, cap0, rfl⟩ := okWide_slice Try.underlying35 (hval' 0 35 v0 rfl rfl)
  obtain ⟨t0, x0, y0, z0, g0⟩ := open_recs h0 (sm_arg hsz (j := 0) rfl rfl)
  obtain ⟨a1, rfl, rfl, rfl, w1⟩ := open_int Try.underlying3 (hval' 1 3 v1 rfl rfl) h1
  obtain ⟨a2, len2, cap2, rfl⟩ := okWide_slice Try.underlying36 (hval' 2 36 v2 rfl rfl)
  obtain ⟨fu2, hf2⟩ := h2
  obtain ⟨s2, t2, x2, rfl, y2⟩ := open_boolsS (d := d2) (p := p2) Try.underlying36 Try.underlying4 (by kernel_rfl) (of_decide_eq_true (by kernel_rfl)) hf2 (sm_arg hsz (j := 2) rfl rfl)
  obtain ⟨a3, rfl, rfl, rfl, w3⟩ := open_int Try.underlying3 (hval' 3 3 v3 rfl rfl) h3
  obtain ⟨a4, len4, cap4, rfl⟩ := okWide_slice Try.underlying32 (hval' 4 32 v4 rfl rfl)
  obtain ⟨fu4, hf4⟩ := h4
  obtain ⟨s4, t4, x4, rfl, y4, z4⟩ := open_bytesS (d := d4) (p := p4) Try.underlying32 Try.underlying5 (by kernel_rfl) (of_decide_eq_true (by kernel_rfl)) hf4 (sm_arg hsz (j := 4) rfl rfl)
  exact walk a0 len0 cap0 a1 a2 _ cap2 a3 a4 _ cap4 x0 x2 ⟨a4, cap4, x4⟩ W t0 y0 z0 g0 w1 t2 rfl y2 ⟨s4, t4, y4, z4⟩ rfl rfl rfl

theorem proved : Rows.LogKeepsSaid :=
  OpenClaim.holds_of_wide 4 Try.f4 rfl rfl rfl rfl rfl rfl rfl ⟨rfl, rfl, rfl, rfl, rfl⟩ rfl rfl rfl rfl rfl (by kernel_rfl) Try.func4 (by kernel_rfl)
    (of_decide_eq_true (by kernel_rfl)) (by unfold Func.isWrapper; first | (rw [if_pos (by decide +kernel)]; kernel_rfl) | (rw [if_neg (by decide +kernel)]; exact ⟨rfl, rfl⟩))
    (fun os started H enc _ => lifted os started H enc)
end Go.Proofs.Ytnjafhlpnoikcaa.logKeeps
