/-
  LogResets: for every input the law returns true, and its arguments are as they were. No condition beside the given statement's own.
-/
import Derived.Test.YtnjafhlpnoikcaaLgZ
namespace Go.Proofs.Ytnjafhlpnoikcaa.logResets
open Go.ChangeShapes Go.WideShapes Go.ChangeAt Go.RowKit
open Go.ChangeMaps (open_string shut_string)
set_option linter.unusedVariables false

def lr0 : LS := ⟨499, false, 0, [], false⟩
theorem open1000 : openS (newS 1000) = some lr0 := open_clean (clean_new (by decide))
/-- what the first loop knows -/
structure AR (w wr : World) (g d : Nat) (s : DS) (l : LS) (F K : Nat → Prop) (v : Value) (old : List Rc) : Prop where
  lr : LR w wr g d s l F K v old
  clean : Clean s l
  recs : l.recs = old.map (·.b)
  fuse : s.fuse = none
  half : l.half = 499
  long : s.dur.length = 1000
  short : ∀ r ∈ old, r.b.length ≤ 30
theorem short_area {rs : List Rc} {m : Nat} (h : ∀ r ∈ rs, r.b.length ≤ 30) (hn : rs.length ≤ m) : (areaS (rs.map (·.b))).length ≤ m * 35 := by
  have h1 := area_most (bs := rs.map (·.b)) (m := 30) (fun b hb => by
    obtain ⟨r, hr, rfl⟩ := List.mem_map.1 hb
    exact h r hr)
  rw [List.length_map] at h1
  have h2 : rs.length * (5 + 30) ≤ m * (5 + 30) := Nat.mul_le_mul_right _ hn
  omega

set_option maxRecDepth 100000 in
set_option maxHeartbeats 4000000 in
theorem walk (a0 : Option Addr) (n0 k0 : Nat) (a1 : Option Addr) (n1 k1 : Nat) (z : Int) (a3 : Option Addr) (n3 k3 : Nat) (part : Int) (xs ys : List Rc) (ks : List Bool) (w : World)
    (h0 : n0 ≤ 140737488351232) (hxl : xs.length = n0) (hx : Reads w w.heap.size 1 a0 n0 (xs.flatMap rcell)) (hxg : ∀ x ∈ xs, GoodR w x)
    (h1 : n1 ≤ 140737488351232) (hyl : ys.length = n1) (hy : Reads w w.heap.size 1 a1 n1 (ys.flatMap rcell)) (hyg : ∀ x ∈ ys, GoodR w x)
    (hz : (Lit.int .i64 z).wf = true) (h3 : n3 ≤ 140737488351232) (hkl : ks.length = n3) (hk : Reads w w.heap.size 1 a3 n3 (ks.map Value.bool)) :
    Calls Try.prog 6 #[.slice a0 n0 k0, .slice a1 n1 k1, .int .i64 z, .slice a3 n3 k3, .int .i64 part] w fun e w' => e = .returned (.bool true) ∧ Below w.heap.size w w' := by
  have HA := fun W => Lib.hid (awake_any W)
  by_cases hbig : 8 < n0 ∨ 8 < n1 ∨ 50 < n3
  · have hd : decide ((8 : Int) < (n0 : Int)) = true ∨ (decide ((8 : Int) < (n0 : Int)) = false ∧ decide ((8 : Int) < (n1 : Int)) = true) ∨ (decide ((8 : Int) < (n0 : Int)) = false ∧ decide ((8 : Int) < (n1 : Int)) = false ∧ decide ((50 : Int) < (n3 : Int)) = true) := by simp; omega
    clear hx hxg hy hyg hk hbig hxl hyl hkl
    rcases hd with d1 | ⟨d1, d2⟩ | ⟨d1, d2, d3⟩
    all_goals
      go_enter Try.func6, Try.ntmps6
      go_wp2_with fail
      refine ((HA _).out).mono ?_
      rintro e w1 ⟨rfl, hb⟩
      have HB := Lib.hid hb
      clear hb HA
      go_wp2_with fail
      go_ret
      exact ⟨rfl, HB.out⟩
  · have d1 : decide ((8 : Int) < (n0 : Int)) = false := by simp; omega
    have d2 : decide ((8 : Int) < (n1 : Int)) = false := by simp; omega
    have d3 : decide ((50 : Int) < (n3 : Int)) = false := by simp; omega
    have HM := Lib.hid (fun w => mod_any z 6 w (by omega) (by omega) (wf_i64 hz).1 (wf_i64 hz).2)
    obtain ⟨k, hkk, hk6⟩ : ∃ k : Nat, z % 6 = k ∧ k < 6 := ⟨(z % 6).toNat, by omega, by omega⟩
    rw [hkk] at HM
    have HN := Lib.hid (new_m 1000 w (by omega) (by omega))
    have HX := Lib.hid hx
    have HXG := Lib.hid hxg
    have HXL := Lib.hid hxl
    have HY := Lib.hid hy
    have HYG := Lib.hid hyg
    have HYL := Lib.hid hyl
    have HK := Lib.hid hk
    have HKL := Lib.hid hkl
    have h8 : n0 ≤ 8 := by omega
    have h8b : n1 ≤ 8 := by omega
    have h50 : n3 ≤ 50 := by omega
    obtain ⟨i0, hi0, hz0, hz1, hz2⟩ := info_parts slices_info
    have HI0 := Lib.hid hi0
    have HZ0 := Lib.hid hz0
    have HZ1 := Lib.hid hz1
    have HZ2 := Lib.hid hz2
    clear hx hxg hy hyg hk hbig hxl hyl hkl hkk hz hi0 hz0 hz1 hz2
    go_enter Try.func6, Try.ntmps6
    go_wp2_with fail
    refine (HN.out).mono ?_
    rintro e w1 ⟨d, F, rfl, hm, hF, hb⟩
    have HO := Lib.hid (open_any hm)
    have HF := Lib.hid hF
    have HB1 := Lib.hid hb
    clear hm hF hb HN
    go_wp2_with fail
    refine (HO.out).mono ?_
    rintro e w2 ⟨hb2, ho⟩
    rw [open1000] at ho
    obtain ⟨g, K, rfl, hbo, hK⟩ := ho
    have R0 : Hid (AR w w2 g d (newS 1000) lr0 F K (.slice none 0 0) []) := by
      refine ⟨⟨⟨hbo, fun b hb => ?_, (HB1.out).trans (hb2.mono (HB1.out).size)⟩, ⟨rfl, .inl ⟨rfl, rfl⟩⟩, (fun b hb => by simp [Value.ownBlock] at hb), (fun r hr => by cases hr)⟩, clean_new (by decide), rfl, rfl, rfl, rfl, (fun r hr => by cases hr)⟩
      rcases hb with hb | hb
      · exact (HF.out) b hb
      · have h1 := hK b hb; have h2 := (HB1.out).size; omega
    clear hb2 hbo hK HO HF HB1
    go_wp2_with fail
    go_loopw [15, 17] (fun ov iv wr => ∃ (i : Nat) (s : DS) (l : LS) (F K : Nat → Prop) (old : List Rc), iv = .int .i64 (i : Int) ∧ i ≤ n0 ∧ old.length = i ∧ AR w wr g d s l F K ov old) (fun _ iv _ => n0 - (intOf iv).toNat)
    case atStart => exact ⟨0, _, _, _, _, [], rfl, Nat.zero_le _, rfl, R0.out⟩
    case round =>
      obtain ⟨i, s, l, F, K, old, rfl, hi, hol, hR⟩ := hrel
      have RR := Lib.hid hR
      have HOL := Lib.hid hol
      clear hR R0 hol
      by_cases hlt : i < n0
      · have dlt : decide ((i : Int) < (n0 : Int)) = true := by simp; omega
        obtain ⟨r, hr⟩ : ∃ r, xs[i]? = some r := ⟨xs[i]'(by rw [HXL.out]; exact hlt), List.getElem?_eq_getElem _⟩
        obtain ⟨b1, o1, u1, rfl, hb1, hu1, g1⟩ := ((HX.out).below (RR.out).lr.lb.bel).at1 hlt
        obtain rfl : u1 = .slice r.A r.b.length r.c := by rw [rcell_at hr] at hu1; injection hu1 with hu1; exact hu1.symm
        have GR := (HXG.out) r (List.mem_of_getElem? hr)
        have hsm := GR.small
        have hne : ¬ n0 ≤ i := by omega
        obtain ⟨q, hqA, hqc, hqg, hqb⟩ : ∃ q : Rc, q.A = r.A ∧ q.c = r.c ∧ GoodR w q ∧ ((r.b.length ≤ 30 ∧ q.b.length = r.b.length) ∨ (¬ r.b.length ≤ 30 ∧ q.b.length = 30)) := by
          by_cases h30 : r.b.length ≤ 30
          · exact ⟨r, rfl, rfl, GR, .inl ⟨h30, rfl⟩⟩
          · exact ⟨r.cut 30, rfl, rfl, GR.cut 30, .inr ⟨h30, by show (r.b.take 30).length = 30; rw [List.length_take]; omega⟩⟩
        have hql : q.b.length ≤ 30 := by rcases hqb with ⟨h1, h2⟩ | ⟨h1, h2⟩ <;> omega
        have hcapr := GR.cap
        have hcap30 : ¬ r.b.length ≤ 30 → 30 ≤ r.c := fun h => by have := GR.cap; omega
        have HQ := Lib.hid hqg
        have hfr : ∀ ad : Addr, ad.block < w.heap.size → ¬ F ad.block ∧ ¬ K ad.block := fun ad hl => ⟨fun hF => by have := (RR.out).lr.lb.own _ (.inl hF); omega, fun hK => by have := (RR.out).lr.lb.own _ (.inr hK); omega⟩
        have hqlt : 0 < q.b.length → ∀ ad, q.A = some ad → ¬ F ad.block ∧ ¬ K ad.block := fun hn ad ha => hfr ad (hqg.read.at_block hn ad ha)
        have hroom : l.fin + 6 + q.b.length ≤ l.half := by
          have h1 := (RR.out).clean.fin
          have h2 := short_area (RR.out).short (show old.length ≤ 8 by rw [HOL.out]; omega)
          rw [← (RR.out).recs, ← h1] at h2
          rw [(RR.out).half]
          omega
        have HAP : Hid (∀ nq, Calls Try.prog 14 #[.pointer (some ⟨g, 0, none⟩), .slice r.A q.b.length r.c] (wr.drewN nq) (AppPost (wr.drewN nq) g d F K (appS s l q.b))) := fun nq => by
          have hb2 := below_drewN (Below.refl wr.heap.size wr) nq
          rw [← hqA, ← hqc]
          exact app_any ((RR.out).lr.lb.both.below hb2) (by rw [(RR.out).half, (RR.out).long]; decide) (by omega) ((hqg.up (RR.out).lr.lb.bel).read) hqlt hqg.byte
        obtain ⟨s1, happ, hcl1, hfu1, hlo1⟩ := app_good (f := none) (RR.out).clean hroom (by omega) (.inl ⟨(RR.out).fuse, rfl⟩)
        rw [happ] at HAP
        have hr1 : ({ l with recs := l.recs ++ [q.b], fin := l.fin + 5 + q.b.length } : LS).recs = l.recs ++ [q.b] := rfl
        have hh1 : ({ l with recs := l.recs ++ [q.b], fin := l.fin + 5 + q.b.length } : LS).half = 499 := (RR.out).half
        generalize ({ l with recs := l.recs ++ [q.b], fin := l.fin + 5 + q.b.length } : LS) = l1 at HAP hcl1 hr1 hh1
        have HC1 : Hid (Clean s1 l1 ∧ s1.fuse = none ∧ s1.dur.length = 1000 ∧ l1.recs = l.recs ++ [q.b] ∧ l1.half = 499) := ⟨hcl1, hfu1, hlo1.trans (RR.out).long, hr1, hh1⟩
        have HQS := Lib.hid hql
        clear hu1 GR hr hqlt hfr hqg happ hcl1 hfu1 hlo1 hr1 hh1 hroom
        have hcase : (min (r.b.length : Int) 30 = (r.b.length : Int) ∧ q.b.length = r.b.length ∧ r.b.length ≤ r.c) ∨ ((30 : Int) < (r.b.length : Int) ∧ min (r.b.length : Int) 30 = 30 ∧ q.b.length = 30 ∧ 30 ≤ r.c) := by
          rcases hqb with ⟨h1, h2⟩ | ⟨h1, h2⟩
          · exact .inl ⟨by omega, h2, hcapr⟩
          · exact .inr ⟨by omega, by omega, h2, hcap30 h1⟩
        clear hqb hcap30 hcapr
        rcases hcase with ⟨e1, e2, e3⟩ | ⟨e0, e1, e2, e3⟩
        all_goals
          rw [e2] at HAP
          have E2 := Lib.hid e2
          clear e2
          go_wp2_with fail
          go_quiet (fail)
          go_wp2_with fail
        all_goals have HAQ := HAP.out nq
        all_goals clear HAP
        all_goals refine Calls.mono HAQ ?_
        all_goals
          clear HAQ
          intro e w5 ha
          obtain ⟨rfl, F5, K5, h5⟩ := ((RR.out).lr.drewN nq).app ha
          simp only at h5
          have H5 := Lib.hid h5
          clear ha h5
          go_wp2_with (at_builtin; refine wpList_append_row _ rfl (.tmp 73) (.tmp 75) 35 35 rfl w.heap.size 32 i0 (.slice none 0 0) 1 24 Try.underlying35 HI0.out HZ0.out HZ1.out HZ2.out rfl (by decide) _ old.length _ rfl (((H5.out).alloc _).own) _ 1 _ rfl (src_new w5 Try.underlying35 [_] 1 1 1 32 rfl (fun u hu => by simp at hu; subst hu; rfl)) (by rw [HOL.out]; unfold maxLen; omega) (by rw [HOL.out]; omega) (by have := (H5.out).lb.bel.size; simp; omega) ?_)
          intro v6 w6 ho6 hg6
          have L6 := Lib.hid (((H5.out).alloc _).push (q := q) hg6 (by rw [hqA, hqc, E2.out]; exact ho6) HQ.out)
          clear ho6 hg6 H5
          go_wp2_with fail
          go_roundw
          case rel => exact ⟨i + 1, s1, l1, F5, K5, old ++ [q], by go_num, by omega, by rw [List.length_append, HOL.out]; rfl, ⟨L6.out, (HC1.out).1, by rw [(HC1.out).2.2.2.1, (RR.out).recs, List.map_append]; rfl, (HC1.out).2.1, (HC1.out).2.2.2.2, (HC1.out).2.2.1, fun x hx => by
            rcases List.mem_append.1 hx with hx | hx
            · exact (RR.out).short x hx
            · obtain rfl : x = q := by simpa using hx
              exact HQS.out⟩⟩
          case measure => simp [intOf]; omega
      · have dlt : decide ((i : Int) < (n0 : Int)) = false := by simp; omega
        obtain rfl : i = n0 := by omega
        obtain ⟨Ao, co, hv, -⟩ := (RR.out).lr.rca
        subst hv
        have hwsz := (RR.out).lr.lb.bel.size
        have F0 : Hid (wr.ownsRow wr.heap.size 32 1 (.slice none 0 0) 0 []) := ⟨rfl, .inl ⟨rfl, rfl⟩⟩
        go_wp2_with fail
        obtain ⟨wo, rfl⟩ : ∃ wo : World, wo = wr := ⟨_, rfl⟩
        go_loopw [16, 19] (fun fv jv wq => ∃ (j : Nat) (fr : List Rc), jv = .int .i64 (j : Int) ∧ j ≤ n1 ∧ fr.length = j ∧ wq.ownsRow wo.heap.size 32 1 fv fr.length (fr.flatMap rcell) ∧ Below wo.heap.size wo wq ∧ ∀ r ∈ fr, GoodR w r ∧ r.b.length ≤ 30) (fun _ jv _ => n1 - (intOf jv).toNat)
        case atStart => exact ⟨0, [], rfl, Nat.zero_le _, rfl, F0.out, Below.refl _ _, (fun r hr => by cases hr)⟩
        case round =>
          obtain ⟨j, fr, rfl, hj, hfl, ho, hbq, hfg⟩ := hrel
          have HFL := Lib.hid hfl
          have HO := Lib.hid ho
          have HBQ := Lib.hid hbq
          have HFG := Lib.hid hfg
          have hqs := hbq.size
          have hbw : Below w.heap.size w wr := (RR.out).lr.lb.bel.trans (hbq.mono (RR.out).lr.lb.bel.size)
          have HBW := Lib.hid hbw
          clear hfl ho hbq hfg F0 hbw
          by_cases hlt2 : j < n1
          · have dlt2 : decide ((j : Int) < (n1 : Int)) = true := by simp; omega
            obtain ⟨r, hr⟩ : ∃ r, ys[j]? = some r := ⟨ys[j]'(by rw [HYL.out]; exact hlt2), List.getElem?_eq_getElem _⟩
            obtain ⟨b1, o1, u1, rfl, hb1, hu1, g1⟩ := ((HY.out).below (HBW.out)).at1 hlt2
            obtain rfl : u1 = .slice r.A r.b.length r.c := by rw [rcell_at hr] at hu1; injection hu1 with hu1; exact hu1.symm
            have GR := (HYG.out) r (List.mem_of_getElem? hr)
            have hsm := GR.small
            have hne : ¬ n1 ≤ j := by omega
            obtain ⟨q, hqA, hqc, hqg, hqb⟩ : ∃ q : Rc, q.A = r.A ∧ q.c = r.c ∧ GoodR w q ∧ ((r.b.length ≤ 30 ∧ q.b.length = r.b.length) ∨ (¬ r.b.length ≤ 30 ∧ q.b.length = 30)) := by
              by_cases h30 : r.b.length ≤ 30
              · exact ⟨r, rfl, rfl, GR, .inl ⟨h30, rfl⟩⟩
              · exact ⟨r.cut 30, rfl, rfl, GR.cut 30, .inr ⟨h30, by show (r.b.take 30).length = 30; rw [List.length_take]; omega⟩⟩
            have hql : q.b.length ≤ 30 := by rcases hqb with ⟨h1, h2⟩ | ⟨h1, h2⟩ <;> omega
            have hcapr := GR.cap
            have hcap30 : ¬ r.b.length ≤ 30 → 30 ≤ r.c := fun h => by have := GR.cap; omega
            have HQ := Lib.hid hqg
            have HQS := Lib.hid hql
            have hcase : ((((30 : Int) < (r.b.length : Int)) = False) ∧ q.b.length = r.b.length ∧ (r.b.length : Int) ≤ (r.c : Int)) ∨ ((30 : Int) < (r.b.length : Int) ∧ q.b.length = 30 ∧ (30 : Int) ≤ (r.c : Int)) := by
              rcases hqb with ⟨h1, h2⟩ | ⟨h1, h2⟩
              · exact .inl ⟨eq_false (by omega), h2, by omega⟩
              · exact .inr ⟨by omega, h2, by have := hcap30 h1; omega⟩
            clear hqb hcap30 hcapr hu1 GR hr hqg
            rcases hcase with ⟨e0, e2, e3⟩ | ⟨e0, e2, e3⟩
            all_goals
              have E2 := Lib.hid e2
              clear e2
              go_wp2_with fail
              go_region_law (refine step_append_row _ rfl (.tmp 83) (.tmp 95) 35 35 rfl wo.heap.size 32 i0 (.slice none 0 0) 1 24 Try.underlying35 HI0.out HZ0.out HZ1.out HZ2.out rfl (by decide) u16 fr.length (fr.flatMap rcell) (by simp [Act.eval]) ((World.ownsRow.alloc (w := wr.drew) (HO.out) _)) _ 1 _ (by simp [Act.eval]) (src_new wr.drew Try.underlying35 [_] 1 1 1 32 rfl (fun u hu => by simp at hu; subst hu; rfl)) (by rw [HFL.out]; unfold maxLen; omega) (by rw [HFL.out]; omega) (by simp; omega) ?_; intro v6 w6 ho6 hg6)
              all_goals
                have O6 : Hid (w6.ownsRow wo.heap.size 32 1 v6 (fr ++ [q]).length ((fr ++ [q]).flatMap rcell)) := by
                  unfold Hid
                  rw [List.flatMap_append, List.length_append]
                  show w6.ownsRow wo.heap.size 32 1 v6 (fr.length + 1) (fr.flatMap rcell ++ [.slice q.A q.b.length q.c])
                  rw [hqA, hqc, E2.out]
                  exact ho6
                have B6 : Hid (Below wo.heap.size wo w6) := (below_drewN ((HBQ.out).alloc hqs _) 1).trans (hg6.below (by simp; omega) (own_from HO.out))
                clear ho6 hg6
                go_wp2_with fail
                go_roundw
                case rel => exact ⟨j + 1, fr ++ [q], by go_num, by omega, by rw [List.length_append, HFL.out]; rfl, O6.out, B6.out, fun x hx => by
                  rcases List.mem_append.1 hx with hx | hx
                  · exact (HFG.out) x hx
                  · obtain rfl : x = q := by simpa using hx
                    exact ⟨HQ.out, HQS.out⟩⟩
                case measure => simp [intOf]; omega
          · have dlt2 : decide ((j : Int) < (n1 : Int)) = false := by simp; omega
            obtain rfl : j = n1 := by omega
            obtain ⟨Af, cf, hv, -, -⟩ := reads_of_owns HO.out
            subst hv
            have OA : Hid (RcA wr (fun i => F i ∨ K i) Ao old) := by
              obtain ⟨A', c', hv, hrc⟩ := (RR.out).lr.rca
              injection hv with hv1
              rw [← hv1] at hrc
              exact hrc.below (HBQ.out)
            have FA : Hid (RcA wr (fun i => F i ∨ K i) Af fr) := RcA.of_own (owns_up HO.out (fun b hb => Nat.le_trans hwsz (own_from HO.out b hb))) (fun r hr => ((HFG.out) r hr).1) (HBW.out) (fun b hb hx => by
              have h1 := own_from HO.out b hb
              have h2 := (RR.out).lr.lb.lt b hx
              omega) (RR.out).lr.lb.own
            have hol8 : old.length ≤ 8 := by rw [HOL.out]; omega
            have hfl8 : fr.length ≤ 8 := by rw [HFL.out]; omega
            have hbs := short_area (m := 8) (fun r hr => ((HFG.out) r hr).2) hfl8
            obtain ⟨bs, hbe⟩ : ∃ bs, bs = fr.map (·.b) := ⟨_, rfl⟩
            rw [← hbe] at hbs
            have hroom : (areaS bs).length + 1 ≤ l.half := by rw [(RR.out).half]; omega
            have hlens : ∀ b ∈ bs, b.length < 4294967296 := fun b hb => by
              rw [hbe] at hb
              obtain ⟨r, hr, rfl⟩ := List.mem_map.1 hb
              have := ((HFG.out) r hr).2
              omega
            have hcases := reset_cases (k := k) (clean_fuse (RR.out).clean (k : Int)) (by show (if (k : Int) < 0 then none else some (k : Int).toNat) = some k; rw [if_neg (by omega)]; rfl) hroom hlens
            have HCASES := Lib.hid hcases
            have HBE := Lib.hid hbe
            have HREC := Lib.hid (RR.out).recs
            have LX := Lib.hid ((RR.out).lr.lb.below (HBQ.out))
            clear hcases hbe hbs hroom hlens RR HO HBQ HBW hwsz hqs
            go_wp2_with fail
            refine ((HM.out) _).mono ?_
            rintro e w3 ⟨rfl, rfl⟩
            clear HM
            have HU := Lib.hid (fuse_m d s F (k : Int) _ (LX.out).both.disk (by omega))
            go_wp2_with fail
            refine (HU.out).mono ?_
            rintro e w4 ⟨rfl, ho⟩
            obtain ⟨F4, h4, hn4⟩ := (LX.out).opA ho
            have OA4 := Lib.hid (hn4 OA.out)
            have FA4 := Lib.hid (hn4 FA.out)
            have L4 := Lib.hid h4
            have HRS := reset_any (c := cf) h4.both (by omega) (fun r hr => by have := ((HFG.out) r hr).2; omega) (hn4 FA.out)
            rw [← HBE.out] at HRS
            have hcr := HCASES.out
            generalize resetS (fuseS s (k : Int)) l bs = rr at HRS hcr
            obtain ⟨xr, sr, lr⟩ := rr
            have hcr2 : (xr = 0 ∧ ∀ keep part, Clean (crashS sr keep part) (newL l bs)) ∨ (xr = 15 ∧ ∀ keep part, Clean (crashS sr keep part) l ∨ Clean (crashS sr keep part) (newL l bs)) := by
              rcases hcr with ⟨s', h1, h2⟩ | ⟨s', h1, h2⟩
              · simp only [Prod.mk.injEq] at h1
                obtain ⟨rfl, rfl, rfl⟩ := h1
                exact .inl ⟨rfl, h2⟩
              · simp only [Prod.mk.injEq] at h1
                obtain ⟨rfl, rfl, rfl⟩ := h1
                exact .inr ⟨rfl, h2⟩
            have HC2 := Lib.hid hcr2
            replace HRS := Lib.hid HRS
            clear ho h4 hn4 hcr hcr2 HU LX OA FA HCASES
            go_wp2_with fail
            refine (HRS.out).mono ?_
            intro e w5 ha
            obtain ⟨rfl, F5, K5, h5, hn5⟩ := (L4.out).appA ha
            have OA5 := Lib.hid (hn5 OA4.out)
            have FA5 := Lib.hid (hn5 FA4.out)
            have L5 := Lib.hid h5
            simp only at L5
            have HCRA := crash_m d sr F5 a3 k3 ks part w5 h5.both.disk (by rw [HKL.out]; omega) (by rw [HKL.out]; exact (((HK.out).below h5.bel).more h5.bel.size)) (fun hn ad ha hF => by
              have h1 := (HK.out).at_block (by rw [HKL.out] at hn; exact hn) ad ha
              have h2 := h5.own _ (.inl hF)
              omega)
            rw [HKL.out] at HCRA
            replace HCRA := Lib.hid HCRA
            clear ha h5 hn5 HRS L4 OA4 FA4
            go_wp2_with fail
            refine (HCRA.out).mono ?_
            rintro e w6 ⟨rfl, ho⟩
            obtain ⟨F6, h6, hn6⟩ := (L5.out).opA ho
            have OA6 := Lib.hid (hn6 OA5.out)
            have FA6 := Lib.hid (hn6 FA5.out)
            have L6 := Lib.hid h6
            have HOP := Lib.hid (open_any h6.both.disk)
            have hl2 : ∃ l2, openS (crashS sr ks part) = some l2 ∧ ((xr = 0 ∧ l2.recs = bs) ∨ (xr = 15 ∧ (l2.recs = old.map (·.b) ∨ (¬ l2.recs = old.map (·.b) ∧ l2.recs = bs)))) := by
              rcases HC2.out with ⟨h1, h2⟩ | ⟨h1, h2⟩
              · exact ⟨_, open_clean (h2 ks part), .inl ⟨h1, rfl⟩⟩
              · rcases h2 ks part with h3 | h3
                · exact ⟨_, open_clean h3, .inr ⟨h1, .inl (HREC.out)⟩⟩
                · by_cases he : bs = old.map (·.b)
                  · exact ⟨_, open_clean h3, .inr ⟨h1, .inl he⟩⟩
                  · exact ⟨_, open_clean h3, .inr ⟨h1, .inr ⟨he, rfl⟩⟩⟩
            obtain ⟨l2, hop2, hx2⟩ := hl2
            have HX2 := Lib.hid hx2
            have HOP2 := Lib.hid hop2
            clear ho h6 hn6 hop2 hx2 HCRA HC2 L5 OA5 FA5
            go_wp2_with fail
            refine (HOP.out).mono ?_
            rintro e w7 ⟨hb7, ho⟩
            rw [HOP2.out] at ho
            obtain ⟨g7, K7, rfl, hbo, hK⟩ := ho
            obtain ⟨h7, hn7⟩ := (L6.out).opened hb7 hbo hK
            have L7 := Lib.hid h7
            have OA := Lib.hid (hn7 OA6.out)
            have FA := Lib.hid (hn7 FA6.out)
            have hx2 := HX2.out
            clear hb7 hbo hK h7 hn7 HOP HOP2 HX2 L6 OA6 FA6
            rcases hx2 with ⟨rfl, h2⟩ | ⟨rfl, h2 | ⟨h3, h2⟩⟩
            · have E1 : decide (l2.recs = fr.map (·.b)) = true := decide_eq_true (by rw [h2, HBE.out])
              clear h2
              go_wp2_with fail
              refine (recs_m (L7.out).both.log).mono ?_
              rintro e w8 ⟨rs8, A8, c8, rfl, hm8, hl8, hr8, hb8⟩
              have L8 := Lib.hid ((L7.out).below hb8)
              have OA8 := Lib.hid ((OA.out).below hb8)
              have FA8 := Lib.hid ((FA.out).below hb8)
              have HS := same_any (c := c8) (c' := cf) hr8.rcr (FA8.out).rcr (by omega) (by omega)
              rw [hm8, E1] at HS
              replace HS := Lib.hid HS
              clear hm8 hr8 hb8 L7 OA FA
              go_wp2_with fail
              refine (HS.out).mono ?_
              rintro e w9 ⟨rfl, q9, hw9⟩
              have hb9 : Below w8.heap.size w8 w9 := by rw [hw9]; exact below_drewN (Below.refl _ w8) q9
              have L9 := Lib.hid ((L8.out).below hb9)
              have OA := Lib.hid ((OA8.out).below hb9)
              have FA := Lib.hid ((FA8.out).below hb9)
              clear hw9 hb9 HS L8 OA8 FA8
              have BB := Lib.hid (L9.out).bel
              go_wp2_with fail
              refine ((HA _).out).mono ?_
              rintro e w18 ⟨rfl, hb18⟩
              have B18 := Lib.hid ((BB.out).trans (hb18.mono (BB.out).size))
              clear hb18 HA
              go_wp2_with fail
              go_ret
              exact ⟨rfl, B18.out⟩
            · have E1 : decide (l2.recs = old.map (·.b)) = true := decide_eq_true h2
              clear h2
              go_wp2_with fail
              refine (recs_m (L7.out).both.log).mono ?_
              rintro e w8 ⟨rs8, A8, c8, rfl, hm8, hl8, hr8, hb8⟩
              have L8 := Lib.hid ((L7.out).below hb8)
              have OA8 := Lib.hid ((OA.out).below hb8)
              have FA8 := Lib.hid ((FA.out).below hb8)
              have HS := same_any (c := c8) (c' := co) hr8.rcr (OA8.out).rcr (by omega) (by omega)
              rw [hm8, E1] at HS
              replace HS := Lib.hid HS
              clear hm8 hr8 hb8 L7 OA FA
              go_wp2_with fail
              refine (HS.out).mono ?_
              rintro e w9 ⟨rfl, q9, hw9⟩
              have hb9 : Below w8.heap.size w8 w9 := by rw [hw9]; exact below_drewN (Below.refl _ w8) q9
              have L9 := Lib.hid ((L8.out).below hb9)
              have OA := Lib.hid ((OA8.out).below hb9)
              have FA := Lib.hid ((FA8.out).below hb9)
              clear hw9 hb9 HS L8 OA8 FA8
              have BB := Lib.hid (L9.out).bel
              go_wp2_with fail
              refine ((HA _).out).mono ?_
              rintro e w18 ⟨rfl, hb18⟩
              have B18 := Lib.hid ((BB.out).trans (hb18.mono (BB.out).size))
              clear hb18 HA
              go_wp2_with fail
              go_ret
              exact ⟨rfl, B18.out⟩
            · have E1 : decide (l2.recs = old.map (·.b)) = false := decide_eq_false h3
              have E2 : decide (l2.recs = fr.map (·.b)) = true := decide_eq_true (by rw [h2, HBE.out])
              clear h2 h3
              go_wp2_with fail
              refine (recs_m (L7.out).both.log).mono ?_
              rintro e w8 ⟨rs8, A8, c8, rfl, hm8, hl8, hr8, hb8⟩
              have L8 := Lib.hid ((L7.out).below hb8)
              have OA8 := Lib.hid ((OA.out).below hb8)
              have FA8 := Lib.hid ((FA.out).below hb8)
              have HS := same_any (c := c8) (c' := co) hr8.rcr (OA8.out).rcr (by omega) (by omega)
              rw [hm8, E1] at HS
              replace HS := Lib.hid HS
              clear hm8 hr8 hb8 L7 OA FA
              go_wp2_with fail
              refine (HS.out).mono ?_
              rintro e w9 ⟨rfl, q9, hw9⟩
              have hb9 : Below w8.heap.size w8 w9 := by rw [hw9]; exact below_drewN (Below.refl _ w8) q9
              have L9 := Lib.hid ((L8.out).below hb9)
              have OA := Lib.hid ((OA8.out).below hb9)
              have FA := Lib.hid ((FA8.out).below hb9)
              clear hw9 hb9 HS L8 OA8 FA8
              go_wp2_with fail
              refine (recs_m (L9.out).both.log).mono ?_
              rintro e w10 ⟨rs10, A10, c10, rfl, hm10, hl10, hr10, hb10⟩
              have L10 := Lib.hid ((L9.out).below hb10)
              have OA10 := Lib.hid ((OA.out).below hb10)
              have FA10 := Lib.hid ((FA.out).below hb10)
              have HS := same_any (c := c10) (c' := cf) hr10.rcr (FA10.out).rcr (by omega) (by omega)
              rw [hm10, E2] at HS
              replace HS := Lib.hid HS
              clear hm10 hr10 hb10 L9 OA FA
              go_wp2_with fail
              refine (HS.out).mono ?_
              rintro e w11 ⟨rfl, q11, hw11⟩
              have hb11 : Below w10.heap.size w10 w11 := by rw [hw11]; exact below_drewN (Below.refl _ w10) q11
              have L11 := Lib.hid ((L10.out).below hb11)
              have OA := Lib.hid ((OA10.out).below hb11)
              have FA := Lib.hid ((FA10.out).below hb11)
              clear hw11 hb11 HS L10 OA10 FA10
              have BB := Lib.hid (L11.out).bel
              go_wp2_with fail
              refine ((HA _).out).mono ?_
              rintro e w18 ⟨rfl, hb18⟩
              have B18 := Lib.hid ((BB.out).trans (hb18.mono (BB.out).size))
              clear hb18 HA
              go_wp2_with fail
              go_ret
              exact ⟨rfl, B18.out⟩
theorem own : ownKnob Try.prog.godebug = none := by kernel_rfl
theorem laidOut : laidOutB Try.prog = true := by kernel_rfl
theorem specN (H : Type) (ds : List (DataW H)) (h : ds.length = 5) : Rows.logResetsSpec.fn H (ds ++ []) = { results := [.lit (.bool true)], args := ds } := by
  match ds, h with
  | [_, _, _, _, _], _ => rfl

set_option maxRecDepth 100000 in
theorem lifted (os : Os) (started : os.Started) (H : Type) (enc : TypeId × Value → H) :
    ReturnsInHanded {} Try.checked os 6 .any (Rows.logResetsSpec.pre6 enc Try.prog Try.f6 Rows.logResetsRow.domain false) (Rows.logResetsSpec.post enc Try.prog Try.f6 false true false false) := by
  refine law_of_walk (C := Try.checked) own started (by kernel_rfl) Try.func6 rfl rfl Try.underlying4 laidOut (by kernel_rfl) (fun ds h => specN H ds (h.trans (by kernel_rfl)))
    (ChangeSpec.witness6 (enc := enc) (C := Try.checked) false ⟨#[], #[.slice none 0 0, .slice none 0 0, .int .i64 0, .slice none 0 0, .int .i64 0], []⟩ 8 (by kernel_rfl) (by kernel_rfl) (by kernel_rfl) (by kernel_rfl)) ?_
  intro W base args ds p hval hA hsz
  have hval' : ∀ (j : Nat) t v, Try.f6.params[j]? = some t → args[j]? = some v → Value.okWide Try.prog W .any base t v := hval
  rw [Try.params6] at hval' hA hsz
  obtain ⟨v0, vs0, d0, ds0, p0, q0, hargs, rfl, rfl, h0, r0⟩ := trodAll_cons hA
  obtain ⟨v1, vs1, d1, ds1, p1, q1, rfl, rfl, rfl, h1, r1⟩ := trodAll_cons r0
  obtain ⟨v2, vs2, d2, ds2, p2, q2, rfl, rfl, rfl, h2, r2⟩ := trodAll_cons r1
  obtain ⟨v3, vs3, d3, ds3, p3, q3, rfl, rfl, rfl, h3, r3⟩ := trodAll_cons r2
  obtain ⟨v4, vs4, d4, ds4, p4, q4, rfl, rfl, rfl, h4, r4⟩ := trodAll_cons r3
  obtain ⟨rfl, rfl, rfl⟩ := trodAll_nil r4
  obtain rfl : args = #[v0, v1, v2, v3, v4] := by cases args; simp_all
  obtain ⟨a0, len0, cap0, rfl⟩ := okWide_slice Try.underlying35 (hval' 0 35 v0 rfl rfl)
  obtain ⟨t0, x0, y0, z0, g0⟩ := open_recs h0 (sm_arg hsz (j := 0) rfl rfl)
  obtain ⟨a1, len1, cap1, rfl⟩ := okWide_slice Try.underlying35 (hval' 1 35 v1 rfl rfl)
  obtain ⟨t1, x1, y1, z1, g1⟩ := open_recs h1 (sm_arg hsz (j := 1) rfl rfl)
  obtain ⟨a2, rfl, rfl, rfl, w2⟩ := open_int Try.underlying3 (hval' 2 3 v2 rfl rfl) h2
  obtain ⟨a3, len3, cap3, rfl⟩ := okWide_slice Try.underlying36 (hval' 3 36 v3 rfl rfl)
  obtain ⟨fu3, hf3⟩ := h3
  obtain ⟨s3, t3, x3, rfl, y3⟩ := open_boolsS (d := d3) (p := p3) Try.underlying36 Try.underlying4 (by kernel_rfl) (of_decide_eq_true (by kernel_rfl)) hf3 (sm_arg hsz (j := 3) rfl rfl)
  obtain ⟨a4, rfl, rfl, rfl, w4⟩ := open_int Try.underlying3 (hval' 4 3 v4 rfl rfl) h4
  exact walk a0 len0 cap0 a1 len1 cap1 a2 a3 _ cap3 a4 x0 x1 x3 W t0 y0 z0 g0 t1 y1 z1 g1 w2 t3 rfl y3

theorem proved : Rows.LogResetsSaid :=
  OpenClaim.holds_of_wide 6 Try.f6 rfl rfl rfl rfl rfl rfl rfl ⟨rfl, rfl, rfl, rfl, rfl⟩ rfl rfl rfl rfl rfl (by kernel_rfl) Try.func6 (by kernel_rfl)
    (of_decide_eq_true (by kernel_rfl)) (by unfold Func.isWrapper; first | (rw [if_pos (by decide +kernel)]; kernel_rfl) | (rw [if_neg (by decide +kernel)]; exact ⟨rfl, rfl⟩))
    (fun os started H enc _ => lifted os started H enc)
end Go.Proofs.Ytnjafhlpnoikcaa.logResets
