/-
  SequenceVerifies: for every input the law returns true, and its arguments are as they were. No condition beside the given statement's own.
-/
import Derived.Test.YtaadaekpmblpaaaSqZ
import Derived.Test.YtaadaekpmblpaaaSqY
import Derived.Test.YtaadaekpmblpaaaFut
import Derived.Test.YtaadaekpmblpaaaTail
namespace Go.Proofs.Ytaadaekpmblpaaa.sequenceVerifies
open Go.ChangeShapes Go.WideShapes Go.ChangeAt Go.RowKit
open Go.ChangeMaps (open_string shut_string)
set_option linter.unusedVariables false

theorem _root_.Go.Proofs.Ytaadaekpmblpaaa.Made.past {w : World} {g m n : Nat} {bs : List Nat} {f : Nat → Nat → Int} (h : Made w g m n bs f) {p : Addr} (hp : g < p.block) (hb : ∀ b ∈ bs, b < p.block) (u : Value) : Made (w.setCell p u) g m n bs f :=
  ⟨h.head.far (by omega) u, fun k b hk => (h.row k b hk).far (by have := hb b (List.mem_of_getElem? hk); omega) u, h.up, h.sep, h.le⟩
theorem ver_fut {w : World} {x : Fut w} {f : FuncId} {args : Array Value} {b : Bool} (h : Calls Try.prog f args x.to (VerPost x.to b)) : Calls Try.prog f args x.to (fun e w'' => e = .returned (.bool b) ∧ ∃ y : Fut w, w'' = y.to) := fut_call h
/-- pairs stay pairs when a number is stored -/
theorem prs_stays {w : World} {B n : Nat} {A : Option Addr} {ps : List (Int × Int)} (h : Prs w B A n ps) (p : Addr) (x : Int) : ∃ qs, Prs (w.setCell p (.int .i64 x)) B A n qs ∧ qs.length = ps.length := by
  have hl := Prs.len h
  rcases Nat.eq_zero_or_pos n with h0 | h0
  · subst h0
    have : ps = [] := List.eq_nil_of_length_eq_zero hl
    subst this
    exact ⟨[], Reads.none_, rfl⟩
  obtain ⟨ad, rfl, hb, hc⟩ := h.2 h0
  have key : ∀ (j : Nat) (u : Int), w.cell? (ad.add j) = some (.int .i64 u) → ∃ u', (w.setCell p (.int .i64 x)).cell? (ad.add j) = some (.int .i64 u') := fun j u hu => by
    by_cases e : p = ad.add j
    · rw [← e] at hu ⊢
      obtain ⟨v', hv⟩ := cell?_setCell_some (w := w) (p := p) (x := .int .i64 x) (q := p) (v := .int .i64 u) hu
      have := World.cell?_setCell_same w p (.int .i64 x) (by rw [hu])
      exact ⟨x, this⟩
    · exact ⟨u, by rw [World.cell?_setCell_other w p _ _ e]; exact hu⟩
  have each : ∀ i, i < n → ∃ q : Int × Int, (w.setCell p (.int .i64 x)).cell? (ad.add (i * 2)) = some (.int .i64 q.1) ∧ (w.setCell p (.int .i64 x)).cell? (ad.add (i * 2 + 1)) = some (.int .i64 q.2) := fun i hi => by
    have hi' : i < ps.length := by omega
    have hp := pcells_at ps i _ (List.getElem?_eq_getElem hi')
    obtain ⟨u1, h1⟩ := key _ _ (hc _ _ hp.1)
    obtain ⟨u2, h2⟩ := key _ _ (hc _ _ hp.2)
    exact ⟨(u1, u2), h1, h2⟩
  obtain ⟨f, hf⟩ := Go.Deep.choose_lt each
  refine ⟨(List.range n).map f, ⟨by rw [pcells_len]; simp, fun _ => ⟨ad, rfl, hb, fun j u hu => ?_⟩⟩, by simp [hl]⟩
  have hj := (List.getElem?_eq_some_iff.1 hu).1
  rw [pcells_len] at hj
  simp at hj
  obtain ⟨k, hk⟩ : ∃ k, j / 2 = k := ⟨_, rfl⟩
  have hp := pcells_at ((List.range n).map f) k (f k) (by rw [List.getElem?_map, List.getElem?_range (by omega)]; rfl)
  obtain ⟨g1, g2⟩ := hf k (by omega)
  rcases Nat.mod_two_eq_zero_or_one j with h2 | h2
  · obtain rfl : j = k * 2 := by omega
    rw [hp.1] at hu
    injection hu with hu
    rw [g1, hu]
  · obtain rfl : j = k * 2 + 1 := by omega
    rw [hp.2] at hu
    injection hu with hu
    rw [g2, hu]

set_option maxRecDepth 100000 in
set_option maxHeartbeats 1600000 in
theorem walk (z1 z2 : Int) (A : Option Addr) (n c : Nat) (l : List Int) (Aa : Option Addr) (na ca : Nat) (xa : Int) (Ab : Option Addr) (nb cb : Nat) (qs : List (Int × Int)) (pot : List (List Int)) (z4 z5 z6 : Int) (w : World) (v1 : (Lit.int .i64 z1).wf = true) (v2 : (Lit.int .i64 z2).wf = true) (hn : n ≤ maxLen) (hr : Ints w w.heap.size A n l) (hl : ∀ x ∈ l, -9223372036854775808 ≤ x ∧ x ≤ 9223372036854775807) (hna : na ≤ maxLen) (hnb : nb ≤ maxLen) (hqs : Prs w w.heap.size Aa na qs) (hpot : Mat w w.heap.size Ab nb pot) (v4 : (Lit.int .i64 z4).wf = true) (v5 : (Lit.int .i64 z5).wf = true) (v6 : (Lit.int .i64 z6).wf = true) :
    Calls Try.prog 6 #[.int .i64 z1, .int .i64 z2, .slice A n c, .agg #[.slice Aa na ca, .int .i64 xa, .slice Ab nb cb], .int .i64 z4, .int .i64 z5, .int .i64 z6] w fun e w' => e = .returned (.bool true) ∧ Below w.heap.size w w' := by
  have HA := fun w => Lib.hid (awake_any w)
  have HG := Lib.hid (fun w => llight_any A n c w hn)
  have HM1 := Lib.hid (fun w => mod_any z1 9 w (by omega) (by omega) (wf_i64 v1).1 (wf_i64 v1).2)
  have HM2 := Lib.hid (fun w => mod_any z2 9 w (by omega) (by omega) (wf_i64 v2).1 (wf_i64 v2).2)
  obtain ⟨m1, hm1, hm1'⟩ : ∃ m : Nat, z1 % 9 = m ∧ m ≤ 9 := ⟨(z1 % 9).toNat, by omega, by omega⟩
  obtain ⟨m2, hm2, hm2'⟩ : ∃ m : Nat, z2 % 9 = m ∧ m ≤ 9 := ⟨(z2 % 9).toNat, by omega, by omega⟩
  rw [hm1] at HM1
  rw [hm2] at HM2
  clear hm1 hm2
  obtain ⟨wb, hwb⟩ : ∃ wb, wb = w.alloc (.cells #[.slice Aa na ca, .int .i64 xa, .slice Ab nb cb] 28) := ⟨_, rfl⟩
  have hbb : Below w.heap.size w wb := by rw [hwb]; exact below_alloc w _
  have hxb : Blk wb w.heap.size 28 #[.slice Aa na ca, .int .i64 xa, .slice Ab nb cb] := by rw [hwb]; exact Blk.new w 28 _
  have HXB := Lib.hid hxb
  have HBB := Lib.hid hbb
  have HWB := Lib.hid hwb
  have b0 := hxb.cell 0
  have b1 := hxb.cell 1
  have b2 := hxb.cell 2
  simp at b0 b1 b2
  have HLX := Lib.hid hl
  have HR := Lib.hid (hr.on hbb)
  have HQS := Lib.hid (hqs.on hbb)
  have HPOT := Lib.hid (hpot.on hbb)
  have HLI := Lib.hid (light_any none 0 0 none 0 0 Ab nb cb _ [] [] pot wb rfl rfl (hpot.on hbb))
  have hgt := hxb.lt
  unfold maxLen at hn hna hnb
  have HW4 := Lib.hid (wf_i64 v4)
  have HW5 := Lib.hid (wf_i64 v5)
  have HW6 := Lib.hid (wf_i64 v6)
  clear hl hr hqs hpot hbb hxb hwb v4 v5 v6
  by_cases hle : n ≤ 120
  rotate_left
  · rw [decide_eq_false hle] at HG
    go_enter Try.func6, Try.ntmps6
    go_wp2_with fail
    rw [← HWB.out]
    refine (HG.out _).mono ?_
    rintro e w0 ⟨rfl, rfl⟩
    go_wp2_with fail
    refine ((HA _).out).mono ?_
    rintro e w9 ⟨rfl, hb9⟩
    have HB9 := Lib.hid (Below.on HBB.out hb9)
    clear hb9
    go_wp2_with fail
    go_ret
    exact ⟨rfl, HB9.out⟩
  rw [decide_eq_true hle] at HG
  by_cases hl_na : 40 < na
  · have dlp : decide (40 < na) = true := decide_eq_true hl_na
    have dlp' : decide ((40 : Int) < (na : Int)) = true := decide_eq_true (by omega)
    go_enter Try.func6, Try.ntmps6
    go_wp2_with fail
    rw [← HWB.out]
    refine (HG.out _).mono ?_
    rintro e w0 ⟨rfl, rfl⟩
    go_wp2_with fail
    refine ((HA _).out).mono ?_
    rintro e w9 ⟨rfl, hb9⟩
    have HB9 := Lib.hid (Below.on HBB.out hb9)
    clear hb9
    go_wp2_with fail
    go_ret
    exact ⟨rfl, HB9.out⟩
  have dl_na : decide (40 < na) = false := decide_eq_false hl_na
  have dl_na' : decide ((40 : Int) < (na : Int)) = false := decide_eq_false (by omega)
  cases hli : lightL [] [] pot with
  | false =>
    rw [hli] at HLI
    clear hli
    go_enter Try.func6, Try.ntmps6
    go_wp2_with fail
    rw [← HWB.out]
    refine (HG.out _).mono ?_
    rintro e w0 ⟨rfl, rfl⟩
    go_wp2_with fail
    refine (HLI.out).mono ?_
    rintro e w0 ⟨rfl, rfl⟩
    go_wp2_with fail
    refine ((HA _).out).mono ?_
    rintro e w9 ⟨rfl, hb9⟩
    have HB9 := Lib.hid (Below.on HBB.out hb9)
    clear hb9
    go_wp2_with fail
    go_ret
    exact ⟨rfl, HB9.out⟩
  | true =>
    have HLQ := Lib.hid (light_parts hli)
    rw [hli] at HLI
    clear hli
    go_enter Try.func6, Try.ntmps6
    go_wp2_with fail
    rw [← HWB.out]
    refine (HG.out _).mono ?_
    rintro e w0 ⟨rfl, rfl⟩
    go_wp2_with fail
    refine (HLI.out).mono ?_
    rintro e w0 ⟨rfl, rfl⟩
    go_wp2_with fail
    refine (HM1.out _).mono ?_
    rintro e w0 ⟨rfl, rfl⟩
    go_wp2_with fail
    refine (HM2.out _).mono ?_
    rintro e w0 ⟨rfl, rfl⟩
    have HPR := Lib.hid (lawProper_any m1 m2 A n c l wb hm1' hm2' (by omega) HR.out HLX.out)
    go_wp2_with fail
    refine (HPR.out).mono ?_
    rintro e w0 ⟨A1, c1, A2, c2, A3, drop, add, cost, rfl, hT, hpr, hb0⟩
    have HT := Lib.hid hT
    have HB0 := Lib.hid hb0
    have HPP := Lib.hid hpr
    clear hT hb0 hpr HPR
    have HC := Lib.hid (refAlign_yes A1 m1 c1 A2 m2 c2 A3 m1 m1 drop add cost w0 HT.out HPP.out)
    have hv := align_verified HPP.out
    have hbd := potF_bounds (proper_parts HPP.out).2.2.2.1 (proper_parts HPP.out).2.2.2.2.1 (proper_le HPP.out)
    have ed : drop.length = m1 := Ints.len HT.out.d
    have ea : add.length = m2 := Ints.len HT.out.a
    unfold AlPost at HC
    rw [ed, ea] at HC hbd
    rw [ed, ea] at hv
    obtain ⟨px, hpx⟩ : ∃ x, potF drop add cost m1 m2 = x := ⟨_, rfl⟩
    have bpx := hbd m1 m2 (Nat.le_refl _) (Nat.le_refl _)
    rw [hpx] at HC hv bpx
    have bpx1 := bpx.1
    have bpx2 : px ≤ 1000000000 := by omega
    have HV := Lib.hid hv
    have HBD := Lib.hid hbd
    have HED := Lib.hid ed
    have HEA := Lib.hid ea
    clear hv hbd ed ea hpx bpx
    go_wp2_with fail
    refine (HC.out).mono ?_
    rintro e w1 ⟨B, k, d, g, bs, rfl, hp1, hm1, hbs1, hb1, hg1⟩
    have hx1 := Blk.new w1 28 #[.slice B k d, .int .i64 px, .slice (some ⟨g, 0, none⟩) (m1 + 1) (m1 + 1)]
    obtain ⟨w2, hw2⟩ : ∃ w2, w2 = w1.alloc (.cells #[.slice B k d, .int .i64 px, .slice (some ⟨g, 0, none⟩) (m1 + 1) (m1 + 1)] 28) := ⟨_, rfl⟩
    have hbx : Below w1.heap.size w1 w2 := by rw [hw2]; exact below_alloc w1 _
    rw [← hw2] at hx1
    have hkl : k ≤ 400 := by
      have h1 := Prs.len hp1
      have h2 := resP_len drop add cost
      unfold resP at h2
      rw [HPP.out, if_pos rfl] at h2
      omega
    have HB2 := Lib.hid (Below.on hb1 hbx)
    have HP2 := Lib.hid (hp1.on hbx)
    have HM2 := Lib.hid (hm1.more hbx)
    have HX2 := Lib.hid hx1
    have HBS := Lib.hid hbs1
    have HGX : Hid (∀ b ∈ bs, b < w1.heap.size) := fun b hb => by
      obtain ⟨kk, hkk⟩ := List.getElem?_of_mem hb
      exact (hm1.row kk b hkk).lt
    have a0 := hx1.cell 0
    have a1 := hx1.cell 1
    have a2 := hx1.cell 2
    simp at a0 a1 a2
    have hr0 := HM2.out.rowAt (k := 0) (by rw [hbs1]; omega)
    obtain ⟨b0, hb0⟩ : ∃ b, bs[0]'(by rw [hbs1]; omega) = b := ⟨_, rfl⟩
    rw [hb0] at hr0
    obtain ⟨i4, hi4, hi4'⟩ : ∃ i : Nat, z4 % ((m1 + 1 : Nat) : Int) = i ∧ i < m1 + 1 := ⟨(z4 % ((m1 + 1 : Nat) : Int)).toNat, by
      have := Int.emod_nonneg z4 (show ((m1 + 1 : Nat) : Int) ≠ 0 by omega)
      omega, by
      have := Int.emod_nonneg z4 (show ((m1 + 1 : Nat) : Int) ≠ 0 by omega)
      have := Int.emod_lt_of_pos z4 (show (0 : Int) < ((m1 + 1 : Nat) : Int) by omega)
      omega⟩
    obtain ⟨j5, hj5, hj5'⟩ : ∃ i : Nat, z5 % ((m2 + 1 : Nat) : Int) = i ∧ i < m2 + 1 := ⟨(z5 % ((m2 + 1 : Nat) : Int)).toNat, by
      have := Int.emod_nonneg z5 (show ((m2 + 1 : Nat) : Int) ≠ 0 by omega)
      omega, by
      have := Int.emod_nonneg z5 (show ((m2 + 1 : Nat) : Int) ≠ 0 by omega)
      have := Int.emod_lt_of_pos z5 (show (0 : Int) < ((m2 + 1 : Nat) : Int) by omega)
      omega⟩
    have y1 := Int.emod_nonneg z6 (show (7 : Int) ≠ 0 by omega)
    have y2 := Int.emod_lt_of_pos z6 (show (0 : Int) < 7 by omega)
    have Q4 := Lib.hid (fun w => mod_any z4 ((m1 + 1 : Nat) : Int) w (by omega) (by omega) HW4.out.1 HW4.out.2)
    have Q5 := Lib.hid (fun w => mod_any z5 ((m2 + 1 : Nat) : Int) w (by omega) (by omega) HW5.out.1 HW5.out.2)
    have Q6 := Lib.hid (fun w => mod_any z6 7 w (by omega) (by omega) HW6.out.1 HW6.out.2)
    rw [hi4] at Q4
    rw [hj5] at Q5
    obtain ⟨y, hy⟩ : ∃ y, z6 % 7 = y := ⟨_, rfl⟩
    rw [hy] at Q6 y1 y2
    rw [show ((m1 + 1 : Nat) : Int) = (m1 : Int) + 1 by omega] at Q4
    rw [show ((m2 + 1 : Nat) : Int) = (m2 : Int) + 1 by omega] at Q5
    have HW2 := Lib.hid hw2
    clear hp1 hm1 hbs1 hb1 hx1 hbx hw2 hi4 hj5 hy hb0 HC
    go_wp2_with fail
    rw [← HW2.out]
    go_quiet (first | (with_reducible exact quiet_left (Q4.out _)) | (with_reducible exact quiet_left (Q5.out _)) | (with_reducible exact quiet_left (Q6.out _)))
    
    have HT2 := Lib.hid (HT.out.on HB2.out)
    have HVF := Lib.hid (fun q => verify_any A1 m1 c1 A2 m2 c2 A3 m1 m1 B k d px (some ⟨g, 0, none⟩) (m1 + 1) (m1 + 1) drop add cost (alignL drop add cost) (potM drop add cost) (w2.drewN q) (HT2.out.on (below_drewN (Below.refl _ _) q)) (HP2.out.on (below_drewN (Below.refl _ _) q)) (by omega) (Mat.on (by
        have := HM2.out.mat HBS.out
        unfold potM
        rw [HED.out, HEA.out]
        exact this) (below_drewN (Below.refl _ _) q)) (by omega) (fun r hr => by
        unfold potM at hr
        obtain ⟨i, _, rfl⟩ := List.mem_map.1 hr
        have := HEA.out
        simp; omega))
    rw [HV.out] at HVF
    clear Q4 Q5 Q6 hr0
    go_wp2_with fail
    refine (HVF.out _).mono ?_
    rintro e w3 ⟨rfl, hb3'⟩
    have hb3 : Below w2.heap.size w2 w3 := (below_drewN (Below.refl _ w2) _).trans hb3'
    have HB3 := Lib.hid (Below.on HB2.out hb3)
    have hx3 := HX2.out.below hb3 HX2.out.lt
    have c0 := hx3.cell 0
    have c1' := hx3.cell 1
    have c2' := hx3.cell 2
    simp at c0 c1' c2'
    have hm3 := HM2.out.more hb3
    obtain ⟨b, rb, cb', kb⟩ := hm3.cells (k := i4) (j := j5) (by rw [HBS.out]; exact hi4') hj5'
    have fb := hm3.frozen kb j5
    have bpv := HBD.out i4 j5 (by omega) (by omega)
    obtain ⟨pv, hpv⟩ : ∃ p, potF drop add cost i4 j5 = p := ⟨_, rfl⟩
    rw [hpv] at cb' bpv
    have bpv1 := bpv.1
    have bpv2 : pv ≤ 1000000000 := by omega
    have HX3 := Lib.hid hx3
    have HM3 := Lib.hid hm3
    have HP3 := Lib.hid (HP2.out.on hb3)
    have HKB := Lib.hid kb
    have hbgx : b < w1.heap.size := HGX.out b (List.mem_of_getElem? kb)
    have hgb : g < b := hm3.up b (List.mem_of_getElem? kb)
    clear hb3' hb3 hx3 hm3 kb hpv bpv HVF a0 a1 a2
    go_wp2_with fail
    refine region_tail 17 (by kernel_rfl) (by kernel_rfl) _ rfl ?_
    simp only [List.take_succ_cons, List.take_zero, List.drop_succ_cons, List.drop_zero]
    repeat (go_big_quiet_step (fail))
    refine wpQuiet_nil ?_
    go_wp2_with fail
    generalize hw4 : World.drew _ = w4
    have hset : w4 = (w3.setCell ⟨b, j5, none⟩ (.int .i64 (pv + (y - 3)))).drew := by rw [← hw4]
    
    have hsz4 : w4.heap.size = w3.heap.size := by rw [hset]; simp [World.setCell, World.drew]
    have hm4 : Made w4 g (m1 + 1) (m2 + 1) bs (fun k' j' => if k' = i4 ∧ j' = j5 then pv + (y - 3) else potF drop add cost k' j') := by
      rw [hset]
      exact (HM3.out.set_ HKB.out _ hj5').drew
    have hx4 : Blk w4 w1.heap.size 28 #[.slice B k d, .int .i64 px, .slice (some ⟨g, 0, none⟩) (m1 + 1) (m1 + 1)] := by
      rw [hset]
      exact (HX3.out.far (p := ⟨b, j5, none⟩) (by show w1.heap.size ≠ b; omega) _).drew
    have hB4 : Below w0.heap.size w0 w4 := by
      rw [hset]
      exact below_drewN (HB3.out.setCell (p := ⟨b, j5, none⟩) (by show w0.heap.size ≤ b; omega) _) 1
    obtain ⟨ps4, hp4', hl4⟩ := prs_stays HP3.out ⟨b, j5, none⟩ (pv + (y - 3))
    have hp4 : Prs w4 w4.heap.size B k ps4 := by
      have h : Prs w4 w3.heap.size B k ps4 := by rw [hset]; exact hp4'.drew
      rw [hsz4]
      exact h
    have hmat4 := hm4.mat HBS.out
    obtain ⟨pot4, hpot4⟩ : ∃ p, p = (List.range (m1 + 1)).map fun i => (List.range (m2 + 1)).map fun j => (fun k' j' => if k' = i4 ∧ j' = j5 then pv + (y - 3) else potF drop add cost k' j') i j := ⟨_, rfl⟩
    rw [← hpot4] at hmat4
    have hrow4 : ∀ r ∈ pot4, r.length ≤ 1000000000 := fun r hr => by
      rw [hpot4] at hr
      obtain ⟨i, _, rfl⟩ := List.mem_map.1 hr
      simp; omega
    have hT4 := HT.out.on hB4
    have HV4 := Lib.hid (fun x : Fut w4 => ver_fut (verify_any A1 m1 c1 A2 m2 c2 A3 m1 m1 B k d px (some ⟨g, 0, none⟩) (m1 + 1) (m1 + 1) drop add cost ps4 pot4 x.to (hT4.on x.bel) (hp4.on x.bel) (by omega) (hmat4.on x.bel) (by omega) hrow4))
    have HR4 := Lib.hid (fun x : Fut w4 => ver_fut (refVerify_any A1 m1 c1 A2 m2 c2 A3 m1 m1 B k d px (some ⟨g, 0, none⟩) (m1 + 1) (m1 + 1) drop add cost ps4 pot4 x.to (hT4.on x.bel) (hp4.on x.bel) (by omega) (hmat4.on x.bel) (by omega) hrow4))
    obtain ⟨t4, ht4⟩ : ∃ t, verL drop add cost ps4 px pot4 = t := ⟨_, rfl⟩
    rw [ht4] at HV4 HR4
    have fa0 := fut_cell (show w4.cell? ⟨w1.heap.size, 0, none⟩ = some _ from by rw [hx4.cell]; rfl)
    have fa1 := fut_cell (show w4.cell? ⟨w1.heap.size, 1, none⟩ = some _ from by rw [hx4.cell]; rfl)
    have fa2 := fut_cell (show w4.cell? ⟨w1.heap.size, 2, none⟩ = some _ from by rw [hx4.cell]; rfl)
    have HX4 := Lib.hid hx4
    have HM4 := Lib.hid hm4
    have HPO4 := Lib.hid hpot4
    have HB4 := Lib.hid hB4
    have HP4' := Lib.hid hp4
    have HROW4 := Lib.hid hrow4
    clear hw4 hset hsz4 hm4 hx4 hB4 hp4' hl4 hp4 hmat4 hpot4 hrow4 hT4 ht4 HX3 HM3 HP3 HKB c0 c1' c2' rb cb' fb
    refine region_fut (by kernel_rfl) (by kernel_rfl) ?_
    repeat (go_big_quiet_step (first | (with_reducible exact HV4.out _) | (with_reducible exact HR4.out _)))
    refine wpQuiet_nil ?_
    intro w5 hw5
    obtain ⟨⟨w5y, hb5⟩, rfl⟩ := hw5
    have hx5 := HX4.out.below hb5 HX4.out.lt
    have g0 := hx5.cell 0
    have g1 := hx5.cell 1
    have g2 := hx5.cell 2
    have f1 := hx5.frozen 1
    simp at g0 g1 g2
    have HX5 := Lib.hid hx5
    have HB5 := Lib.hid (Below.on HB4.out hb5)
    have HP5 := Lib.hid (HP4'.out.on hb5)
    have HM5 := Lib.hid (HM4.out.more hb5)
    clear hb5 hx5 fa0 fa1 fa2 HV4 HR4
    go_wp2_with fail
    
    generalize hw6 : World.setCell w5 _ _ = w6
    have hset : w6 = w5.setCell ⟨w1.heap.size, 1, none⟩ (.int .i64 (px + (y - 3))) := by rw [← hw6]
    have hsz6 : w6.heap.size = w5.heap.size := by rw [hset]; simp [World.setCell]
    have hm6 := HM5.out.past (p := ⟨w1.heap.size, 1, none⟩) (by show g < w1.heap.size; omega) HGX.out (.int .i64 (px + (y - 3)))
    rw [← hset] at hm6
    have hx6 := HX5.out.set_ 1 (.int .i64 (px + (y - 3)))
    rw [← hset] at hx6
    have hB6 : Below w0.heap.size w0 w6 := by
      rw [hset]
      exact HB5.out.setCell (p := ⟨w1.heap.size, 1, none⟩) (by show w0.heap.size ≤ w1.heap.size; omega) _
    obtain ⟨ps6, hp6', hl6⟩ := prs_stays HP5.out ⟨w1.heap.size, 1, none⟩ (px + (y - 3))
    have hp6 : Prs w6 w6.heap.size B k ps6 := by
      rw [hsz6]
      rw [← hset] at hp6'
      exact hp6'
    have hmat6 := hm6.mat HBS.out
    rw [← HPO4.out] at hmat6
    have hT6 := HT.out.on hB6
    have hBb := Below.on HB0.out hB6
    have hq6 := HQS.out.on hBb
    have hpo6 := Mat.on HPOT.out hBb
    have hxb6 := HXB.out.below hBb HXB.out.lt
    have hnb6 : nb ≤ 60 := by
      have h1 := Mat.len HPOT.out
      have h2 := HLQ.out.2.2.1
      omega
    have hrw6 : ∀ r ∈ pot, r.length ≤ 1000000000 := fun r hr => by have := HLQ.out.2.2.2 r hr; omega
    have HV6 := Lib.hid (fun x : Fut w6 => ver_fut (verify_any A1 m1 c1 A2 m2 c2 A3 m1 m1 B k d (px + (y - 3)) (some ⟨g, 0, none⟩) (m1 + 1) (m1 + 1) drop add cost ps6 pot4 x.to (hT6.on x.bel) (hp6.on x.bel) (by omega) (hmat6.on x.bel) (by omega) HROW4.out))
    have HR6 := Lib.hid (fun x : Fut w6 => ver_fut (refVerify_any A1 m1 c1 A2 m2 c2 A3 m1 m1 B k d (px + (y - 3)) (some ⟨g, 0, none⟩) (m1 + 1) (m1 + 1) drop add cost ps6 pot4 x.to (hT6.on x.bel) (hp6.on x.bel) (by omega) (hmat6.on x.bel) (by omega) HROW4.out))
    have HV7 := Lib.hid (fun x : Fut w6 => ver_fut (verify_any A1 m1 c1 A2 m2 c2 A3 m1 m1 Aa na ca xa Ab nb cb drop add cost qs pot x.to (hT6.on x.bel) (hq6.on x.bel) (by omega) (hpo6.on x.bel) (by omega) hrw6))
    have HR7 := Lib.hid (fun x : Fut w6 => ver_fut (refVerify_any A1 m1 c1 A2 m2 c2 A3 m1 m1 Aa na ca xa Ab nb cb drop add cost qs pot x.to (hT6.on x.bel) (hq6.on x.bel) (by omega) (hpo6.on x.bel) (by omega) hrw6))
    obtain ⟨t6, ht6⟩ : ∃ t, verL drop add cost ps6 (px + (y - 3)) pot4 = t := ⟨_, rfl⟩
    obtain ⟨t7, ht7⟩ : ∃ t, verL drop add cost qs xa pot = t := ⟨_, rfl⟩
    rw [ht6] at HV6 HR6
    rw [ht7] at HV7 HR7
    have fa0 := fut_cell (show w6.cell? ⟨w1.heap.size, 0, none⟩ = some (.slice B k d) from by rw [hx6.cell]; rfl)
    have fa1 := fut_cell (show w6.cell? ⟨w1.heap.size, 1, none⟩ = some (.int .i64 (px + (y - 3))) from by rw [hx6.cell]; rfl)
    have fa2 := fut_cell (show w6.cell? ⟨w1.heap.size, 2, none⟩ = some (.slice (some ⟨g, 0, none⟩) (m1 + 1) (m1 + 1)) from by rw [hx6.cell]; rfl)
    have ga0 := fut_cell (show w6.cell? ⟨w.heap.size, 0, none⟩ = some (.slice Aa na ca) from by rw [hxb6.cell]; rfl)
    have ga1 := fut_cell (show w6.cell? ⟨w.heap.size, 1, none⟩ = some (.int .i64 xa) from by rw [hxb6.cell]; rfl)
    have ga2 := fut_cell (show w6.cell? ⟨w.heap.size, 2, none⟩ = some (.slice Ab nb cb) from by rw [hxb6.cell]; rfl)
    have HBW := Lib.hid (Below.on HBB.out hBb)
    clear hw6 hset hsz6 hm6 hx6 hB6 hp6' hl6 hp6 hmat6 hT6 hBb hq6 hpo6 hxb6 hrw6 ht6 ht7 g0 g1 g2 f1
    refine region_fut (by kernel_rfl) (by kernel_rfl) ?_
    repeat (go_big_quiet_step (first | (with_reducible exact HV6.out _) | (with_reducible exact HR6.out _) | (with_reducible exact HV7.out _) | (with_reducible exact HR7.out _) | (with_reducible exact fut_call ((HA _).out))))
    refine wpQuiet_nil ?_
    intro w8 hw8
    obtain ⟨⟨w8y, hb8⟩, rfl⟩ := hw8
    have HB8 := Lib.hid (Below.on HBW.out hb8)
    clear hb8 fa0 fa1 fa2 ga0 ga1 ga2
    go_wp2_with fail
    go_ret
    exact ⟨rfl, HB8.out⟩

theorem own : ownKnob Try.prog.godebug = none := by kernel_rfl
theorem laidOut : laidOutB Try.prog = true := by kernel_rfl
theorem specN (H : Type) (ds : List (DataW H)) (h : ds.length = 7) : Rows.sequenceVerifiesSpec.fn H (ds ++ []) = { results := [.lit (.bool true)], args := ds } := by
  match ds, h with
  | [_, _, _, _, _, _, _], _ => rfl

set_option maxRecDepth 100000 in
theorem lifted (os : Os) (started : os.Started) (H : Type) (enc : TypeId × Value → H) :
    ReturnsInHanded {} Try.checked os 6 .any (Rows.sequenceVerifiesSpec.pre6 enc Try.prog Try.f6 Rows.sequenceVerifiesRow.domain false) (Rows.sequenceVerifiesSpec.post enc Try.prog Try.f6 false true false false) := by
  refine law_of_walk (C := Try.checked) own started (by kernel_rfl) Try.func6 rfl rfl Try.underlying4 laidOut (by kernel_rfl) (fun ds h => specN H ds (h.trans (by kernel_rfl)))
    (ChangeSpec.witness6 (enc := enc) (C := Try.checked) false ⟨#[], #[.int .i64 0, .int .i64 0, .slice none 0 0, .agg #[.slice none 0 0, .int .i64 0, .slice none 0 0], .int .i64 0, .int .i64 0, .int .i64 0], []⟩ 8 (by kernel_rfl) (by kernel_rfl) (by kernel_rfl) (by kernel_rfl)) ?_
  intro W base args ds p hval hA hsz
  have hval' : ∀ (j : Nat) t v, Try.f6.params[j]? = some t → args[j]? = some v → Value.okWide Try.prog W .any base t v := hval
  rw [Try.params6] at hval' hA hsz
  obtain ⟨v0, vs0, d0, ds0, p0, q0, hargs, rfl, rfl, h0, r0⟩ := trodAll_cons hA
  obtain ⟨v1, vs1, d1, ds1, p1, q1, rfl, rfl, rfl, h1, r1⟩ := trodAll_cons r0
  obtain ⟨v2, vs2, d2, ds2, p2, q2, rfl, rfl, rfl, h2, r2⟩ := trodAll_cons r1
  obtain ⟨v3, vs3, d3, ds3, p3, q3, rfl, rfl, rfl, h3, r3⟩ := trodAll_cons r2
  obtain ⟨v4, vs4, d4, ds4, p4, q4, rfl, rfl, rfl, h4, r4⟩ := trodAll_cons r3
  obtain ⟨v5, vs5, d5, ds5, p5, q5, rfl, rfl, rfl, h5, r5⟩ := trodAll_cons r4
  obtain ⟨v6, vs6, d6, ds6, p6, q6, rfl, rfl, rfl, h6, r6⟩ := trodAll_cons r5
  obtain ⟨rfl, rfl, rfl⟩ := trodAll_nil r6
  obtain rfl : args = #[v0, v1, v2, v3, v4, v5, v6] := by cases args; simp_all
  obtain ⟨a0, rfl, rfl, rfl, w0⟩ := open_int Try.underlying3 (hval' 0 3 v0 rfl rfl) h0
  obtain ⟨a1, rfl, rfl, rfl, w1⟩ := open_int Try.underlying3 (hval' 1 3 v1 rfl rfl) h1
  obtain ⟨a2, len2, cap2, rfl⟩ := okWide_slice Try.underlying22 (hval' 2 22 v2 rfl rfl)
  obtain ⟨hw2, hc2, hm2, l2, hr2, hl2⟩ := open_i64s Try.underlying22 Try.underlying3 (by kernel_rfl) h2
  have hlen2 := len_reach hsz (j := 2) (t := 22) rfl rfl Try.underlying22 (of_decide_eq_true (by kernel_rfl)) hw2
  obtain ⟨Aa3, na3, ca3, xa3, Ab3, nb3, cb3, ps3, pot3, rfl, hna3, hnb3, hpa3, hpb3, hwx3⟩ := open_al (hval' 3 28 v3 rfl rfl) h3
  obtain ⟨a4, rfl, rfl, rfl, w4⟩ := open_int Try.underlying3 (hval' 4 3 v4 rfl rfl) h4
  obtain ⟨a5, rfl, rfl, rfl, w5⟩ := open_int Try.underlying3 (hval' 5 3 v5 rfl rfl) h5
  obtain ⟨a6, rfl, rfl, rfl, w6⟩ := open_int Try.underlying3 (hval' 6 3 v6 rfl rfl) h6
  exact walk a0 a1 a2 len2 cap2 l2 Aa3 na3 ca3 xa3 Ab3 nb3 cb3 ps3 pot3 a4 a5 a6 W w0 w1 (by omega) hr2 hl2 hna3 hnb3 hpa3 hpb3 w4 w5 w6

theorem proved : Rows.SequenceVerifiesSaid :=
  OpenClaim.holds_of_wide 6 Try.f6 rfl rfl rfl rfl rfl rfl rfl ⟨rfl, rfl, rfl, rfl, rfl⟩ rfl rfl rfl rfl rfl (by kernel_rfl) Try.func6 (by kernel_rfl)
    (of_decide_eq_true (by kernel_rfl)) (by unfold Func.isWrapper; first | (rw [if_pos (by decide +kernel)]; kernel_rfl) | (rw [if_neg (by decide +kernel)]; exact ⟨rfl, rfl⟩))
    (fun os started H enc _ => lifted os started H enc)
end Go.Proofs.Ytaadaekpmblpaaa.sequenceVerifies
