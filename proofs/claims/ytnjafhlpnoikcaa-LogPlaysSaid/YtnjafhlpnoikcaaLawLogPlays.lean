/-
  LogPlays: for every input the law returns true, and its arguments are as they were. No condition beside the given statement's own.
-/
import Derived.Test.YtnjafhlpnoikcaaLrI
import Derived.Test.YtnjafhlpnoikcaaLrJ
import Derived.Deep.DeepCutAuto
namespace Go.Proofs.Ytnjafhlpnoikcaa.logPlays
open Go.ChangeShapes Go.WideShapes Go.ChangeAt Go.RowKit
open Go.ChangeMaps (open_string shut_string)
set_option linter.unusedVariables false

theorem open_on {s : DS} (h : s.off = false) : ∃ l, openS s = some l := by
  unfold openS
  rw [h]
  exact ⟨_, rfl⟩

set_option maxRecDepth 100000 in
set_option maxHeartbeats 16000000 in
theorem walk (z : Int) (A : Option Addr) (n c : Nat) (xs : List PlayX) (w : World) (hz : (Lit.int .i64 z).wf = true) (hn : n ≤ 140737488351232) (hP : Plays w A n xs) :
    Calls Try.prog 7 #[.int .i64 z, .slice A n c] w fun e w' => e = .returned (.bool true) ∧ Below w.heap.size w w' := by
  have HA := fun W => Lib.hid (awake_any W)
  have HS := Lib.hid (acts_size A n c xs w hn hP)
  have HM := Lib.hid (fun X => mod_any z 100 X (by omega) (by omega) (wf_i64 hz).1 (wf_i64 hz).2)
  obtain ⟨k, hkk, hk6⟩ : ∃ k : Nat, z % 100 = k ∧ k < 100 := ⟨(z % 100).toNat, by omega, by omega⟩
  rw [hkk] at HM
  have HN := Lib.hid (fun X => new_m (64 + k) X (by omega) (by omega))
  have HRN := Lib.hid (fun X => rnew_m (64 + k) X (by omega) (by omega))
  have s1 : IntKind.i64.wrap (64 + (k : Int)) = 64 + (k : Int) := IntWalk.i64_in _ (by omega)
  have hcast : ((64 + k : Nat) : Int) = 64 + (k : Int) := by omega
  rw [hcast] at HN HRN
  have HP := Lib.hid hP
  have HL := Lib.hid hP.len
  clear hP hkk hz hcast
  go_enter Try.func7, Try.ntmps7
  go_wp2_with fail
  refine (HS.out).mono ?_
  rintro e w1 ⟨⟨m, rfl, hm⟩, q0, hq0⟩
  have HQ0 : Hid (Below w.heap.size w w1) := by rw [hq0]; exact below_drewN (Below.refl _ w) q0
  clear hq0 HS
  by_cases hbig : 2000 < m
  · have d1 : decide ((2000 : Int) < (m : Int)) = true := by simp; omega
    clear hm hbig
    go_wp2_with fail
    refine ((HA _).out).mono ?_
    rintro e w2 ⟨rfl, hb⟩
    have HB := Lib.hid ((HQ0.out).trans (hb.mono (HQ0.out).size))
    clear hb HA
    go_wp2_with fail
    go_ret
    exact ⟨rfl, HB.out⟩
  have d1 : decide ((2000 : Int) < (m : Int)) = false := by simp; omega
  have HSM : Hid (∀ x ∈ xs, x.bs.length ≤ 2000 ∧ x.ks.length ≤ 2000) := fun x hx => by
    have h1 := sump_mem hx
    have h2 := hm (by omega)
    unfold szP at h1
    omega
  clear hm hbig
  go_wp2_with fail
  refine (HM.out _).mono ?_
  rintro e w2 ⟨rfl, rfl⟩
  clear HM
  go_wp2_with fail
  refine (HN.out _).mono ?_
  rintro e w2 ⟨d, F, rfl, hm, hF, hb⟩
  have K1 : Hid (Mine w2 d (newS (64 + k)) F ∧ (∀ b, F b → w.heap.size ≤ b) ∧ Below w.heap.size w w2) := ⟨hm, fun b hb' => Nat.le_trans (HQ0.out).size (hF b hb'), (HQ0.out).trans (hb.mono (HQ0.out).size)⟩
  clear hm hF hb HN HQ0
  go_wp2_with fail
  refine (HRN.out _).mono ?_
  rintro e w3 ⟨r, G, rfl, hm2, hG, hb2⟩
  have D2 : Hid (DD w w3 d r (newS (64 + k)) (newS (64 + k))) := DDb.make (K1.out).1 (K1.out).2.1 (K1.out).2.2 hm2 hG hb2
  have ON2 : Hid ((newS (64 + k)).off = false) := rfl
  clear hm2 hG hb2 HRN K1 s1
  generalize newS (64 + k) = s0 at D2 ON2
  obtain ⟨l0, hl0⟩ := open_on (ON2.out)
  have HL0 := Lib.hid hl0
  clear hl0 ON2
  go_wp2_with fail
  refine ((D2.out).open_ (HL0.out)).mono ?_
  rintro e w4 ⟨g0, rfl, h5⟩
  have D5 := Lib.hid h5
  clear h5 D2
  go_wp2_with fail
  refine ((D5.out).open_ (HL0.out)).mono ?_
  rintro e w5 ⟨q1, rfl, h6⟩
  have R0 : Hid (LL w w5 d g0 r q1 s0 l0 s0 l0) := h6
  clear h6 D5 HL0
  go_wp2_with fail
  go_loopw [10, 12, 14] (fun gv qv iv wr => ∃ (i g q : Nat) (s : DS) (l : LS), gv = .pointer (some ⟨g, 0, none⟩) ∧ qv = .pointer (some ⟨q, 0, none⟩) ∧ iv = .int .i64 (i : Int) ∧ i ≤ n ∧ LL w wr d g r q s l s l) (fun _ _ iv _ => n - (intOf iv).toNat)
  case atStart => exact ⟨0, g0, q1, _, _, rfl, rfl, rfl, Nat.zero_le _, R0.out⟩
  case round =>
    obtain ⟨i, g, q, s, l, rfl, rfl, rfl, hi, hR⟩ := hrel
    have RR : Hid (LL w wr d g r q s l s l) := hR
    clear hR R0
    by_cases hgo : i < n ∧ i < 40
    · obtain ⟨hlt, h40⟩ := hgo
      have dlt : decide ((i : Int) < (n : Int)) = true := by simp; omega
      have d40 : decide ((i : Int) < 40) = true := by simp; omega
      obtain ⟨x, hx⟩ : ∃ x, xs[i]? = some x := ⟨xs[i]'(by rw [HL.out]; exact hlt), List.getElem?_eq_getElem _⟩
      obtain ⟨ab, ao, rfl, hab, c0, c1, c2, c3⟩ := plays_at (HP.out) hx
      have HX : Hid (GoodPlay w x ∧ x.bs.length ≤ 2000 ∧ x.ks.length ≤ 2000) := ⟨(HP.out).good x (List.mem_of_getElem? hx), (HSM.out) x (List.mem_of_getElem? hx)⟩
      have hbw : ∀ (a : Addr) (v : Value), a.block = ab → a.spot = none → w.cell? a = some v → wr.cell? a = some v := fun a v ha _ hv => (World.cell?_of_block ((RR.out).bel.block a.block (by rw [ha]; exact hab))).trans hv
      have k0 := hbw _ _ rfl rfl c0
      have k1 := hbw _ _ rfl rfl c1
      have k2 := hbw _ _ rfl rfl c2
      have k3 := hbw _ _ rfl rfl c3
      have hne : ¬ n ≤ i := by omega
      clear c0 c1 c2 c3 hx hbw
      obtain ⟨bx, hbx⟩ : ∃ bx, wr.heap.size = bx := ⟨_, rfl⟩
      have TB := (RR.out).box (.cells #[.int .i64 x.kind, .int .i64 x.n, .slice x.bA x.bs.length x.bc, .slice x.kA x.ks.length x.kc] 55)
      have BK := Blk.new wr 55 #[.int .i64 x.kind, .int .i64 x.n, .slice x.bA x.bs.length x.bc, .slice x.kA x.ks.length x.kc]
      rw [hbx] at TB BK
      have HMK := Lib.hid (fun X => mod_any x.kind 8 X (by omega) (by omega) (HX.out).1.kind.1 (HX.out).1.kind.2)
      obtain ⟨p, hp, hp8⟩ : ∃ p : Nat, x.kind % 8 = p ∧ p < 8 := ⟨(x.kind % 8).toNat, by omega, by omega⟩
      rw [hp] at HMK
      replace TB := Lib.hid TB
      replace BK := Lib.hid BK
      have HBX := Lib.hid hbx
      clear hp hbx
      go_wp2_with fail
      refine (HMK.out _).mono ?_
      rintro e w6 ⟨rfl, rfl⟩
      rw [HBX.out]
      clear HMK k0 k1 k2 k3 HBX RR
      generalize hW : wr.alloc (.cells #[.int .i64 x.kind, .int .i64 x.n, .slice x.bA x.bs.length x.bc, .slice x.kA x.ks.length x.kc] 55) = W at TB BK ⊢
      clear hW
      have C0 : Hid (∀ X (d g r q : Nat) s l t m, LLb w W (fun b => b = bx) X d g r q s l t m → X.cell? ⟨bx, 1, none⟩ = some (.int .i64 x.n) ∧ X.cell? ⟨bx, 2, none⟩ = some (.slice x.bA x.bs.length x.bc) ∧ X.cell? ⟨bx, 3, none⟩ = some (.slice x.kA x.ks.length x.kc)) := fun X d g r q s l t m h => by
        have hk := h.blk (BK.out)
        exact ⟨by rw [hk.cell]; rfl, by rw [hk.cell]; rfl, by rw [hk.cell]; rfl⟩
      have hN := (TB.out).sizes.1
      have hbl : x.bs.length ≤ 1000000000 := by have := (HX.out).2.1; omega
      have hkl : x.ks.length ≤ 1000000000000 := by have := (HX.out).2.2; omega
      have T0 : Hid (LLb w W (fun b => b = bx) W.drew d g r q s l s l) := (TB.out).below (below_drewN (Below.refl _ _) 1)
      obtain ⟨b4, hb4⟩ : ∃ b4, decide (p < 4) = b4 := ⟨_, rfl⟩
      have HB4 := Lib.hid hb4
      clear hb4
      go_upto_if 98 with fail
      go_cut [98] (fun v wx => v = .bool b4 ∧ wx = W)
      case first =>
        have hps : p = 0 ∨ p = 1 ∨ p = 2 ∨ p = 3 ∨ 4 ≤ p := by omega
        rcases hps with rfl | rfl | rfl | rfl | hp4
        · have hb := HB4.out
          go_wp2_with fail
          go_meet
          exact ⟨by rw [← hb]; rfl, rfl⟩
        · have hb := HB4.out
          go_wp2_with fail
          go_meet
          exact ⟨by rw [← hb]; rfl, rfl⟩
        · have hb := HB4.out
          go_wp2_with fail
          go_meet
          exact ⟨by rw [← hb]; rfl, rfl⟩
        · have hb := HB4.out
          go_wp2_with fail
          go_meet
          exact ⟨by rw [← hb]; rfl, rfl⟩
        · have HF : Hid (b4 = false) := by unfold Hid; rw [← HB4.out]; simp; omega
          have e0 : ((p : Int) == 0) = false := by simp; omega
          have e1 : ((p : Int) == 1) = false := by simp; omega
          have e2 : ((p : Int) == 2) = false := by simp; omega
          have e3 : ((p : Int) == 3) = false := by simp; omega
          go_wp2_with fail
          go_meet
          exact ⟨by rw [HF.out], rfl⟩
      case rest =>
        obtain ⟨rfl, hwx⟩ := hcut
        subst hwx
        have hps : p < 4 ∨ p = 4 ∨ p = 5 ∨ 6 ≤ p := by omega
        rcases hps with hp | rfl | rfl | hp
        · have hb : Hid (b4 = true) := by unfold Hid; rw [← HB4.out]; simp; omega
          obtain rfl := hb.out
          have HAP := Lib.hid ((T0.out).app (c := x.bc) hN hbl (HX.out).1.rb (HX.out).1.byt)
          clear HB4 hb
          have K0 := (C0.out _ _ _ _ _ _ _ _ _ (TB.out)).2.1
          go_wp2_with fail
          go_region_held3 (fun w' => w'.cell? ⟨bx, 2, none⟩ = some (.slice x.bA x.bs.length x.bc)) (first | exact (C0.out _ _ _ _ _ _ _ _ _ T2.out).2.1 | exact (C0.out _ _ _ _ _ _ _ _ _ T1.out).2.1 | exact (C0.out _ _ _ _ _ _ _ _ _ T0.out).2.1) (first | (go_at_call 22; refine (HRA.out).mono ?_; rintro e w8 ⟨rfl, h8⟩; have T2 := Lib.hid h8; clear h8) | (go_at_call 14; refine (HAP.out).mono ?_; rintro e w7 ⟨rfl, h7⟩; have HRA := Lib.hid (h7.rapp (c := x.bc) hbl (HX.out).1.rb (HX.out).1.byt); have T1 := Lib.hid h7; clear h7))
          clear HAP HRA T1 K0
          have HALK := Lib.hid (alike_any T2.out)
          go_wp2_with fail
          refine (HALK.out).mono ?_
          rintro e wz ⟨rfl, hz⟩
          have RZ : Hid (LL w wz d g r q _ _ _ _) := ((T2.out).below hz).unbox
          clear hz HALK T2
          go_wp2_with fail
          go_roundw
          case rel => exact ⟨i + 1, g, q, _, _, rfl, rfl, by go_num, by omega, RZ.out⟩
          case measure => simp [intOf]; omega
        · have hb : Hid (b4 = false) := by unfold Hid; rw [← HB4.out]; simp
          obtain rfl := hb.out
          clear HB4 hb
          have HRC : Hid (∀ X, Below w.heap.size w X → Calls Try.prog 25 #[.slice x.bA x.bs.length x.bc, .int .i64 x.n] X (RecsP w X (recsS x.bs (x.n % 4).toNat))) := fun X hb =>
            recsl_any (w0 := w) (w := X) (r := ⟨x.bA, x.bc, x.bs⟩) x.n hb ⟨(HX.out).1.cb, (HX.out).1.lb, (HX.out).1.rb, (HX.out).1.byt⟩ (by have := (HX.out).2.1; show x.bs.length ≤ 1000000; omega) (HX.out).1.n.1 (HX.out).1.n.2
          generalize recsS x.bs (x.n % 4).toNat = L at HRC
          have CK : Hid (∀ X (d g r q : Nat) s l t m, LLb w wc (fun b => b = bx) X d g r q s l t m → X.cell? ⟨bx, 1, none⟩ = some (.int .i64 x.n) ∧ X.cell? ⟨bx, 2, none⟩ = some (.slice x.bA x.bs.length x.bc)) := fun X d g r q s l t m h => ⟨(C0.out _ _ _ _ _ _ _ _ _ h).1, (C0.out _ _ _ _ _ _ _ _ _ h).2.1⟩
          have K0 := CK.out _ _ _ _ _ _ _ _ _ (TB.out)
          go_wp2_with fail
          go_region_held3 (fun w' => w'.cell? ⟨bx, 1, none⟩ = some (.int .i64 x.n) ∧ w'.cell? ⟨bx, 2, none⟩ = some (.slice x.bA x.bs.length x.bc)) (first | exact CK.out _ _ _ _ _ _ _ _ _ T4.out | exact CK.out _ _ _ _ _ _ _ _ _ T3.out | exact CK.out _ _ _ _ _ _ _ _ _ T2.out | exact CK.out _ _ _ _ _ _ _ _ _ T1.out | exact CK.out _ _ _ _ _ _ _ _ _ T0.out) (first | (go_at_call 26; refine (HRR.out).mono ?_; rintro e w10 ⟨rfl, h10⟩; have T4 := Lib.hid h10; clear h10) | (go_at_call 25; refine (HRC.out _ (T2.out).bel).mono ?_; rintro e w9 ⟨rs2, A2, c2, rfl, hL2, hn2, hsm2, hra2, hb9⟩; have HRR := Lib.hid ((T2.out).rreset (c := c2) hb9 (by omega) hsm2 hra2); rw [hL2] at HRR; have T3 := Lib.hid ((T2.out).below hb9); clear hL2 hn2 hsm2 hra2 hb9) | (go_at_call 23; refine (HRS.out).mono ?_; rintro e w8 ⟨rfl, h8⟩; have T2 := Lib.hid h8; clear h8) | (go_at_call 25; refine (HRC.out _ (T0.out).bel).mono ?_; rintro e w7 ⟨rs1, A1, c1, rfl, hL1, hn1, hsm1, hra1, hb7⟩; have HRS := Lib.hid ((T0.out).reset (c := c1) hb7 (by omega) hsm1 hra1); rw [hL1] at HRS; have T1 := Lib.hid ((T0.out).below hb7); clear hL1 hn1 hsm1 hra1 hb7))
          clear HRC HRR HRS T1 T2 T3 K0
          have HALK := Lib.hid (alike_any T4.out)
          go_wp2_with fail
          refine (HALK.out).mono ?_
          rintro e wz ⟨rfl, hz⟩
          have RZ : Hid (LL w wz d g r q _ _ _ _) := ((T4.out).below hz).unbox
          clear hz HALK T4
          go_wp2_with fail
          go_roundw
          case rel => exact ⟨i + 1, g, q, _, _, rfl, rfl, by go_num, by omega, RZ.out⟩
          case measure => simp [intOf]; omega
        · have hb : Hid (b4 = false) := by unfold Hid; rw [← HB4.out]; simp
          obtain rfl := hb.out
          clear HB4 hb
          have K0 := (C0.out _ _ _ _ _ _ _ _ _ (TB.out)).1
          have HFU := Lib.hid ((TB.out).fuse x.n (HX.out).1.n.2)
          go_wp2_with fail
          refine (HFU.out).mono ?_
          rintro e w7 ⟨rfl, h7⟩
          have K1 := (C0.out _ _ _ _ _ _ _ _ _ h7).1
          have HRF := Lib.hid (h7.rfuse x.n (HX.out).1.n.2)
          clear h7 HFU K0
          go_wp2_with fail
          refine (HRF.out).mono ?_
          rintro e w8 ⟨rfl, h8⟩
          have T2 := Lib.hid h8
          clear h8 HRF K1
          have HALK := Lib.hid (alike_any T2.out)
          go_wp2_with fail
          refine (HALK.out).mono ?_
          rintro e wz ⟨rfl, hz⟩
          have RZ : Hid (LL w wz d g r q _ _ _ _) := ((T2.out).below hz).unbox
          clear hz HALK T2
          go_wp2_with fail
          go_roundw
          case rel => exact ⟨i + 1, g, q, _, _, rfl, rfl, by go_num, by omega, RZ.out⟩
          case measure => simp [intOf]; omega
        · have hb : Hid (b4 = false) := by unfold Hid; rw [← HB4.out]; simp; omega
          obtain rfl := hb.out
          clear HB4 hb
          have d4 : ((p : Int) == 4) = false := by simp; omega
          have d5 : ((p : Int) == 5) = false := by simp; omega
          have CD : Hid (∀ X (d r : Nat) s t, DDb w wc (fun b => b = bx) X d r s t → X.cell? ⟨bx, 1, none⟩ = some (.int .i64 x.n) ∧ X.cell? ⟨bx, 3, none⟩ = some (.slice x.kA x.ks.length x.kc)) := fun X d r s t h => by
            have hk := h.blk (BK.out)
            exact ⟨by rw [hk.cell]; rfl, by rw [hk.cell]; rfl⟩
          have K0 := CD.out _ _ _ _ _ (TB.out).disks
          have HCR := Lib.hid ((TB.out).disks.crash (c := x.kc) x.n hkl (HX.out).1.rk)
          go_wp2_with fail
          refine (HCR.out).mono ?_
          rintro e w7 ⟨rfl, h7⟩
          have K1 := CD.out _ _ _ _ _ h7
          have HRF := Lib.hid (h7.rcrash (c := x.kc) x.n hkl (HX.out).1.rk)
          clear h7 HCR K0
          go_wp2_with fail
          refine (HRF.out).mono ?_
          rintro e w8 ⟨rfl, h8⟩
          obtain ⟨l2, hl2⟩ := open_on (s := crashS s x.ks x.n) rfl
          have HL2 := Lib.hid hl2
          have T2 := Lib.hid h8
          clear h8 HRF K1 hl2
          go_wp2_with fail
          refine ((T2.out).open_ (HL2.out)).mono ?_
          rintro e w9 ⟨g2, rfl, h9⟩
          have T3 := Lib.hid h9
          clear h9 T2
          go_wp2_with fail
          refine ((T3.out).open_ (HL2.out)).mono ?_
          rintro e w10 ⟨q2, rfl, h10⟩
          have T4 := Lib.hid h10
          clear h10 T3 HL2
          have HALK := Lib.hid (alike_any T4.out)
          go_wp2_with fail
          refine (HALK.out).mono ?_
          rintro e wz ⟨rfl, hz⟩
          have RZ : Hid (LL w wz d g2 r q2 _ _ _ _) := ((T4.out).below hz).unbox
          clear hz HALK T4
          go_wp2_with fail
          go_roundw
          case rel => exact ⟨i + 1, g2, q2, _, _, rfl, rfl, by go_num, by omega, RZ.out⟩
          case measure => simp [intOf]; omega
    · have hd : (n ≤ i ∧ ¬ i < n ∧ decide ((i : Int) < (n : Int)) = false) ∨ (i < n ∧ ¬ n ≤ i ∧ decide ((i : Int) < (n : Int)) = true ∧ 40 ≤ i ∧ ¬ i < 40 ∧ decide ((i : Int) < 40) = false) := by simp; omega
      have B9 := Lib.hid (RR.out).bel
      clear hgo RR
      rcases hd with ⟨d2, d3, d4⟩ | ⟨d2, d3, d4, d5, d6, d7⟩
      all_goals
        go_wp2_with fail
        refine ((HA _).out).mono ?_
        rintro e w6 ⟨rfl, hb⟩
        have HB := Lib.hid ((B9.out).trans (hb.mono (B9.out).size))
        clear hb HA
        go_wp2_with fail
        go_ret
        exact ⟨rfl, HB.out⟩

theorem own : ownKnob Try.prog.godebug = none := by kernel_rfl
theorem laidOut : laidOutB Try.prog = true := by kernel_rfl
theorem specN (H : Type) (ds : List (DataW H)) (h : ds.length = 2) : Rows.logPlaysSpec.fn H (ds ++ []) = { results := [.lit (.bool true)], args := ds } := by
  match ds, h with
  | [_, _], _ => rfl

set_option maxRecDepth 100000 in
theorem lifted (os : Os) (started : os.Started) (H : Type) (enc : TypeId × Value → H) :
    ReturnsInHanded {} Try.checked os 7 .any (Rows.logPlaysSpec.pre6 enc Try.prog Try.f7 Rows.logPlaysRow.domain false) (Rows.logPlaysSpec.post enc Try.prog Try.f7 false true false false) := by
  refine law_of_walk (C := Try.checked) own started (by kernel_rfl) Try.func7 rfl rfl Try.underlying4 laidOut (by kernel_rfl) (fun ds h => specN H ds (h.trans (by kernel_rfl)))
    (ChangeSpec.witness6 (enc := enc) (C := Try.checked) false ⟨#[], #[.int .i64 0, .slice none 0 0], []⟩ 8 (by kernel_rfl) (by kernel_rfl) (by kernel_rfl) (by kernel_rfl)) ?_
  intro W base args ds p hval hA hsz
  have hval' : ∀ (j : Nat) t v, Try.f7.params[j]? = some t → args[j]? = some v → Value.okWide Try.prog W .any base t v := hval
  rw [Try.params7] at hval' hA hsz
  obtain ⟨v0, vs0, d0, ds0, p0, q0, hargs, rfl, rfl, h0, r0⟩ := trodAll_cons hA
  obtain ⟨v1, vs1, d1, ds1, p1, q1, rfl, rfl, rfl, h1, r1⟩ := trodAll_cons r0
  obtain ⟨rfl, rfl, rfl⟩ := trodAll_nil r1
  obtain rfl : args = #[v0, v1] := by cases args; simp_all
  obtain ⟨a0, rfl, rfl, rfl, w0⟩ := open_int Try.underlying3 (hval' 0 3 v0 rfl rfl) h0
  obtain ⟨a1, len1, cap1, rfl⟩ := okWide_slice Try.underlying52 (hval' 1 52 v1 rfl rfl)
  obtain ⟨hn, xs, hP⟩ := open_plays h1 (sm_arg hsz (j := 1) rfl rfl)
  exact walk a0 a1 len1 cap1 xs W w0 hn hP

theorem proved : Rows.LogPlaysSaid :=
  OpenClaim.holds_of_wide 7 Try.f7 rfl rfl rfl rfl rfl rfl rfl ⟨rfl, rfl, rfl, rfl, rfl⟩ rfl rfl rfl rfl rfl (by kernel_rfl) Try.func7 (by kernel_rfl)
    (of_decide_eq_true (by kernel_rfl)) (by unfold Func.isWrapper; first | (rw [if_pos (by decide +kernel)]; kernel_rfl) | (rw [if_neg (by decide +kernel)]; exact ⟨rfl, rfl⟩))
    (fun os started H enc _ => lifted os started H enc)
end Go.Proofs.Ytnjafhlpnoikcaa.logPlays
