/-
  PackBytes: for every input the law returns true, and its arguments are as they were. No condition beside the given statement's own.
-/
import Derived.Test.YtdabmjcpiblofaaDoorPkLaws
import Derived.Test.YtdabmjcpiblofaaDoorPkXb
import Derived.Test.YtdabmjcpiblofaaDoorPkZ
import Derived.Laws.BitsAllLaws
namespace Go.Proofs.YtdabmjcpiblofaaDoor.packBytes
open Go.ChangeShapes Go.WideShapes Go.ChangeAt Go.RowKit
open Go.ChangeMaps (open_string shut_string)
set_option linter.unusedVariables false

theorem small_few {ns : List PN} {rs : List Int} (h : FitV ns rs) (hs : smallP ns rs) : (encP ns rs).length ≤ 100000 := by
  obtain ⟨s1, s2, s3⟩ := hs
  obtain ⟨f1, f2, f3, f4⟩ := h
  have hn : ∀ x ∈ ns, (encN x).length ≤ 700 := fun x hx => by
    obtain ⟨a1, a2, a3, a4⟩ := s3 x hx
    obtain ⟨b1, b2, b3, b4, b5, b6⟩ := f4 x hx
    have e1 := encI_len' (show inI64 x.1 from b1)
    have e2 := encT_len (s := x.2.1) (by omega)
    have e3 := encI_nat (n := x.2.2.1.length) (by omega)
    have e4 := flatT_len a3
    have e5 := encL_len (l := x.2.2.2) b6 (by omega)
    unfold encN
    simp only [List.length_append]
    omega
  have e1 := encI_nat (n := ns.length) (by omega)
  have e2 := flatN_len hn
  have e3 := encL_len (l := rs) f3 (by omega)
  unfold encP
  simp only [List.length_append]
  have : 700 * ns.length ≤ 700 * 60 := Nat.mul_le_mul_left _ s1
  omega
theorem wf_u8 {n : Int} (h : (Lit.int .u8 n).wf = true) : 0 ≤ n ∧ n < 256 := by
  have : 0 ≤ n ∧ n ≤ 255 := by simpa [Lit.wf, IntKind.min, IntKind.max, IntKind.signed, IntKind.bits] using h
  omega
theorem own_take {w : World} {base n c k : Nat} {e : TypeId} {A : Option Addr} {xs : List Value} (h : w.ownsRow base e 1 (.slice A n c) n xs) (hk : k ≤ n) : w.ownsRow base e 1 (.slice A k c) k (xs.take k) := by
  have hl := h.1
  refine ⟨by rw [List.length_take]; omega, ?_⟩
  rcases h.2 with ⟨e, hn⟩ | ⟨g, cap, cur, e, hb, hg, hnc, hcm, hcs, ht⟩
  · injection e with e1 e2 e3
    subst e1 e3
    have : k = 0 := by omega
    subst this
    exact .inl ⟨rfl, rfl⟩
  · injection e with e1 e2 e3
    subst e1 e3
    refine .inr ⟨g, c, cur, rfl, hb, hg, by omega, hcm, hcs, ?_⟩
    rw [← ht, List.take_take]
    congr 1
    omega
theorem own_set {w : World} {base n c k : Nat} {e : TypeId} {A : Option Addr} {xs : List Value} (h : w.ownsRow base e 1 (.slice A n c) n xs) (hk : k < n) : ∃ g, A = some ⟨g, 0, none⟩ ∧ base ≤ g ∧ w.frozen? ⟨g, k, none⟩ = false ∧ w.cell? ⟨g, k, none⟩ = xs[k]? ∧ ∀ u, (w.setCell ⟨g, k, none⟩ u).ownsRow base e 1 (.slice A n c) n (xs.set k u) := by
  have hl := h.1
  rcases h.2 with ⟨e, hn⟩ | ⟨g, cap, cur, e, hb, hg, hnc, hcm, hcs, ht⟩
  · omega
  · injection e with e1 e2 e3
    subst e1 e3
    have hx : xs[k]? = cur[k]? := by
      rw [← ht, List.getElem?_take_of_lt (by omega), Array.getElem?_toList]
    have B : Blk w g _ cur := hg
    refine ⟨g, rfl, hb, B.frozen k, ?_, fun u => ⟨by rw [List.length_set]; exact hl, .inr ⟨g, c, cur.setIfInBounds k u, rfl, hb, B.set_ k u, hnc, hcm, by simp [hcs], ?_⟩⟩⟩
    · rw [B.cell, hx]
    · rw [← ht, Array.toList_setIfInBounds, List.take_set]

set_option maxRecDepth 100000 in
set_option maxHeartbeats 3200000 in
theorem walk (A : Option Addr) (c n : Nat) (l : List ND) (hnl : l.length = n) (hnc : n ≤ c) (hcm : n ≤ 140737488351232) (hli : ∀ x ∈ l, i64 x.1 ∧ i64 x.2.1 ∧ i64 x.2.2) (at_ y : Int) (cut : Bool) (hat : i64 at_) (hy : 0 ≤ y ∧ y < 256) (w : World) (hr : Reads w w.heap.size 3 A n (l.flatMap ndCells)) (ht : Tab w) :
    Calls Tryd.prog 8 #[.slice A n c, .int .i64 at_, .int .u8 y, .bool cut] w fun e w' => e = .returned (.bool true) ∧ Below w.heap.size w w' := by
  have H1 := Lib.hid (lawTrees_any A c n l hnl hnc hcm hli w hr)
  have HSZ := Lib.hid (treesL_inv (l.take 60) (by rw [List.length_take]; omega))
  have HT := Lib.hid ht
  clear hr ht hli hnl
  go_enter Tryd.func8, Tryd.ntmps8
  go_wp2_with fail
  refine (H1.out).mono ?_
  rintro e w1 ⟨A1, c1, rs, rfl, hpl, htl, hb1⟩
  have hsz : T.sizes (rs.map TX.plain) ≤ 60 := by rw [hpl]; exact HSZ.out.1
  have htiny : ∀ t ∈ rs.map TX.plain, tiny t := by rw [hpl]; exact HSZ.out.2
  have H2 := Lib.hid (refMake_any A1 c1 rs w1 htl.lt (by omega))
  have HB1 := Lib.hid hb1
  have HSM := Lib.hid (puts_tiny htiny hsz)
  clear hpl htl hb1 hsz H1 htiny
  go_wp2_with fail
  refine (H2.out).mono ?_
  rintro e w2 ⟨u, rfl, hun, hur, huk, hb2⟩
  rw [← hun, ← hur] at HSM
  obtain ⟨W2, hW2⟩ : ∃ W, w2.alloc (.cells #[.slice u.nA u.ps.length u.nc, .slice u.rA u.rs.length u.rc] 29) = W := ⟨_, rfl⟩
  have HX2 : Hid (Blk W2 w2.heap.size 29 #[.slice u.nA u.ps.length u.nc, .slice u.rA u.rs.length u.rc]) := by
    rw [← hW2]; exact Blk.new w2 _ _
  have HD2 : Hid (Below w2.heap.size w2 W2) := by
    rw [← hW2]; exact bal (Below.refl _ w2) _
  have HB2 : Hid (Below w.heap.size w W2) := HB1.out.trans ((hb2.trans (HD2.out.mono hb2.size)).mono HB1.out.size)
  have HU : Hid (u.ok W2 W2.heap.size) := huk.up (Nat.le_refl _) HD2.out
  have hlen := small_few HU.out.fitV HSM.out
  have H3 := Lib.hid (bytes_any u W2 HU.out (by omega))
  have H4 : Hid (∀ w', Below W2.heap.size W2 w' → Calls Tryd.prog 32 #[u.val] w' (RB w' [] (encP u.ns u.rs))) := fun w' hb => rbytes_any u w' (HU.out.up (Nat.le_refl _) hb) (by omega)
  have HBY := Lib.hid (encP_byte u.ns u.rs)
  have hpos : 0 < (encP u.ns u.rs).length := by
    unfold encP
    rw [List.length_append]
    have := encI_pos ((u.ns.length : Nat) : Int)
    omega
  obtain ⟨bs, hbs⟩ : ∃ b, encP u.ns u.rs = b := ⟨_, rfl⟩
  rw [hbs] at H3 H4 HBY hlen hpos
  obtain ⟨N, hN⟩ : ∃ N, bs.length = N := ⟨_, rfl⟩
  have c20 := HX2.out.cell 0
  have c21 := HX2.out.cell 1
  simp at c20 c21
  unfold PkV.val at H3 H4 ⊢
  have HNL := Lib.hid hN
  rw [hN] at hlen hpos
  clear hun hur huk hb2 H2 hbs hN
  go_wp2_with fail
  refine (H3.out).mono ?_
  rintro e w3 ⟨A3, c3, rfl, hr3, hb3, hacc⟩
  have hcap : bs.length ≤ c3 := acc_cap hacc rfl
  rw [HNL.out] at hr3 hacc hcap ⊢
  have HACC : Hid (w3.ownsRow W2.heap.size 5 1 (.slice A3 N c3) N (bs.map byt)) := by have h := hacc; unfold Acc at h; rw [HNL.out] at h; exact h
  have HR3 := Lib.hid hr3
  have HB3' := Lib.hid hb3
  have HB3 : Hid (Below w.heap.size w w3) := HB2.out.trans (hb3.mono HB2.out.size)
  have HX3 := Lib.hid (HX2.out.below hb3 HX2.out.lt)
  have HCV : Hid (∀ w', Below w3.heap.size w3 w' → (convert 54 9 (.slice A3 N c3)).run Tryd.prog w' = .ok (.string (str bs)) w') := fun w' hb => run_bytes_str w' 54 9 5 c3 Tryd.underlying54 Tryd.underlying5 Tryd.underlying9 (hr3.below hb) HBY.out
  have HC4 : Hid (∀ w', Below w3.heap.size w3 w' → Calls Tryd.prog 32 #[.agg #[.slice u.nA u.ps.length u.nc, .slice u.rA u.rs.length u.rc]] w' (RB w' [] bs)) := fun w' hb => H4.out w' (HB3'.out.trans (hb.mono HB3'.out.size))
  have HCB : Hid (∀ w', Below w3.heap.size w3 w' → w'.cell? ⟨w2.heap.size, 0, none⟩ = some (.slice u.nA u.ps.length u.nc) ∧ w'.cell? ⟨w2.heap.size, 1, none⟩ = some (.slice u.rA u.rs.length u.rc)) := fun w' hb => by
    have h1 := HX3.out.below hb HX3.out.lt
    exact ⟨by rw [h1.cell]; rfl, by rw [h1.cell]; rfl⟩
  have B0 : Hid (Below w3.heap.size w3 w3.drew) := below_drewN (Below.refl _ w3) 1
  have cv0 := HCV.out _ B0.out
  clear hr3 hb3 hacc H3 c20 c21 hW2 H4
  have q0 := (HCB.out _ (Below.refl _ _)).1
  have q1 := (HCB.out _ (Below.refl _ _)).2
  have p0 := (HCB.out _ B0.out).1
  have p1 := (HCB.out _ B0.out).2
  go_upto_region 3 with fail
  go_cut [26] (fun s wx => s = .bool false ∧ Hid (Below w3.heap.size w3 wx))
  case first =>
    go_region_law (first | (go_simp; go_at_call 32; refine (HC4.out _ B0.out).mono ?_; rintro e w5 ⟨A5, k5, r5, rfl, he5, hr5, hb5⟩; rw [List.nil_append] at he5; subst he5; have B5 := Lib.hid (B0.out.trans (hb5.mono B0.out.size)); have cv5 := HCV.out _ B5.out; have cr5 := run_bytes_str w5 54 9 5 k5 Tryd.underlying54 Tryd.underlying5 Tryd.underlying9 hr5 HBY.out; clear hr5 hb5))
    all_goals
      go_wp2_with fail
      go_meet
      exact ⟨rfl, B5⟩
  case rest =>
    obtain ⟨rfl, HB5⟩ := hcut
    obtain ⟨w4, rfl⟩ : ∃ wo : World, wo = wc := ⟨_, rfl⟩
    obtain ⟨kn, hkn⟩ : ∃ kn : Nat, at_ % (N : Int) = (kn : Int) := ⟨(at_ % (N : Int)).toNat, by have := Int.emod_nonneg at_ (show (N : Int) ≠ 0 by omega); omega⟩
    have hkN : kn < N := by have := Int.emod_lt_of_pos at_ (show (0 : Int) < (N : Int) by omega); omega
    have HM := Lib.hid (mod_any at_ (N : Int) w4 (by omega) (by omega) hat.1 hat.2)
    rw [hkn] at HM
    have HAC4 : Hid (w4.ownsRow W2.heap.size 5 1 (.slice A3 N c3) N (bs.map byt)) := owns_below HACC.out HB5.out (own_lt HACC.out)
    obtain ⟨g, hA3, hgb, hfz, hcl, hset⟩ := own_set HAC4.out hkN
    subst hA3
    obtain ⟨x, hx⟩ : ∃ x, bs[kn]? = some x := ⟨_, List.getElem?_eq_getElem (by rw [HNL.out]; exact hkN)⟩
    have hx256 := HBY.out x (List.mem_of_getElem? hx)
    rw [List.getElem?_map, hx] at hcl
    have hcl' : w4.cell? ⟨g, kn, none⟩ = some (.int .u8 (x : Int)) := hcl
    obtain ⟨yn, rfl⟩ : ∃ yn : Nat, y = (yn : Int) := ⟨y.toNat, by omega⟩
    have hyn : yn < 256 := by omega
    obtain ⟨z, hz⟩ : ∃ z, x ^^^ yn = z := ⟨_, rfl⟩
    have hz256 : z < 256 := by rw [← hz]; exact Nat.xor_lt_two_pow (n := 8) (by omega) (by omega)
    have hxor : bits .xor .u8 (x : Int) (yn : Int) = (z : Int) := by rw [u8_xor_nat x yn hx256 hyn, hz]
    have HAC6 : Hid ((w4.setCell ⟨g, kn, none⟩ (.int .u8 (z : Int))).ownsRow W2.heap.size 5 1 (.slice (some ⟨g, 0, none⟩) N c3) N ((bs.set kn z).map byt)) := by
      have := hset (.int .u8 (z : Int))
      unfold Hid
      rw [List.map_set]
      exact this
    have HB4 : Hid (Below w.heap.size w w4) := HB3.out.trans (HB5.out.mono HB3.out.size)
    have HB6 : Hid (Below w.heap.size w (w4.setCell ⟨g, kn, none⟩ (.int .u8 (z : Int)))) := HB4.out.setCell (p := ⟨g, kn, none⟩) (by have := HB2.out.size; show w.heap.size ≤ g; omega) _
    have HBY6 : Hid (∀ v ∈ bs.set kn z, v < 256) := fun v hv => by
      rcases List.mem_or_eq_of_mem_set hv with h | h
      · exact HBY.out v h
      · omega
    have j0 : (0 : Int) ≤ (kn : Int) := by omega
    have j1 : (kn : Int) < (N : Int) := by omega
    clear hx hcl hset hz hkn q0 q1 p0 p1 cv0
    go_wp2_with fail
    refine (HM.out).mono ?_
    rintro e w5 ⟨rfl, rfl⟩
    obtain ⟨bs6, hbs6⟩ : ∃ b, bs.set kn z = b := ⟨_, rfl⟩
    have hl6 : bs6.length = N := by rw [← hbs6, List.length_set]; exact HNL.out
    rw [hbs6] at HAC6 HBY6
    have HL6 := Lib.hid hl6
    clear hbs6 hl6
    have HNC : Hid (N ≤ c3) := hcap
    cases cut
    rotate_left
    · go_wp2_with fail
      have j2 : (kn : Int) ≤ (c3 : Int) := by omega
      have j3 : (kn : Int) + 1 ≤ (N : Int) := by omega
      have j4 : (N : Int) ≤ (c3 : Int) := by omega
      have j5 : (0 : Int) ≤ (kn : Int) + 1 := by omega
      refine region_tail 7 (by kernel_rfl) (by kernel_rfl) _ rfl ?_
      simp only [List.take_succ_cons, List.take_zero, List.drop_succ_cons, List.drop_zero]
      repeat (go_big_quiet_step (fail))
      refine wpQuiet_nil ?_
      obtain ⟨i0, hi, hz0, hz1, hz2⟩ := info_parts u8_info
      have HOT := own_take (k := kn) HAC6.out (by omega)
      have HRD : Reads (w4.setCell ⟨g, kn, none⟩ (.int .u8 (z : Int))).drew (w4.setCell ⟨g, kn, none⟩ (.int .u8 (z : Int))).drew.heap.size 1 (if c3 = kn + 1 then some ⟨g, 0, none⟩ else some ⟨g, kn + 1, none⟩) (N - (kn + 1)) ((bs6.drop (kn + 1)).map byt) := by
        have h1 := (Reads.of_own HAC6.out).mid (lo := kn + 1) (k := N - (kn + 1)) (cap := c3) (by omega) (by omega)
        rw [List.map_drop, ← List.take_of_length_le (l := List.drop (kn + 1) (bs6.map byt)) (i := N - (kn + 1)) (by rw [List.length_drop, List.length_map, HL6.out]; omega)]
        have e : (Option.map (fun x : Addr => x.add (kn + 1)) (some (⟨g, 0, none⟩ : Addr))) = some ⟨g, kn + 1, none⟩ := by simp [Addr.add_lit]
        rw [e] at h1
        exact h1.drew
      rw [← List.map_take] at HOT
      obtain ⟨Ad, hAd⟩ : ∃ a, (if c3 = kn + 1 then some (⟨g, 0, none⟩ : Addr) else some ⟨g, kn + 1, none⟩) = a := ⟨_, rfl⟩
      rw [hAd] at HRD ⊢
      clear hAd
      refine wpList_append_row _ rfl (.tmp 41) (.tmp 45) 54 54 rfl W2.heap.size 5 i0 (.int .u8 0) 1 1 Tryd.underlying54 hi hz0 hz1 hz2 rfl (by decide) (.slice (some ⟨g, 0, none⟩) kn c3) kn ((bs6.take kn).map byt) rfl (HOT.drew) (.slice Ad (N - (kn + 1)) (c3 - (kn + 1))) (N - (kn + 1)) ((bs6.drop (kn + 1)).map byt) rfl (src_reads _ Tryd.underlying54 (c3 - (kn + 1)) HRD (byt_one _)) ?c1 ?c2 ?c3 ?_
      case c1 => unfold maxLen; omega
      case c2 => omega
      case c3 => exact Nat.le_trans (Nat.le_trans HB3'.out.size HB5.out.size) ((Chg.refl w4 (fun _ => True)).setCell (p := ⟨g, kn, none⟩) (.inl trivial) _).drew.size
      intro v7 wb hown7 hg7
      have hgb7 : W2.heap.size ≤ g := hgb
      obtain ⟨bsb, hbsb⟩ : ∃ b, bs6.take kn ++ bs6.drop (kn + 1) = b := ⟨_, rfl⟩
      obtain ⟨Nb, hNb⟩ : ∃ m, kn + (N - (kn + 1)) = m := ⟨_, rfl⟩
      rw [hNb, ← List.map_append, hbsb] at hown7
      have HLb : Hid (bsb.length = Nb) := by unfold Hid; rw [← hbsb, List.length_append, List.length_take, List.length_drop, HL6.out, ← hNb]; omega
      have HYb : Hid (∀ v ∈ bsb, v < 256) := fun v hv => by
        rw [← hbsb] at hv
        rcases List.mem_append.1 hv with h | h
        · exact HBY6.out v (List.mem_of_mem_take h)
        · exact HBY6.out v (List.mem_of_mem_drop h)
      obtain ⟨Ab, cb, rfl, hrb, -⟩ := own_reads hown7
      have HRb := Lib.hid hrb
      have HNb : Hid (Nb ≤ cb) := by
        rcases hown7.2 with ⟨e, hn⟩ | ⟨g, cap, cur, e, -, -, hnc, -⟩
        · unfold Hid; omega
        · injection e with _ _ e3; unfold Hid; omega
      have HBb : Hid (Below w.heap.size w wb) := (HB6.out.drew).trans (hg7.below (HB6.out.drew).size (fun b hb => by have := own_ge HOT hb; have := HB2.out.size; omega))
      have hNb1 : Nb ≤ 100000 := by omega
      clear hown7 hg7 hrb hbsb hNb HOT HRD
      have hfit := packB_fit (bs := bsb) (by have := HLb.out; omega)
      have H1 := Lib.hid (parse_any (by omega) HNb.out HRb.out HYb.out (HT.out.below HBb.out) hfit)
      have H2 : Hid (∀ w', Below wb.heap.size wb w' → Calls Tryd.prog 34 #[.slice Ab Nb cb] w' (ParsePost w' bsb)) := fun w' hb => rparse_any (by omega) HNb.out ((HRb.out.below hb).more hb.size) HYb.out hfit
      clear hfit
      go_wp2_with fail
      refine (H1.out).mono ?_
      rintro e w1 hp1
      obtain ⟨p, er, rfl, hun, hur, hue, huk, hb1⟩ := parse_post hp1
      obtain ⟨W6, hW6⟩ : ∃ W, w1.alloc (.cells #[.slice p.nA p.ps.length p.nc, .slice p.rA p.rs.length p.rc] 29) = W := ⟨_, rfl⟩
      have HX6 : Hid (Blk W6 w1.heap.size 29 #[.slice p.nA p.ps.length p.nc, .slice p.rA p.rs.length p.rc]) := by
        rw [← hW6]; exact Blk.new w1 _ _
      have HD6 : Hid (Below w1.heap.size w1 W6) := by
        rw [← hW6]; exact bal (Below.refl _ w1) _
      have HDb : Hid (Below wb.heap.size wb W6) := hb1.trans (HD6.out.mono hb1.size)
      have HB7 : Hid (Below w.heap.size w W6) := HBb.out.trans (HDb.out.mono HBb.out.size)
      have HP : Hid (p.ok W6 W6.heap.size) := huk.up (Nat.le_refl _) HD6.out
      have HUN := Lib.hid hun
      have HUR := Lib.hid hur
      have HUE := Lib.hid hue
      have H3 := Lib.hid (H2.out W6 HDb.out)
      unfold PkV.val
      clear hun hur hue huk hb1 hp1 H1 H2
      go_wp2_with fail
      refine (H3.out).mono ?_
      rintro e w3 hp3
      obtain ⟨v, er', rfl, hvn, hvr, hve, hvk, hb3⟩ := parse_post hp3
      obtain rfl : er' = er := hve.trans HUE.out.symm
      obtain ⟨W4, hW4⟩ : ∃ W, w3.alloc (.cells #[.slice v.nA v.ps.length v.nc, .slice v.rA v.rs.length v.rc] 29) = W := ⟨_, rfl⟩
      have HX4 : Hid (Blk W4 w3.heap.size 29 #[.slice v.nA v.ps.length v.nc, .slice v.rA v.rs.length v.rc]) := by
        rw [← hW4]; exact Blk.new w3 _ _
      have HD4 : Hid (Below w3.heap.size w3 W4) := by
        rw [← hW4]; exact bal (Below.refl _ w3) _
      have HD24 : Hid (Below W6.heap.size W6 W4) := hb3.trans (HD4.out.mono hb3.size)
      have HB8 : Hid (Below w.heap.size w W4) := HB7.out.trans (HD24.out.mono HB7.out.size)
      have HX6' := Lib.hid (HX6.out.below HD24.out HX6.out.lt)
      have H4 := Lib.hid (refSame_any p v W4 (HP.out.up (Nat.le_refl _) HD24.out) (hvk.up (Nat.le_refl _) HD4.out))
      have HEQ : Hid (eqPk p v) := ⟨by rw [HUN.out, hvn], by rw [HUR.out, hvr]⟩
      have c20 := HX6'.out.cell 0
      have c21 := HX6'.out.cell 1
      have c40 := HX4.out.cell 0
      have c41 := HX4.out.cell 1
      simp at c20 c21 c40 c41
      unfold PkV.val at H4 ⊢
      clear hvn hvr hve hvk hb3 hp3 H3 hW6
      go_wp2_with fail
      refine (H4.out).mono ?_
      rintro e w5 ⟨bv, hbv, rfl, hb4⟩
      obtain rfl : bv = true := hbv.2 HEQ.out
      have HB9 : Hid (Below w.heap.size w w5) := HB8.out.trans (hb4.mono HB8.out.size)
      have H5 := Lib.hid (awake_any w5 (HT.out.below HB9.out))
      clear hbv hb4 H4
      go_wp2_with fail
      refine (H5.out).mono ?_
      rintro e w6 ⟨rfl, hb5⟩
      have HB10 : Hid (Below w.heap.size w w6) := HB9.out.trans (hb5.mono HB9.out.size)
      clear hb5 H5
      go_wp2_with fail
      go_ret
      exact ⟨rfl, HB10.out⟩
    · obtain ⟨wb, hwb⟩ : ∃ wb, w4.setCell ⟨g, kn, none⟩ (.int .u8 (z : Int)) = wb := ⟨_, rfl⟩
      rw [hwb] at HAC6 HB6
      have HNb : Hid (N ≤ c3) := hcap
      have HLb := Lib.hid HL6.out
      have HYb := Lib.hid HBY6.out
      have HBb := Lib.hid HB6.out
      have HRb : Hid (Reads wb wb.heap.size 1 (some ⟨g, 0, none⟩) N (bs6.map byt)) := Reads.of_own HAC6.out
      have hfit := packB_fit (bs := bs6) (by have := HLb.out; omega)
      have H1 := Lib.hid (parse_any (by omega) HNb.out HRb.out HYb.out (HT.out.below HBb.out) hfit)
      have H2 : Hid (∀ w', Below wb.heap.size wb w' → Calls Tryd.prog 34 #[.slice (some ⟨g, 0, none⟩) N c3] w' (ParsePost w' bs6)) := fun w' hb => rparse_any (by omega) HNb.out ((HRb.out.below hb).more hb.size) HYb.out hfit
      clear hfit
      go_wp2_with fail
      refine (H1.out).mono ?_
      rintro e w1 hp1
      obtain ⟨p, er, rfl, hun, hur, hue, huk, hb1⟩ := parse_post hp1
      obtain ⟨W6, hW6⟩ : ∃ W, w1.alloc (.cells #[.slice p.nA p.ps.length p.nc, .slice p.rA p.rs.length p.rc] 29) = W := ⟨_, rfl⟩
      have HX6 : Hid (Blk W6 w1.heap.size 29 #[.slice p.nA p.ps.length p.nc, .slice p.rA p.rs.length p.rc]) := by
        rw [← hW6]; exact Blk.new w1 _ _
      have HD6 : Hid (Below w1.heap.size w1 W6) := by
        rw [← hW6]; exact bal (Below.refl _ w1) _
      have HDb : Hid (Below wb.heap.size wb W6) := hb1.trans (HD6.out.mono hb1.size)
      have HB7 : Hid (Below w.heap.size w W6) := HBb.out.trans (HDb.out.mono HBb.out.size)
      have HP : Hid (p.ok W6 W6.heap.size) := huk.up (Nat.le_refl _) HD6.out
      have HUN := Lib.hid hun
      have HUR := Lib.hid hur
      have HUE := Lib.hid hue
      have H3 := Lib.hid (H2.out W6 HDb.out)
      unfold PkV.val
      clear hun hur hue huk hb1 hp1 H1 H2
      go_wp2_with fail
      refine (H3.out).mono ?_
      rintro e w3 hp3
      obtain ⟨v, er', rfl, hvn, hvr, hve, hvk, hb3⟩ := parse_post hp3
      obtain rfl : er' = er := hve.trans HUE.out.symm
      obtain ⟨W4, hW4⟩ : ∃ W, w3.alloc (.cells #[.slice v.nA v.ps.length v.nc, .slice v.rA v.rs.length v.rc] 29) = W := ⟨_, rfl⟩
      have HX4 : Hid (Blk W4 w3.heap.size 29 #[.slice v.nA v.ps.length v.nc, .slice v.rA v.rs.length v.rc]) := by
        rw [← hW4]; exact Blk.new w3 _ _
      have HD4 : Hid (Below w3.heap.size w3 W4) := by
        rw [← hW4]; exact bal (Below.refl _ w3) _
      have HD24 : Hid (Below W6.heap.size W6 W4) := hb3.trans (HD4.out.mono hb3.size)
      have HB8 : Hid (Below w.heap.size w W4) := HB7.out.trans (HD24.out.mono HB7.out.size)
      have HX6' := Lib.hid (HX6.out.below HD24.out HX6.out.lt)
      have H4 := Lib.hid (refSame_any p v W4 (HP.out.up (Nat.le_refl _) HD24.out) (hvk.up (Nat.le_refl _) HD4.out))
      have HEQ : Hid (eqPk p v) := ⟨by rw [HUN.out, hvn], by rw [HUR.out, hvr]⟩
      have c20 := HX6'.out.cell 0
      have c21 := HX6'.out.cell 1
      have c40 := HX4.out.cell 0
      have c41 := HX4.out.cell 1
      simp at c20 c21 c40 c41
      unfold PkV.val at H4 ⊢
      clear hvn hvr hve hvk hb3 hp3 H3 hW6
      go_wp2_with fail
      refine (H4.out).mono ?_
      rintro e w5 ⟨bv, hbv, rfl, hb4⟩
      obtain rfl : bv = true := hbv.2 HEQ.out
      have HB9 : Hid (Below w.heap.size w w5) := HB8.out.trans (hb4.mono HB8.out.size)
      have H5 := Lib.hid (awake_any w5 (HT.out.below HB9.out))
      clear hbv hb4 H4
      go_wp2_with fail
      refine (H5.out).mono ?_
      rintro e w6 ⟨rfl, hb5⟩
      have HB10 : Hid (Below w.heap.size w w6) := HB9.out.trans (hb5.mono HB9.out.size)
      clear hb5 H5
      go_wp2_with fail
      go_ret
      exact ⟨rfl, HB10.out⟩
theorem own : ownKnob Tryd.prog.godebug = none := by kernel_rfl
theorem laidOut : laidOutB Tryd.prog = true := by kernel_rfl
theorem specN (H : Type) (ds : List (DataW H)) (h : ds.length = 4) : Rows.packBytesSpec.fn H (ds ++ []) = { results := [.lit (.bool true)], args := ds } := by
  match ds, h with
  | [_, _, _, _], _ => rfl
theorem reads (os : Os) {H : Type} (enc : TypeId × Value → H) : ∃ places, DataW.whole enc Tryd.prog ((laidWorld os).forCall (fun _ _ => 0) ⟨#[], #[.slice none 0 0, .int .i64 0, .int .u8 0, .bool false], []⟩).memory Tryd.f8.params.toList Rows.packBytesSpec.vars false (#[.slice none 0 0, .int .i64 0, .int .u8 0, .bool false] : Array Value).toList 8 = some ([.nil, .lit (.int .i64 0), .lit (.int .u8 0), .lit (.bool false)], [], places) :=
  ⟨[], by kernel_rfl⟩

set_option maxRecDepth 100000 in
theorem lifted (os : Os) (started : os.Started) (H : Type) (enc : TypeId × Value → H) (F : Stop.Interp) :
    ReturnsInHanded {} Tryd.checked os 8 .any ((OpenSpec.ofChange Rows.packBytesSpec).preRow enc Tryd.prog Tryd.f8 Rows.packBytesRow.domain false Rows.packBytesRow.laid) (((OpenSpec.ofChange Rows.packBytesSpec).at F).post enc Tryd.prog Tryd.f8 false true false false) := by
  obtain ⟨places, hx⟩ := reads os enc
  refine law_of_walk_laid (C := Tryd.checked) own started (by kernel_rfl) Tryd.func8 rfl rfl Tryd.underlying4 laidOut (by kernel_rfl) (fun ds h => specN H ds (h.trans (by kernel_rfl)))
    (witness_row_at (enc := enc) (C := Tryd.checked) false (laidWorld os) #[.slice none 0 0, .int .i64 0, .int .u8 0, .bool false] rfl (by kernel_rfl) (by kernel_rfl) (by kernel_rfl)
      (OpenSpec.preRow_of_cond 8 hx (by kernel_rfl) (fun k hk => by cases hk) (by kernel_rfl) (laid_met os #[.slice none 0 0, .int .i64 0, .int .u8 0, .bool false]))) ?_
  intro W base args ds p hval hA hsz hL
  have hval' : ∀ (j : Nat) t v, Tryd.f8.params[j]? = some t → args[j]? = some v → Value.okWide Tryd.prog W .any base t v := hval
  rw [Tryd.params8] at hval' hA hsz
  obtain ⟨v0, vs0, d0, ds0, p0, q0, hargs, rfl, rfl, h0, r0⟩ := trodAll_cons hA
  obtain ⟨v1, vs1, d1, ds1, p1, q1, rfl, rfl, rfl, h1, r1⟩ := trodAll_cons r0
  obtain ⟨v2, vs2, d2, ds2, p2, q2, rfl, rfl, rfl, h2, r2⟩ := trodAll_cons r1
  obtain ⟨v3, vs3, d3, ds3, p3, q3, rfl, rfl, rfl, h3, r3⟩ := trodAll_cons r2
  obtain ⟨rfl, rfl, rfl⟩ := trodAll_nil r3
  obtain rfl : args = #[v0, v1, v2, v3] := by cases args; simp_all
  obtain ⟨a0, len0, cap0, rfl⟩ := okWide_slice Tryd.underlying22 (hval' 0 22 v0 rfl rfl)
  obtain ⟨nc0, nm0, l0, nl0, nr0, ni0⟩ := open_nodes h0 (sm_arg hsz (j := 0) (t := 22) rfl rfl)
  obtain ⟨a1, rfl, rfl, rfl, w1⟩ := open_int Tryd.underlying3 (hval' 1 3 v1 rfl rfl) h1
  obtain ⟨a2, rfl, rfl, rfl, w2⟩ := open_int Tryd.underlying5 (hval' 2 5 v2 rfl rfl) h2
  obtain ⟨a3, rfl, rfl, rfl⟩ := open_bool Tryd.underlying4 (hval' 3 4 v3 rfl rfl) h3
  exact walk a0 cap0 len0 l0 nl0 nc0 nm0 ni0 a1 a2 a3 (wf_i64 w1) (wf_u8 w2) W nr0 (tab_of_laid hL)

theorem said : Rows.PackBytesSaid :=
  OpenClaim.holds_of_cond 8 Tryd.f8 rfl rfl rfl rfl rfl rfl rfl ⟨rfl, rfl, rfl, rfl, rfl⟩ rfl rfl rfl rfl rfl (by kernel_rfl) Tryd.func8 (by kernel_rfl)
    (of_decide_eq_true (by kernel_rfl)) (by unfold Func.isWrapper; first | (rw [if_pos (by decide +kernel)]; kernel_rfl) | (rw [if_neg (by decide +kernel)]; exact ⟨rfl, rfl⟩))
    (fun os started H enc _ F => by rw [OpenClaim.pre_eq_preRow]; exact lifted os started H enc F)

theorem plain (f : FuncId) (fn : Func) (hf : Tryd.pinned.checked.prog.funcNamed Rows.packBytesRow.func = some f) (hfn : Tryd.pinned.checked.prog.funcs[f]? = some fn) :
    false = Tryd.pinned.checked.prog.looks [] ∧ ∀ (j : Nat) t, fn.params[j]? = some t → Tryd.pinned.checked.prog.wantsStandIn t = false := by
  obtain rfl : f = 8 := Option.some.inj ((show Tryd.prog.funcNamed Rows.packBytesRow.func = some 8 by kernel_rfl).symm.trans hf) |>.symm
  obtain rfl : fn = Tryd.f8 := (Option.some.inj (Tryd.func8.symm.trans hfn)).symm
  refine ⟨by kernel_rfl, fun j t ht => ?_⟩
  have hall : Tryd.f8.params.toList.all (fun t => Tryd.prog.wantsStandIn t == false) = true := by kernel_rfl
  have hm := List.all_eq_true.1 hall t (by rw [Array.mem_toList_iff]; exact Array.mem_of_getElem? ht)
  have hm' : Tryd.prog.wantsStandIn t = false := by simpa using hm
  exact hm'

theorem proved : Rows.PackBytesCardSaid :=
  Claim7.holds_tied_plain_at .later [] _ _ _ _ said (fun _ h => by cases h) (by kernel_rfl) (fun _ h => by cases h) packBytes_row_tie rfl ⟨rfl, rfl⟩ (by kernel_rfl) rfl plain (by kernel_rfl)
end Go.Proofs.YtdabmjcpiblofaaDoor.packBytes
