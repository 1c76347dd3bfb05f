/-
  The reference's Reset: a round of its loop. No condition.
-/
import Derived.Test.YtnjafhlpnoikcaaLrE
import Derived.Deep.RegionHeld3
namespace Go.Proofs.Ytnjafhlpnoikcaa
open Go.RowKit
set_option linter.unusedVariables false

theorem bal {w X : World} (h : Below w.heap.size w X) (o : Obj) : Below w.heap.size w (X.alloc o) := h.alloc h.size o
/-- behind 'append(all, 1)' and 'length(n)', in whatever order -/
structure ES (w wr wE : World) (L : Nat) (xs : List Value) (n : Nat) (av v2 D : Value) : Prop where
  own : wE.ownsRow w.heap.size 5 1 v2 (L + 1) (xs ++ [.int .u8 1])
  src : Src Try.prog 1 32 D 4 ((be4 n).map byt) wE
  gr : Grows wr wE av v2
theorem be4_src {X : World} {g n : Nat} (h : Blk X g 5 ((be4 n).map byt).toArray) : Src Try.prog 1 32 (.slice (some ⟨g, 0, none⟩) 4 4) 4 ((be4 n).map byt) X :=
  src_reads (P := Try.prog) X (tx := 32) Try.underlying32 (B := X.heap.size) 4 ⟨rfl, fun _ => ⟨_, rfl, h.lt, fun j u hu => by rw [Addr.add_lit, Nat.zero_add, h.cell]; simpa using hu⟩⟩ (byt_one _)
section
variable {w wr w2 w3 w4 W : World} {L n gd : Nat} {xs : List Value} {av v2 : Value}
theorem es_of_b (ho : w2.ownsRow w.heap.size 5 1 v2 (L + 1) (xs ++ [.int .u8 1])) (hg : Grows wr w2 av v2) (hb : Below w2.heap.size w2 w3) (hk : Blk w3 w2.heap.size 5 ((be4 n).map byt).toArray) : ES w wr w3 L xs n av v2 (.slice (some ⟨w2.heap.size, 0, none⟩) 4 4) :=
  ⟨owns_below ho hb (own_lt ho), be4_src hk, hg.trans (Grows.of_below v2 hb)⟩
theorem es_of_d (hW : Below wr.heap.size wr W) (hk : Blk W gd 5 ((be4 n).map byt).toArray) (hgd : wr.heap.size ≤ gd) (hav : ∀ g, av.ownBlock = some g → g < wr.heap.size) (hg : Grows W w4 av v2) (ho : w4.ownsRow w.heap.size 5 1 v2 (L + 1) (xs ++ [.int .u8 1])) : ES w wr w4 L xs n av v2 (.slice (some ⟨gd, 0, none⟩) 4 4) :=
  ⟨ho, be4_src (hg.blk hk (fun e => by have := hav _ e; omega)), (Grows.of_below av hW).trans hg⟩
end
/-- 'length', its result by its block -/
theorem rlength_b (n : Nat) (w : World) (hn : n ≤ 1000000000) :
    Calls Try.prog 52 #[.int .i64 (n : Int)] w fun e w' => e = .returned (.slice (some ⟨w.heap.size, 0, none⟩) 4 4) ∧ Below w.heap.size w w' ∧ Blk w' w.heap.size 5 ((be4 n).map byt).toArray :=
  (rlength_any n w hn).mono fun e w' ⟨h1, h2⟩ => ⟨h1, by rw [h2]; exact (Below.refl _ w).alloc (Nat.le_refl _) _, by rw [h2]; exact Blk.new w 5 _⟩

set_option maxRecDepth 100000 in
set_option maxHeartbeats 4000000 in
theorem rreset_any {w : World} {g r : Nat} {s : DS} {l : LS} {F K : Nat → Prop} {A : Option Addr} {c : Nat} {rs : List Rc} (h : RBoth w g r s l F K) (hn : rs.length ≤ 100) (hsm : ∀ r ∈ rs, r.b.length ≤ 1000) (hr : RcA w (fun i => F i ∨ K i) A rs) :
    Calls Try.prog 26 #[.pointer (some ⟨g, 0, none⟩), .slice A rs.length c] w (RAppPost w g r F K (resetS s l (rs.map (·.b)))) := by
  obtain ⟨bs, hbs⟩ : ∃ bs, bs = rs.map (·.b) := ⟨_, rfl⟩
  obtain ⟨n, hnn⟩ : ∃ n, rs.length = n := ⟨_, rfl⟩
  have hres : resetS s l bs = if l.dead then (15, s, l) else if l.half < (areaS bs).length + 1 then (17, s, l) else if (replS s l bs).1 = 0 then (0, (replS s l bs).2, { l with second := !l.second, recs := bs, fin := (areaS bs).length }) else ((replS s l bs).1, (replS s l bs).2, { l with dead := true }) := rfl
  have hmost : (areaS bs).length ≤ 100500 := by
    have h1 := area_most (bs := bs) (m := 1000) (fun b hb => by
      rw [hbs] at hb
      obtain ⟨r, hr1, rfl⟩ := List.mem_map.1 hb
      exact hsm r hr1)
    have h2 : bs.length = n := by rw [hbs, List.length_map, hnn]
    rw [h2] at h1
    have h3 : n * (5 + 1000) ≤ 100 * (5 + 1000) := Nat.mul_le_mul_right _ (by omega)
    omega
  rw [← hbs, hnn]
  rw [hnn] at hn
  obtain ⟨v0, rs0, hx0⟩ := h.log
  have c4 := hx0.blk.cell 4
  have hhalf := hx0.half
  simp at c4
  have hgl := hx0.lt g hx0.kg
  have HKL := Lib.hid hx0.lt
  have A0 := RA.start (A := none) (b := []) h Reads.none_ (fun hn => by cases hn)
  have SAME : Hid (∀ x, RAppPost w g r F K (x, s, l) (.returned (.int .i64 x)) w) := fun x => A0.fin x
  have HA0 := Lib.hid A0
  have HNN := Lib.hid hnn
  have HBS := Lib.hid hbs
  have HRA := Lib.hid hr
  have HSM := Lib.hid hsm
  obtain ⟨i5, hi5, hy0, hy1, hy2⟩ := info_parts byte_info
  obtain ⟨i0, hi0, hz0, hz1, hz2⟩ := info_parts slices_info
  have HI5 := Lib.hid hi5
  have HY0 := Lib.hid hy0
  have HY1 := Lib.hid hy1
  have HY2 := Lib.hid hy2
  have HI0 := Lib.hid hi0
  have HZ0 := Lib.hid hz0
  have HZ1 := Lib.hid hz1
  have HZ2 := Lib.hid hz2
  clear h hr hsm hx0 hnn hbs A0 hi5 hy0 hy1 hy2 hi0 hz0 hz1 hz2
  by_cases hdead : l.dead = true
  · rw [if_pos hdead] at hres
    replace hres := Lib.hid hres
    rw [hdead] at c4
    go_enter Try.func26, Try.ntmps26
    go_wp2_with fail
    go_ret
    rw [hres.out]
    exact SAME.out 15
  have hd' : l.dead = false := by cases hd : l.dead with | false => rfl | true => exact absurd hd hdead
  rw [if_neg hdead] at hres
  rw [hd'] at c4
  have HRES := Lib.hid hres
  have HD := Lib.hid hd'
  clear hres hdead hd'
  go_enter Try.func26, Try.ntmps26
  go_wp2_with fail
  go_loopw [5, 6, 7] (fun av cv jv wr => ∃ (j : Nat) (rs' : List Rc), jv = .int .i64 (j : Int) ∧ j ≤ n ∧ RC w wr bs j av cv rs') (fun _ _ jv _ => n - (intOf jv).toNat)
  case atStart => exact ⟨0, [], rfl, Nat.zero_le _, RC.start w bs⟩
  case round =>
    obtain ⟨j, rs', rfl, hj, hC⟩ := hrel
    have CC := Lib.hid hC
    have hws := hC.bel.size
    have hal := area_take_le bs j
    have hrl' : rs'.length = j := by
      have := congrArg List.length hC.map
      rw [List.length_map, List.length_take, HBS.out, List.length_map, HNN.out] at this
      omega
    have HRL := Lib.hid hrl'
    clear hC hrl'
    by_cases hlt : j < n
    · have dlt : decide ((j : Int) < (n : Int)) = true := by simp; omega
      obtain ⟨x, hx⟩ : ∃ x, rs[j]? = some x := ⟨rs[j]'(by rw [HNN.out]; exact hlt), List.getElem?_eq_getElem _⟩
      have hrow := (HRA.out).row
      rw [HNN.out] at hrow
      obtain ⟨b1, o1, u1, rfl, hb1, hu1, -⟩ := hrow.at1 hlt
      obtain rfl : u1 = .slice x.A x.b.length x.c := by rw [rcell_at hx] at hu1; injection hu1 with hu1; exact hu1.symm
      have HC : Hid (∀ X, Below w.heap.size w X → X.cell? ⟨b1, o1 + j, none⟩ = some (.slice x.A x.b.length x.c)) := fun X hb => by
        have hrow := (HRA.out).row
        rw [HNN.out] at hrow
        obtain ⟨b1', o1', u1, he, hb1', hu1', g1⟩ := (hrow.below hb).at1 hlt
        injection he with he
        injection he with e1 e2
        subst e1 e2
        rw [rcell_at hx] at hu1'
        injection hu1' with hu1'
        rw [← hu1'] at g1
        exact g1
      have hbj : bs[j]? = some x.b := by rw [HBS.out, List.getElem?_map, hx]; rfl
      have hrl := area_len_mem (List.mem_of_getElem? hbj)
      have htk := area_take hbj
      have htl := area_take_le bs (j + 1)
      have hcl : (areaS (bs.take (j + 1))).length = (areaS (bs.take j)).length + 1 + 4 + x.b.length := by rw [htk, List.length_append, recB_len]; omega
      have hcm : (areaS (bs.take (j + 1))).map byt = (areaS (bs.take j)).map byt ++ (.int .u8 1 :: ((be4 x.b.length).map byt ++ x.b.map byt)) := by rw [htk]; simp [recB, byt]
      have hne : ¬ n ≤ j := by omega
      have HMEM := Lib.hid (List.mem_of_getElem? hx)
      have HCL := Lib.hid hcl
      have HCM := Lib.hid hcm
      have HBJ := Lib.hid hbj
      have HAV := Lib.hid (own_lt (CC.out).all)
      have HSRC : Hid (∀ X, Below w.heap.size w X → Src Try.prog 1 32 (.slice x.A x.b.length x.c) x.b.length (x.b.map byt) X) := fun X hb => src_reads (P := Try.prog) X (tx := 32) Try.underlying32 x.c (((HRA.out).below hb).each x (HMEM.out)).1 (byt_one x.b)
      have hLe := Lib.hid (show ∀ W, Calls Try.prog 52 #[.int .i64 (x.b.length : Int)] W fun e w' => e = .returned (.slice (some ⟨W.heap.size, 0, none⟩) 4 4) ∧ Below W.heap.size W w' ∧ Blk w' W.heap.size 5 ((be4 x.b.length).map byt).toArray from fun W => rlength_b x.b.length W (by omega))
      have B0 : Hid (Below w.heap.size w wr.drew) := below_drewN (CC.out).bel 1
      have BR : Hid (Below wr.heap.size wr wr.drew) := below_drewN (Below.refl _ _) 1
      have M1 : Hid ((areaS (bs.take j)).length + 1 ≤ maxLen ∧ ((areaS (bs.take j)).length + 1) * 1 ≤ 140737488355328 ∧ (areaS (bs.take j)).length + 1 + 4 ≤ maxLen ∧ ((areaS (bs.take j)).length + 1 + 4) * 1 ≤ 140737488355328 ∧ (areaS (bs.take j)).length + 1 + 4 + x.b.length ≤ maxLen ∧ ((areaS (bs.take j)).length + 1 + 4 + x.b.length) * 1 ≤ 140737488355328) := by unfold Hid maxLen; omega
      have HO : Hid (wr.ownsRow w.heap.size 5 1 u5 (areaS (bs.take j)).length ((areaS (bs.take j)).map byt)) := (CC.out).all
      have hxb : x.b.length ≤ 100500 := by omega
      clear hx hrow hu1 hbj htk hcl hcm hrl
      have S1 : Hid (∀ u ∈ [Value.int .u8 1], u.oneCell' = true) := fun u hu => by simp at hu; subst hu; rfl
      have BRa : Hid (Below wr.heap.size wr (wr.drew.alloc (.cells #[.int .u8 1] 5))) := (BR.out).alloc (Nat.le_refl _) _
      have GD2 : Hid (wr.heap.size ≤ (wr.drew.alloc (.cells #[.int .u8 1] 5)).heap.size) := (BRa.out).size
      have O3 : Hid (∀ X, Below wr.drew.heap.size wr.drew X → X.ownsRow w.heap.size 5 1 u5 (areaS (bs.take j)).length ((areaS (bs.take j)).map byt)) := fun X hb => owns_below (w := wr.drew) HO.out hb (HAV.out)
      have O2 : Hid (∀ X, Below (wr.drew.alloc (.cells #[.int .u8 1] 5)).heap.size (wr.drew.alloc (.cells #[.int .u8 1] 5)) X → X.ownsRow w.heap.size 5 1 u5 (areaS (bs.take j)).length ((areaS (bs.take j)).map byt) ∧ Src Try.prog 1 32 (.slice (some ⟨wr.drew.heap.size, 0, none⟩) 1 1) 1 [.int .u8 1] X) := fun X hb =>
        ⟨owns_below (World.ownsRow.alloc (w := wr.drew) (HO.out) (.cells #[.int .u8 1] 5)) hb (fun g hg => Nat.lt_of_lt_of_le ((HAV.out) g hg) (GD2.out)), src_reads (P := Try.prog) X (tx := 32) Try.underlying32 (B := X.heap.size) 1 ⟨rfl, fun _ => ⟨_, rfl, ((Blk.new wr.drew 5 #[.int .u8 1]).below hb (Blk.new wr.drew 5 #[.int .u8 1]).lt).lt, fun q u hu => by rw [Addr.add_lit, Nat.zero_add, ((Blk.new wr.drew 5 #[.int .u8 1]).below hb (Blk.new wr.drew 5 #[.int .u8 1]).lt).cell]; simpa using hu⟩⟩ (S1.out)⟩
      go_wp2_with fail
      go_region_held3 (fun w' => w'.cell? ⟨b1, o1 + j, none⟩ = some (.slice x.A x.b.length x.c)) (first | exact HC.out _ BF.out | exact HC.out _ BG.out | exact HC.out _ BE.out | exact HC.out _ BB.out | exact HC.out _ B2.out | exact HC.out _ (bal B3.out _) | exact HC.out _ B3.out | exact HC.out _ B0.out | exact HC.out _ (bal B0.out _))
        (first
          | ((refine step_append_row _ rfl (.tmp 32) (.tmp 36) 32 32 rfl w.heap.size 5 i5 (.int .u8 0) 1 1 Try.underlying32 HI5.out HY0.out HY1.out HY2.out rfl (by decide) _ ((areaS (bs.take j)).length + 1 + 4) _ rfl (HG.out.1) _ x.b.length (x.b.map byt) rfl (HSRC.out _ BG.out) M1.out.2.2.2.2.1 M1.out.2.2.2.2.2 (BG.out.size) ?_; intro v6 w6 ho6 hg6; obtain ⟨A6, c6, rfl, -, -⟩ := reads_of_owns ho6; have BF := Lib.hid (BG.out.trans (hg6.below BG.out.size (own_from HG.out.1))); have HF := Lib.hid (And.intro ho6 (HG.out.2.trans hg6)); clear ho6 hg6))
          | ((refine step_append_row _ rfl (.tmp 25) (.tmp 31) 32 32 rfl w.heap.size 5 i5 (.int .u8 0) 1 1 Try.underlying32 HI5.out HY0.out HY1.out HY2.out rfl (by decide) _ ((areaS (bs.take j)).length + 1) _ rfl (HE.out.own) _ 4 ((be4 x.b.length).map byt) rfl (HE.out.src) M1.out.2.2.1 M1.out.2.2.2.1 (BE.out.size) ?_; intro v5 w5 ho5 hg5; obtain ⟨A5, c5, rfl, -, -⟩ := reads_of_owns ho5; have BG := Lib.hid (BE.out.trans (hg5.below BE.out.size (own_from HE.out.own))); have HG := Lib.hid (And.intro ho5 (HE.out.gr.trans hg5)); clear ho5 hg5))
          | ((go_at_call 52; refine (hLe.out _).mono ?_; rintro e w3 ⟨rfl, hb3, hk3⟩; have HE := Lib.hid (es_of_b HB.out.1 HB.out.2 hb3 hk3); have BE := Lib.hid (BB.out.trans (hb3.mono BB.out.size)); clear hb3 hk3))
          | ((refine step_append_row _ rfl (.tmp 23) (.tmp 24) 32 32 rfl w.heap.size 5 i5 (.int .u8 0) 1 1 Try.underlying32 HI5.out HY0.out HY1.out HY2.out rfl (by decide) _ (areaS (bs.take j)).length _ rfl ((O2.out _ H2.out).1) _ 1 [.int .u8 1] rfl ((O2.out _ H2.out).2) M1.out.1 M1.out.2.1 (B2.out.size) ?_; intro v2 w4 ho4 hg4; obtain ⟨A2, c2, rfl, -, -⟩ := reads_of_owns ho4; have HE := Lib.hid (es_of_d K2.out.1 K2.out.2 GD2.out HAV.out hg4 ho4); have BE := Lib.hid (B2.out.trans (hg4.below B2.out.size (own_from (O2.out _ H2.out).1))); clear ho4 hg4))
          | ((refine step_append_row _ rfl (.tmp 23) (.tmp 24) 32 32 rfl w.heap.size 5 i5 (.int .u8 0) 1 1 Try.underlying32 HI5.out HY0.out HY1.out HY2.out rfl (by decide) _ (areaS (bs.take j)).length _ rfl ((O3.out _ H3.out).alloc _) _ 1 [.int .u8 1] rfl (src_new w3 Try.underlying32 [_] 1 1 1 5 rfl S1.out) M1.out.1 M1.out.2.1 ((bal B3.out _).size) ?_; intro v2 w4 ho4 hg4; obtain ⟨A2, c2, rfl, -, -⟩ := reads_of_owns ho4; have HE := Lib.hid (es_of_d (K3.out.1.alloc K3.out.1.size (.cells #[.int .u8 1] 5)) (K3.out.2.alloc (.cells #[.int .u8 1] 5)) BR.out.size HAV.out hg4 ho4); have BE := Lib.hid ((bal B3.out (.cells #[.int .u8 1] 5)).trans (hg4.below (bal B3.out (.cells #[.int .u8 1] 5)).size (own_from (O3.out _ H3.out)))); clear ho4 hg4))
          | ((refine step_append_row _ rfl (.tmp 23) (.tmp 24) 32 32 rfl w.heap.size 5 i5 (.int .u8 0) 1 1 Try.underlying32 HI5.out HY0.out HY1.out HY2.out rfl (by decide) _ (areaS (bs.take j)).length _ rfl (World.ownsRow.alloc (w := wr.drew) (HO.out) _) _ 1 [.int .u8 1] rfl (src_new wr.drew Try.underlying32 [_] 1 1 1 5 rfl S1.out) M1.out.1 M1.out.2.1 ((bal B0.out _).size) ?_; intro v2 w2 ho2 hg2; obtain ⟨A2, c2, rfl, -, -⟩ := reads_of_owns ho2; have HB := Lib.hid (And.intro ho2 ((Grows.of_below u5 BRa.out).trans hg2)); have BB := Lib.hid ((bal B0.out (.cells #[.int .u8 1] 5)).trans (hg2.below (bal B0.out (.cells #[.int .u8 1] 5)).size (own_from HO.out))); clear ho2 hg2))
          | ((go_at_call 52; refine (hLe.out _).mono ?_; rintro e w3 ⟨rfl, hb3, hk3⟩; have B3 := Lib.hid (B0.out.trans (hb3.mono B0.out.size)); have H3 := Lib.hid hb3; have K3 := Lib.hid (And.intro (BR.out.trans (hb3.mono BR.out.size)) hk3); clear hb3 hk3))
          | ((go_at_call 52; refine (hLe.out _).mono ?_; rintro e w3 ⟨rfl, hb3, hk3⟩; have B2 := Lib.hid ((bal B0.out (.cells #[.int .u8 1] 5)).trans (hb3.mono (bal B0.out (.cells #[.int .u8 1] 5)).size)); have H2 := Lib.hid hb3; have K2 := Lib.hid (And.intro (BRa.out.trans (hb3.mono BRa.out.size)) hk3); clear hb3 hk3)))
      all_goals
        have hg6 := HF.out
        have hlen : (areaS (bs.take j)).length + 1 + 4 + x.b.length = (areaS (bs.take (j + 1))).length := (HCL.out).symm
        have hmm : (areaS (bs.take j)).map byt ++ [.int .u8 1] ++ (be4 x.b.length).map byt ++ x.b.map byt = (areaS (bs.take (j + 1))).map byt := by rw [HCM.out]; simp
        rw [hmm] at hg6
        have ho6 := hg6.1
        have R2 : Hid (RC2 w w6 bs j (.slice A6 ((areaS (bs.take j)).length + 1 + 4 + x.b.length) c6) u6 rs') := (CC.out).grow hg6.2 (by rw [hlen] at ho6 ⊢; exact ho6)
        have k6 := HC.out _ BF.out
        have hw6 := (BF.out).size
        have HB1 := Lib.hid hb1
        have hb1l : b1 < w6.heap.size := by omega
        clear hg6 hlen hmm ho6 HF HG HE
        first | clear HB BB | clear B2 H2 K2 | clear B3 H3 K3
        go_wp2_with (at_builtin; refine wpList_append_row _ rfl (.tmp 39) (.tmp 43) 32 32 rfl w6.heap.size 5 i5 (.int .u8 0) 1 1 Try.underlying32 HI5.out HY0.out HY1.out HY2.out rfl (by decide) _ 0 _ rfl (own_emp (Blk.new w6 5 #[]) (Nat.le_refl _)) _ x.b.length (x.b.map byt) rfl (HSRC.out _ (bal BF.out _)) (by unfold maxLen; omega) (by omega) (by simp) ?_)
        intro vh wh ho hg
        obtain ⟨Ah, ch, rfl, -, -⟩ := reads_of_owns ho
        have HOH := Lib.hid ho
        have BH := Lib.hid (((Below.refl _ w6).alloc (Nat.le_refl _) (.cells #[] 5)).trans (hg.below (by simp) (fun q hq => by simp [Value.ownBlock] at hq; omega)))
        have hsh := (BH.out).size
        have OCV := Lib.hid (owns_below (R2.out).cop (BH.out) (own_lt (R2.out).cop))
        clear ho hg k6
        go_wp2_with (at_builtin; refine wpList_append_row _ rfl (.tmp 38) (.tmp 45) 35 35 rfl w.heap.size 32 i0 (.slice none 0 0) 1 24 Try.underlying35 HI0.out HZ0.out HZ1.out HZ2.out rfl (by decide) _ rs'.length _ rfl ((OCV.out).alloc _) _ 1 _ rfl (src_new wh Try.underlying35 [_] 1 1 1 32 rfl (fun u hu => by simp at hu; subst hu; rfl)) (by rw [HRL.out]; unfold maxLen; omega) (by rw [HRL.out]; omega) (by simp; omega) ?_)
        intro vi wi hoi hgi
        have CN := Lib.hid ((R2.out).push (HBJ.out) (BH.out) (HOH.out) hgi hoi)
        clear hoi hgi R2 HOH OCV BH
        go_wp2_with fail
        go_roundw
        case rel => exact ⟨j + 1, _, by go_num, by omega, CN.out⟩
        case measure => simp [intOf]; omega
    · have dlt : decide ((j : Int) < (n : Int)) = false := by simp; omega
      obtain rfl : j = n := by omega
      have htk : bs.take j = bs := List.take_of_length_le (by rw [HBS.out, List.length_map, HNN.out]; exact Nat.le_refl _)
      have hall := (CC.out).all
      rw [htk] at hall
      have hby : ∀ b ∈ bs, ∀ x ∈ b, x < 256 := fun b hb => by
        rw [HBS.out] at hb
        obtain ⟨y, hy, rfl⟩ := List.mem_map.1 hb
        exact ((HRA.out).each y hy).2
      have HBY := Lib.hid hby
      obtain ⟨Aa, ca, hva, -, -⟩ := reads_of_owns hall
      subst hva
      have HALL := Lib.hid hall
      have HTK := Lib.hid htk
      clear hby hal htk hall
      go_wp2_with (at_builtin; refine wpList_append_row _ rfl (.tmp 49) (.tmp 50) 32 32 rfl w.heap.size 5 i5 (.int .u8 0) 1 1 Try.underlying32 HI5.out HY0.out HY1.out HY2.out rfl (by decide) _ (areaS bs).length _ rfl ((HALL.out).alloc _) (.slice (some ⟨wr.heap.size, 0, none⟩) 1 1) 1 [.int .u8 0] rfl (src_new wr Try.underlying32 [.int .u8 0] 1 1 1 5 rfl (fun u hu => by simp at hu; subst hu; rfl)) (by unfold maxLen; omega) (by omega) (by simp; omega) ?_)
      intro v3 w3 ho3 hg3
      obtain ⟨body, hbody⟩ : ∃ body, body = areaS bs ++ [0] := ⟨_, rfl⟩
      have hbl2 : body.length = (areaS bs).length + 1 := by rw [hbody]; simp
      have hbm : body.map byt = (areaS bs).map byt ++ [.int .u8 0] := by rw [hbody]; simp [byt]
      rw [← hbl2, ← hbm] at ho3
      have hbby : ∀ x ∈ body, x < 256 := fun x hx => by
        rw [hbody] at hx
        rcases List.mem_append.1 hx with h | h
        · exact area_byte (HBY.out) x h
        · simp at h; omega
      obtain ⟨Ac, cc, rfl, hrc, hbc⟩ := reads_of_owns ho3
      have hbB : Below w.heap.size w w3 := (bal (CC.out).bel _).trans (hg3.below (by simp; omega) (own_from (HALL.out)))
      have A3 := Lib.hid ((HA0.out).below hbB)
      have D3 : Hid (RD w w3 (fun i => F i ∨ K i) bs u6 rs') := RD.of_grow (CC.out) (HTK.out) (fun b hb => by
        rcases hb with hb | hb
        · exact (HA0.out).both.disk.lt b hb
        · exact (HKL.out) b hb) ((Grows.of_below _ ((Below.refl _ wr).alloc (Nat.le_refl _) _)).trans hg3)
      have hok := (A3.out).both.disk.ok
      have hlo := hok.lo
      have hhi := hok.hi
      have HS := Lib.hid (rsize_m r s F w3 (A3.out).both.disk)
      have hhf := rhalf_any s.dur.length w3 (by omega) (by omega)
      rw [← (A3.out).both.hh] at hhf
      replace hhf := Lib.hid hhf
      obtain ⟨sb, hsb⟩ : ∃ sb, l.second = sb := ⟨_, rfl⟩
      have HSB := Lib.hid hsb
      have HBE := Lib.hid hbody
      have HBL := Lib.hid hbl2
      have HBB := Lib.hid hbby
      have HRC := Lib.hid hrc
      have HBC := Lib.hid hbc
      clear hsb hbody hbl2 hbm hbby ho3 hg3 hrc hbc hbB hok HALL CC
      obtain ⟨v1_, rs1_, hx1_⟩ := (A3.out).both.log
      have z10 := hx1_.blk.cell 0
      have z12 := hx1_.blk.cell 2
      simp at z10 z12
      rw [HSB.out] at z12
      clear hx1_
      have hres := HRES.out
      rw [← HBL.out] at hres
      clear HRES
      by_cases hfull : l.half < body.length
      · rw [if_pos hfull] at hres
        replace hres := Lib.hid hres
        have df : decide ((l.half : Int) < (body.length : Int)) = true := by simp; omega
        go_wp2_with fail
        refine (HS.out).mono ?_
        rintro e w4 ⟨rfl, rfl⟩
        go_wp2_with fail
        refine (hhf.out).mono ?_
        rintro e w4 ⟨rfl, rfl⟩
        go_wp2_with fail
        go_ret
        rw [hres.out]
        exact (A3.out).fin 17
      rw [if_neg hfull] at hres
      have df : decide ((l.half : Int) < (body.length : Int)) = false := by simp; omega
      have hrepl : replS s l bs = if (storeS s (startS l.half (!sb) : Nat) body).1 = 0 then storeS (storeS s (startS l.half (!sb) : Nat) body).2 0 [if sb then 0 else 1] else storeS s (startS l.half (!sb) : Nat) body := by
        rw [← HSB.out, HBE.out]; rfl
      have HRES := Lib.hid hres
      have HREPL := Lib.hid hrepl
      clear hres hrepl
      go_wp2_with fail
      refine (HS.out).mono ?_
      rintro e w4 ⟨rfl, rfl⟩
      go_wp2_with fail
      refine (hhf.out).mono ?_
      rintro e w4 ⟨rfl, rfl⟩
      go_wp2_with fail
      refine (HS.out).mono ?_
      rintro e w4 ⟨rfl, rfl⟩
      go_wp2_with fail
      refine (hhf.out).mono ?_
      rintro e w4 ⟨rfl, rfl⟩
      clear HS hhf
      cases sb
      · have hrepl := HREPL.out
        have hat : ((startS l.half (!false) : Nat) : Int) = (1 : Int) + (l.half : Int) := by show (((1 + l.half : Nat)) : Int) = _; omega
        rw [hat] at hrepl
        simp only [Bool.false_eq_true, if_false] at hrepl
        have hS := rstore_any ((1 : Int) + (l.half : Int)) Ac cc body (A3.out).both (HBB.out) (by omega) (HRC.out) (fun _ ad ha hF => by have h1 := ((HBC.out) ad ha).1; have h2 := (HA0.out).both.disk.lt _ hF; omega)
        generalize storeS s ((1 : Int) + (l.half : Int)) body = r1 at hS hrepl
        obtain ⟨x1, s1⟩ := r1
        simp only at hS hrepl
        have HS1 := Lib.hid hS
        have HR1 := Lib.hid hrepl
        clear hS hrepl HREPL hat
        go_wp2_with fail
        refine (HS1.out).mono ?_
        intro e wz ho
        obtain ⟨rfl, Fz, hamz, hdz⟩ := (A3.out).opD ho (D3.out)
        have hham := hamz
        have DZ := Lib.hid hdz
        clear ho HS1 A3 D3 hamz hdz z10 z12
        by_cases h1 : x1 = 0
        · subst h1
          simp only [LS.alive_same (HD.out)] at hham
          have AZ := Lib.hid hham
          have hrep := HR1.out
          rw [if_pos rfl] at hrep
          clear HR1 hham
          have hS := rstore_any (0 : Int) (some ⟨wz.heap.size, 0, none⟩) 1 [1] ((AZ.out).below ((Below.refl _ wz).alloc (Nat.le_refl _) (.cells #[.int .u8 1] 5))).both (by simp) (by simp) (bytes_new wz [1]) (fun _ ad ha hF => by injection ha with ha; rw [← ha] at hF; exact absurd ((AZ.out).both.disk.lt _ hF) (Nat.lt_irrefl _))
          generalize storeS s1 0 [1] = r2 at hS hrep
          obtain ⟨x2, s2⟩ := r2
          simp only [List.length_cons, List.length_nil, Nat.zero_add] at hS
          have HS2 := Lib.hid hS
          have HR2 := Lib.hid hrep
          have AY := Lib.hid ((AZ.out).below ((Below.refl _ wz).alloc (Nat.le_refl _) (.cells #[.int .u8 1] 5)))
          have DY := Lib.hid ((DZ.out).below ((Below.refl _ wz).alloc (Nat.le_refl _) (.cells #[.int .u8 1] 5)))
          clear hS hrep AZ DZ
          go_wp2_with fail
          refine (HS2.out).mono ?_
          intro e wf ho
          obtain ⟨rfl, Ff, hamf, hdf⟩ := (AY.out).opD ho (DY.out)
          have hham := hamf
          have DF := Lib.hid hdf
          have hap := HRES.out
          rw [HR2.out] at hap
          clear ho HS2 AY DY hamf hdf HRES HR2
          by_cases h2 : x2 = 0
          · subst h2
            simp only [LS.alive_same (HD.out)] at hham
            rw [if_pos rfl] at hap
            have HFIN := Lib.hid hap
            obtain ⟨vf, rsf, hxf⟩ := hham.both.log
            obtain ⟨Af, cf, hvf⟩ := hxf.slice
            subst hvf
            have k1 := hxf.blk.cell 1
            have k2 := hxf.blk.cell 2
            have k3 := hxf.blk.cell 3
            have l1 := hxf.blk.frozen 1
            have l2 := hxf.blk.frozen 2
            have l3 := hxf.blk.frozen 3
            simp at k1 k2 k3
            rw [HSB.out] at k2
            have hdn := hham.doneR hxf (DF.out) (by have := HBL.out; omega) (HBY.out)
            rw [HSB.out] at hdn hap
            have hcop := (DF.out).cop
            obtain ⟨Ak, ck, hvk, -, -⟩ := reads_of_owns hcop
            subst hvk
            have FF := Lib.hid hdn
            have HFIN := Lib.hid hap
            clear hdn hap hxf hham hcop DF
            go_wp2_with fail
            go_ret
            rw [HFIN.out]
            exact FF.out
          · rw [if_neg h2] at hap
            have HFIN := Lib.hid hap
            have dx := bne_true h2
            rw [LS.dead_same h2] at hham
            have HHAM := Lib.hid hham
            clear hap hham
            go_wp2_with fail
            go_ret
            rw [HFIN.out]
            exact (HHAM.out).fin x2
        · have hrep := HR1.out
          rw [if_neg h1] at hrep
          have hap := HRES.out
          rw [hrep] at hap
          rw [if_neg h1] at hap
          have HFIN := Lib.hid hap
          have dx := bne_true h1
          rw [LS.dead_same h1] at hham
          have HHAM := Lib.hid hham
          clear hap hham hrep HR1 HRES
          go_wp2_with fail
          go_ret
          rw [HFIN.out]
          exact (HHAM.out).fin x1
      · have hrepl := HREPL.out
        have hat : ((startS l.half (!true) : Nat) : Int) = (1 : Int) := rfl
        rw [hat] at hrepl
        simp only [if_true] at hrepl
        have hS := rstore_any (1 : Int) Ac cc body (A3.out).both (HBB.out) (by omega) (HRC.out) (fun _ ad ha hF => by have h1 := ((HBC.out) ad ha).1; have h2 := (HA0.out).both.disk.lt _ hF; omega)
        generalize storeS s (1 : Int) body = r1 at hS hrepl
        obtain ⟨x1, s1⟩ := r1
        simp only at hS hrepl
        have HS1 := Lib.hid hS
        have HR1 := Lib.hid hrepl
        clear hS hrepl HREPL hat
        go_wp2_with fail
        refine (HS1.out).mono ?_
        intro e wz ho
        obtain ⟨rfl, Fz, hamz, hdz⟩ := (A3.out).opD ho (D3.out)
        have hham := hamz
        have DZ := Lib.hid hdz
        clear ho HS1 A3 D3 hamz hdz z10 z12
        by_cases h1 : x1 = 0
        · subst h1
          simp only [LS.alive_same (HD.out)] at hham
          have AZ := Lib.hid hham
          have hrep := HR1.out
          rw [if_pos rfl] at hrep
          clear HR1 hham
          have hS := rstore_any (0 : Int) (some ⟨wz.heap.size, 0, none⟩) 1 [0] ((AZ.out).below ((Below.refl _ wz).alloc (Nat.le_refl _) (.cells #[.int .u8 0] 5))).both (by simp) (by simp) (bytes_new wz [0]) (fun _ ad ha hF => by injection ha with ha; rw [← ha] at hF; exact absurd ((AZ.out).both.disk.lt _ hF) (Nat.lt_irrefl _))
          generalize storeS s1 0 [0] = r2 at hS hrep
          obtain ⟨x2, s2⟩ := r2
          simp only [List.length_cons, List.length_nil, Nat.zero_add] at hS
          have HS2 := Lib.hid hS
          have HR2 := Lib.hid hrep
          have AY := Lib.hid ((AZ.out).below ((Below.refl _ wz).alloc (Nat.le_refl _) (.cells #[.int .u8 0] 5)))
          have DY := Lib.hid ((DZ.out).below ((Below.refl _ wz).alloc (Nat.le_refl _) (.cells #[.int .u8 0] 5)))
          clear hS hrep AZ DZ
          go_wp2_with fail
          refine (HS2.out).mono ?_
          intro e wf ho
          obtain ⟨rfl, Ff, hamf, hdf⟩ := (AY.out).opD ho (DY.out)
          have hham := hamf
          have DF := Lib.hid hdf
          have hap := HRES.out
          rw [HR2.out] at hap
          clear ho HS2 AY DY hamf hdf HRES HR2
          by_cases h2 : x2 = 0
          · subst h2
            simp only [LS.alive_same (HD.out)] at hham
            rw [if_pos rfl] at hap
            have HFIN := Lib.hid hap
            obtain ⟨vf, rsf, hxf⟩ := hham.both.log
            obtain ⟨Af, cf, hvf⟩ := hxf.slice
            subst hvf
            have k1 := hxf.blk.cell 1
            have k2 := hxf.blk.cell 2
            have k3 := hxf.blk.cell 3
            have l1 := hxf.blk.frozen 1
            have l2 := hxf.blk.frozen 2
            have l3 := hxf.blk.frozen 3
            simp at k1 k2 k3
            rw [HSB.out] at k2
            have hdn := hham.doneR hxf (DF.out) (by have := HBL.out; omega) (HBY.out)
            rw [HSB.out] at hdn hap
            have hcop := (DF.out).cop
            obtain ⟨Ak, ck, hvk, -, -⟩ := reads_of_owns hcop
            subst hvk
            have FF := Lib.hid hdn
            have HFIN := Lib.hid hap
            clear hdn hap hxf hham hcop DF
            go_wp2_with fail
            go_ret
            rw [HFIN.out]
            exact FF.out
          · rw [if_neg h2] at hap
            have HFIN := Lib.hid hap
            have dx := bne_true h2
            rw [LS.dead_same h2] at hham
            have HHAM := Lib.hid hham
            clear hap hham
            go_wp2_with fail
            go_ret
            rw [HFIN.out]
            exact (HHAM.out).fin x2
        · have hrep := HR1.out
          rw [if_neg h1] at hrep
          have hap := HRES.out
          rw [hrep] at hap
          rw [if_neg h1] at hap
          have HFIN := Lib.hid hap
          have dx := bne_true h1
          rw [LS.dead_same h1] at hham
          have HHAM := Lib.hid hham
          clear hap hham hrep HR1 HRES
          go_wp2_with fail
          go_ret
          rw [HFIN.out]
          exact (HHAM.out).fin x1
end Go.Proofs.Ytnjafhlpnoikcaa
