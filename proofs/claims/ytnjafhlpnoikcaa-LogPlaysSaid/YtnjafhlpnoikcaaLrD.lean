/-
  The reference's Append. No condition.
-/
import Derived.Test.YtnjafhlpnoikcaaLrC
namespace Go.Proofs.Ytnjafhlpnoikcaa
open Go.RowKit
set_option linter.unusedVariables false

theorem RA.dead {w0 wr : World} {g r : Nat} {s : DS} {l : LS} {F K F0 : Nat → Prop} {A : Option Addr} {b : List Nat} (h : RA w0 wr g r s l F K F0 A b) : RA w0 (wr.setCell ⟨g, 4, none⟩ (.bool true)) g r s { l with dead := true } F K F0 A b := by
  obtain ⟨v, rs, hx⟩ := h.both.log
  have hc : Chg wr (wr.setCell ⟨g, 4, none⟩ (.bool true)) K := (Chg.refl wr K).setCell (p := ⟨g, 4, none⟩) (.inl hx.kg) _
  refine ⟨⟨h.both.disk.chg hc h.both.apart, ⟨v, rs, hx.setDead true⟩, h.both.apart, h.both.hh⟩, ?_, h.sub, h.klt, ?_, h.ra⟩
  · exact h.chg.setCell (p := ⟨g, 4, none⟩) (.inl (.inr hx.kg)) _
  · exact (h.rb.chg0 hc (Nat.le_refl _) (fun hn ad ha => (h.noF hn ad ha).2)).more hc.size
theorem own_made {X : World} {g base : Nat} {e : TypeId} {xs : List Value} (h : Blk X g e xs.toArray) (hb : base ≤ g) (hl : xs.length ≤ maxLen) : X.ownsRow base e 1 (.slice (some ⟨g, 0, none⟩) xs.length xs.length) xs.length xs :=
  ⟨by simp, .inr ⟨g, xs.length, xs.toArray, rfl, hb, h, Nat.le_refl _, hl, by simp, by simp⟩⟩

set_option maxRecDepth 100000 in
set_option maxHeartbeats 4000000 in
theorem rapp_any {w : World} {g r : Nat} {s : DS} {l : LS} {F K : Nat → Prop} {A : Option Addr} {c : Nat} {b : List Nat} (h : RBoth w g r s l F K) (hbl : b.length ≤ 1000000000) (hr : Reads w w.heap.size 1 A b.length (b.map byt)) (hA : 0 < b.length → ∀ ad, A = some ad → ¬ F ad.block ∧ ¬ K ad.block) (hb : ∀ x ∈ b, x < 256) :
    Calls Try.prog 22 #[.pointer (some ⟨g, 0, none⟩), .slice A b.length c] w (RAppPost w g r F K (appS s l b)) := by
  obtain ⟨v0, rs0, hx0⟩ := h.log
  have c0 := hx0.blk.cell 0
  have c3 := hx0.blk.cell 3
  have c4 := hx0.blk.cell 4
  have hhalf := hx0.half
  have hfin := hx0.fin
  simp at c0 c3 c4
  have hok := h.disk.ok
  have hlo := hok.lo
  have hhi := hok.hi
  have hsl : (seenL s.dur s.wait).length = s.dur.length := seen_len _ _ hok.fit rfl
  have HS := Lib.hid (rsize_m r s F w h.disk)
  have hhf := Lib.hid (rhalf_any s.dur.length w (by omega) (by omega))
  rw [← h.hh] at hhf
  have hh2 : 2 * l.half + 1 ≤ s.dur.length := by have := h.hh; omega
  have happ : appS s l b = if l.dead then (15, s, l) else if l.half < l.fin + 6 + b.length then (17, s, l) else if (addS s l b).1 = 0 then (0, (addS s l b).2, { l with recs := l.recs ++ [b], fin := l.fin + 5 + b.length }) else ((addS s l b).1, (addS s l b).2, { l with dead := true }) := rfl
  have A0 := RA.start h hr hA
  have SAME : Hid (∀ x, RAppPost w g r F K (x, s, l) (.returned (.int .i64 x)) w) := fun x => A0.fin x
  have HA0 := Lib.hid A0
  have HBB := Lib.hid hb
  have HSL := Lib.hid hsl
  have hgl := hx0.lt g hx0.kg
  have HBASE : Hid (∀ n, Calls Try.prog 45 #[.pointer (some ⟨g, 0, none⟩)] (w.drewN n) fun e w' => e = .returned (.int .i64 (startS l.half l.second : Nat)) ∧ w.drewN n = w') := fun n => rbase_any (h.below (below_drewN (Below.refl _ w) n))
  have hst : startS l.half l.second ≤ l.half + 1 := by unfold startS; split <;> omega
  have hat : l.at_ = startS l.half l.second + l.fin := rfl
  have hadd : addS s l b = if (readS s l.at_ 1).2 = 0 then (if (if (readS s l.at_ 1).1.getD 0 0 = 0 then (0, s) else storeS s l.at_ [0]).1 = 0 then (if (storeS (if (readS s l.at_ 1).1.getD 0 0 = 0 then (0, s) else storeS s l.at_ [0]).2 (l.at_ + 1 : Nat) (be4 b.length ++ b ++ [0])).1 = 0 then storeS (storeS (if (readS s l.at_ 1).1.getD 0 0 = 0 then (0, s) else storeS s l.at_ [0]).2 (l.at_ + 1 : Nat) (be4 b.length ++ b ++ [0])).2 l.at_ [1] else (storeS (if (readS s l.at_ 1).1.getD 0 0 = 0 then (0, s) else storeS s l.at_ [0]).2 (l.at_ + 1 : Nat) (be4 b.length ++ b ++ [0]))) else (if (readS s l.at_ 1).1.getD 0 0 = 0 then (0, s) else storeS s l.at_ [0])) else ((readS s l.at_ 1).2, s) := rfl
  rw [hat] at hadd
  generalize startS l.half l.second = st at hst hadd HBASE
  have hcast : ((st + l.fin : Nat) : Int) = (st : Int) + (l.fin : Int) := by omega
  have hcast1 : ((st + l.fin + 1 : Nat) : Int) = (st : Int) + (l.fin : Int) + 1 := by omega
  rw [hcast, hcast1] at hadd
  have HADD := Lib.hid hadd
  obtain ⟨i5, hi5, hy0, hy1, hy2⟩ := info_parts byte_info
  obtain ⟨i0, hi0, hz0, hz1, hz2⟩ := info_parts slices_info
  have HI5 := Lib.hid hi5
  have HY0 := Lib.hid hy0
  have HY1 := Lib.hid hy1
  have HY2 := Lib.hid hy2
  have HI0 := Lib.hid hi0
  have HZ0 := Lib.hid hz0
  have HZ1 := Lib.hid hz1
  have HZ2 := Lib.hid hz2
  clear h hr hA hb hx0 hsl hok hadd hat hcast hcast1 A0 hi5 hy0 hy1 hy2 hi0 hz0 hz1 hz2
  by_cases hdead : l.dead = true
  · rw [if_pos hdead] at happ
    replace happ := Lib.hid happ
    rw [hdead] at c4
    go_enter Try.func22, Try.ntmps22
    go_wp2_with fail
    refine (HS.out).mono ?_
    rintro e w1 ⟨rfl, rfl⟩
    go_wp2_with fail
    refine (hhf.out).mono ?_
    rintro e w1 ⟨rfl, rfl⟩
    go_wp2_with fail
    go_ret
    rw [happ.out]
    exact SAME.out 15
  have hd' : l.dead = false := by cases hd : l.dead with | false => rfl | true => exact absurd hd hdead
  rw [if_neg hdead] at happ
  rw [hd'] at c4
  by_cases hfull : l.half < l.fin + 6 + b.length
  · rw [if_pos hfull] at happ
    replace happ := Lib.hid happ
    have df : decide ((l.half : Int) < (l.fin : Int) + 6 + (b.length : Int)) = true := by simp; omega
    clear hd' hdead
    go_enter Try.func22, Try.ntmps22
    go_wp2_with fail
    refine (HS.out).mono ?_
    rintro e w1 ⟨rfl, rfl⟩
    go_wp2_with fail
    refine (hhf.out).mono ?_
    rintro e w1 ⟨rfl, rfl⟩
    go_wp2_with fail
    go_ret
    rw [happ.out]
    exact SAME.out 17
  rw [if_neg hfull] at happ
  have df : decide ((l.half : Int) < (l.fin : Int) + 6 + (b.length : Int)) = false := by simp; omega
  have HAPP := Lib.hid happ
  have HD := Lib.hid hd'
  clear happ hd' hdead
  go_enter Try.func22, Try.ntmps22
  go_wp2_with fail
  refine (HS.out).mono ?_
  rintro e w1 ⟨rfl, rfl⟩
  go_wp2_with fail
  refine (hhf.out).mono ?_
  rintro e w1 ⟨rfl, rfl⟩
  clear HS hhf
  go_wp2_with fail
  go_quiet (exact quiet_left (HBASE.out _))
  have A1 := Lib.hid ((HA0.out).below (below_drewN (Below.refl _ w) nq))
  clear HBASE c0 c3 c4
  generalize w.drewN nq = W1 at *
  obtain ⟨v1_, rs1_, hx1_⟩ := (A1.out).both.log
  have z10 := hx1_.blk.cell 0
  have z13 := hx1_.blk.cell 3
  have z14 := hx1_.blk.cell 4
  have y14 := hx1_.blk.frozen 4
  simp at z10 z13 z14
  clear hx1_
  by_cases hoff : s.off = true
  · have hrs : readS s ((st : Int) + (l.fin : Int)) 1 = ([], 15) := by unfold readS; rw [if_pos hoff]
    have hrd := rread_m r s F ((st : Int) + (l.fin : Int)) 1 W1 (A1.out).both.disk (by omega)
    rw [hrs] at hrd
    replace hrd := Lib.hid hrd
    have hres := HADD.out
    rw [hrs, if_neg (by decide)] at hres
    have hap := HAPP.out
    rw [hres] at hap
    rw [if_neg (by show ¬ ((15 : Int) = 0); decide)] at hap
    have HRES := Lib.hid hap
    clear hrs HADD HAPP hres hap
    go_wp2_with fail
    refine (hrd.out).mono ?_
    rintro e w2 ⟨A2, c2', rfl, -, -, -, hb2⟩
    have A2m := Lib.hid ((A1.out).below hb2)
    clear hb2 hrd
    clear z10 z13 z14 y14
    obtain ⟨v2_, rs2_, hx2_⟩ := (A2m.out).both.log
    have z20 := hx2_.blk.cell 0
    have z23 := hx2_.blk.cell 3
    have z24 := hx2_.blk.cell 4
    have y24 := hx2_.blk.frozen 4
    simp at z20 z23 z24
    clear hx2_
    go_wp2_with fail
    go_ret
    rw [HRES.out]
    exact (A2m.out).dead.fin 15
  obtain ⟨x0, hx0⟩ : ∃ x0, (seenL s.dur s.wait)[st + l.fin]? = some x0 := ⟨(seenL s.dur s.wait)[st + l.fin]'(by rw [HSL.out]; omega), List.getElem?_eq_getElem _⟩
  have hrs : readS s ((st : Int) + (l.fin : Int)) 1 = ([x0], 0) := by
    unfold readS
    rw [if_neg hoff]
    have hin : insideB s.dur.length ((st : Int) + (l.fin : Int)) 1 = true := by unfold insideB; simp; omega
    rw [hin]
    simp only [Bool.not_true, Bool.false_eq_true, if_false]
    have e1 : (((st : Int) + (l.fin : Int))).toNat = st + l.fin := by omega
    have e2 : ((1 : Int)).toNat = 1 := rfl
    rw [e1, e2]
    have hd : (seenL s.dur s.wait).drop (st + l.fin) = x0 :: (seenL s.dur s.wait).drop (st + l.fin + 1) := by
      rw [List.drop_eq_getElem_cons (by rw [HSL.out]; omega)]
      congr 1
      rw [List.getElem?_eq_getElem (by rw [HSL.out]; omega)] at hx0
      injection hx0
    rw [hd]
    rfl
  have hrd := rread_m r s F ((st : Int) + (l.fin : Int)) 1 W1 (A1.out).both.disk (by omega)
  rw [hrs] at hrd
  replace hrd := Lib.hid hrd
  have hres := HADD.out
  rw [hrs] at hres
  simp only [List.getD_cons_zero, if_true] at hres
  have HRES := Lib.hid hres
  clear hrs HADD hx0 hres HSL
  go_wp2_with fail
  refine (hrd.out).mono ?_
  rintro e w2 ⟨A2, c2', rfl, hr2, -, hA2, hb2⟩
  have A2m := Lib.hid ((A1.out).below hb2)
  obtain ⟨ab2, ao2, u2, rfl, -, hu2, hcell2⟩ := hr2.at1 (show 0 < [x0].length by simp)
  obtain rfl : u2 = .int .u8 (x0 : Int) := by simpa [byt] using hu2.symm
  rw [Nat.add_zero] at hcell2
  clear z10 z13 z14 y14
  clear hA2 hb2 hrd hr2 hu2 A1 HA0 SAME
  by_cases h0 : x0 = 0
  · have dx : ((x0 : Int) != 0) = false := by simp; omega
    have hres1 := HRES.out
    rw [if_pos h0] at hres1
    simp only [if_true] at hres1
    replace HRES := Lib.hid hres1
    clear hres1 h0
    have HLn := Lib.hid (rlength_any b.length w2 (by omega))
    go_wp2_with fail
    refine (HLn.out).mono ?_
    rintro e wa ⟨rfl, hwa⟩
    have OWa : Hid (wa.ownsRow w2.heap.size 5 1 (.slice (some ⟨w2.heap.size, 0, none⟩) 4 4) 4 ((be4 b.length).map byt)) := by
      rw [hwa]
      exact own_made (xs := (be4 b.length).map byt) (Blk.new w2 5 _) (Nat.le_refl _) (by show 4 ≤ maxLen; unfold maxLen; omega)
    have BLa : Hid (Below w2.heap.size w2 wa) := by rw [hwa]; exact (Below.refl _ w2).alloc (Nat.le_refl _) _
    have SRa := Lib.hid (src_reads (P := Try.prog) wa (tx := 32) Try.underlying32 c ((A2m.out).below (BLa.out)).rb (byt_one b))
    clear hwa HLn
    go_wp2_with (at_builtin; refine wpList_append_row _ rfl (.tmp 70) (.tmp 71) 32 32 rfl w2.heap.size 5 i5 (.int .u8 0) 1 1 Try.underlying32 HI5.out HY0.out HY1.out HY2.out rfl (by decide) _ 4 _ rfl (OWa.out) _ b.length (b.map byt) rfl (SRa.out) (by unfold maxLen; omega) (by omega) (BLa.out).size ?_)
    intro vb wb hownb hgb
    have BLb := Lib.hid ((BLa.out).trans (hgb.below (BLa.out).size (own_from OWa.out)))
    have OWb := Lib.hid hownb
    have hszb := (BLb.out).size
    clear hownb hgb SRa OWa BLa
    go_wp2_with (at_builtin; refine wpList_append_row _ rfl (.tmp 72) (.tmp 73) 32 32 rfl w2.heap.size 5 i5 (.int .u8 0) 1 1 Try.underlying32 HI5.out HY0.out HY1.out HY2.out rfl (by decide) vb (4 + b.length) _ rfl ((OWb.out).alloc _) (.slice (some ⟨wb.heap.size, 0, none⟩) 1 1) 1 [.int .u8 0] rfl (src_new wb Try.underlying32 [.int .u8 0] 1 1 1 5 rfl (fun u hu => by simp at hu; subst hu; rfl)) (by unfold maxLen; omega) (by omega) (by simp; omega) ?_)
    intro vc wc hownc hgc
    obtain ⟨body, hbody⟩ : ∃ body, body = be4 b.length ++ b ++ [0] := ⟨_, rfl⟩
    have hbl2 : body.length = 4 + b.length + 1 := by rw [hbody]; simp [be4]; omega
    have hbm : body.map byt = (be4 b.length).map byt ++ (b.map byt ++ [.int .u8 0]) := by rw [hbody]; simp [byt]
    rw [← hbl2, ← hbm] at hownc
    have hbby : ∀ x ∈ body, x < 256 := fun x hx => by
      rw [hbody] at hx
      simp only [List.mem_append, List.mem_singleton] at hx
      rcases hx with (h | h) | h
      · exact be4_byte _ x h
      · exact (HBB.out) x h
      · omega
    obtain ⟨Ac, cc, rfl, hrc, hbc⟩ := reads_of_owns hownc
    have hbB : Below w2.heap.size w2 wc := ((BLb.out).alloc hszb _).trans (hgc.below (by simp; omega) (own_from OWb.out))
    have AMc := Lib.hid ((A2m.out).below hbB)
    have hres2 := HRES.out
    rw [← hbody] at hres2
    have hS := rstore_any ((st : Int) + (l.fin : Int) + 1) Ac cc body (AMc.out).both hbby (by omega) hrc (fun _ ad ha hF => by have h1 := (hbc ad ha).1; have h2 := (A2m.out).both.disk.lt _ hF; omega)
    generalize storeS s ((st : Int) + (l.fin : Int) + 1) body = r2 at hS hres2
    obtain ⟨x2, s2⟩ := r2
    simp only at hS hres2
    have HS2 := Lib.hid hS
    have HR2 := Lib.hid hres2
    clear hS hres2 hrc hbc hownc hgc hbB hbm hbl2 hbby hbody OWb BLb HRES
    go_wp2_with fail
    refine (HS2.out).mono ?_
    intro e wd ho
    obtain ⟨rfl, F2, ham2⟩ := (AMc.out).op ho
    have hham := ham2
    clear ho HS2 AMc
    by_cases h2 : x2 = 0
    · subst h2
      simp only [LS.alive_same (HD.out)] at hham
      have AMd := Lib.hid hham
      have hres3 := HR2.out
      rw [if_pos rfl] at hres3
      clear HR2 hham ham2
      have hS := rstore_any ((st : Int) + (l.fin : Int)) (some ⟨wd.heap.size, 0, none⟩) 1 [1] ((AMd.out).below ((Below.refl _ wd).alloc (Nat.le_refl _) (.cells #[.int .u8 1] 5))).both (by simp) (by simp) (bytes_new wd [1]) (fun _ ad ha hF => by injection ha with ha; rw [← ha] at hF; exact absurd ((AMd.out).both.disk.lt _ hF) (Nat.lt_irrefl _))
      generalize storeS s2 ((st : Int) + (l.fin : Int)) [1] = r3 at hS hres3
      obtain ⟨x3, s3⟩ := r3
      simp only [List.length_cons, List.length_nil, Nat.zero_add] at hS
      have HS3 := Lib.hid hS
      have HR3 := Lib.hid hres3
      have AMe := Lib.hid ((AMd.out).below ((Below.refl _ wd).alloc (Nat.le_refl _) (.cells #[.int .u8 1] 5)))
      clear hS hres3 AMd
      go_wp2_with fail
      refine (HS3.out).mono ?_
      intro e wf ho
      obtain ⟨rfl, F3, ham3⟩ := (AMe.out).op ho
      have hham := ham3
      have hap := HAPP.out
      rw [HR3.out] at hap
      clear ho HS3 AMe ham3 HAPP HR3
      by_cases h3 : x3 = 0
      · subst h3
        simp only [LS.alive_same (HD.out)] at hham
        rw [if_pos rfl] at hap
        have AMf := Lib.hid hham
        have HFIN := Lib.hid hap
        obtain ⟨vf, rsf, hxf⟩ := hham.both.log
        obtain ⟨Af, cf, hvf⟩ := hxf.slice
        subst hvf
        have HXF := Lib.hid hxf
        have k1 := hxf.blk.cell 1
        have hglf : g < wf.heap.size := hxf.blk.lt
        simp at k1
        have hrf : rsf.length ≤ 65536 := by have h1 := hxf.few; have h4 := hxf.len; omega
        have SRf : Hid (Src Try.prog 1 35 (.slice Af rsf.length cf) rsf.length (rsf.flatMap rcell) (wf.alloc (.cells #[] 32))) := src_reads (P := Try.prog) _ (tx := 35) Try.underlying35 cf ((Reads.of_own hxf.own).alloc (Nat.le_refl _) _) (rcell_one rsf)
        clear hham hap hxf
        go_wp2_with (at_builtin; refine wpList_append_row _ rfl (.tmp 87) (.tmp 91) 35 35 rfl wf.heap.size 32 i0 (.slice none 0 0) 1 24 Try.underlying35 HI0.out HZ0.out HZ1.out HZ2.out rfl (by decide) _ 0 _ rfl (own_emp (Blk.new wf 32 #[]) (Nat.le_refl _)) _ rsf.length _ rfl (SRf.out) (by unfold maxLen; omega) (by omega) (by simp) ?_)
        intro vg wg howng hgg
        have OWg := Lib.hid howng
        have BLg := Lib.hid (((Below.refl _ wf).alloc (Nat.le_refl _) _).trans (hgg.below (by simp) (fun x hx => by simp [Value.ownBlock] at hx; omega)))
        have hszg := (BLg.out).size
        have SRg := Lib.hid (src_reads (P := Try.prog) (wg.alloc (.cells #[] 5)) (tx := 32) Try.underlying32 c (((AMf.out).below (BLg.out)).rb.alloc (Nat.le_refl _) (.cells #[] 5)) (byt_one b))
        clear howng hgg SRf
        go_wp2_with (at_builtin; refine wpList_append_row _ rfl (.tmp 93) (.tmp 94) 32 32 rfl wg.heap.size 5 i5 (.int .u8 0) 1 1 Try.underlying32 HI5.out HY0.out HY1.out HY2.out rfl (by decide) _ 0 _ rfl (own_emp (Blk.new wg 5 #[]) (Nat.le_refl _)) _ b.length (b.map byt) rfl (SRg.out) (by unfold maxLen; omega) (by omega) (by simp) ?_)
        intro vh wh hownh hgh
        obtain ⟨Ah, ch, rfl, hrh, hAh⟩ := reads_of_owns hownh
        have OWh := Lib.hid hownh
        have BGh := Lib.hid (((Below.refl _ wg).alloc (Nat.le_refl _) (.cells #[] 5)).trans (hgh.below (by simp) (fun x hx => by simp [Value.ownBlock] at hx; omega)))
        have hszh := (BGh.out).size
        have OWg2 := Lib.hid (owns_below OWg.out (BGh.out) (own_lt OWg.out))
        have HRH := Lib.hid hrh
        have HAH := Lib.hid hAh
        clear hownh hgh hrh hAh SRg
        go_wp2_with (at_builtin; refine wpList_append_row _ rfl (.tmp 92) (.tmp 96) 35 35 rfl wf.heap.size 32 i0 (.slice none 0 0) 1 24 Try.underlying35 HI0.out HZ0.out HZ1.out HZ2.out rfl (by decide) vg rsf.length _ rfl ((OWg2.out).alloc _) _ 1 _ rfl (src_new wh Try.underlying35 [_] 1 1 1 32 rfl (fun u hu => by simp at hu; subst hu; rfl)) (by unfold maxLen; omega) (by omega) (by simp; omega) ?_)
        intro vi wi howni hgi
        obtain ⟨Ai, ci, rfl, -, -⟩ := reads_of_owns howni
        have hbelow : Below wf.heap.size wf wi := (((BLg.out).trans ((BGh.out).mono hszg)).alloc (by omega) _).trans (hgi.below (by simp; omega) (own_from OWg2.out))
        have hki := (HXF.out).blk.below hbelow (HXF.out).blk.lt
        have ki3 := hki.cell 3
        have ki1 := hki.cell 1
        have fi3 := hki.frozen 3
        have fi1 := hki.frozen 1
        simp at ki3 ki1
        have hvg : vg.ownBlock ≠ (Value.slice Ah b.length ch).ownBlock ∨ vg.ownBlock = none := by
          cases hvo : vg.ownBlock with
          | none => exact .inr rfl
          | some x => exact .inl (fun e => owns_ne OWg2.out OWh.out (by decide) hvo e.symm)
        have hOi := owns_grows ((OWh.out).alloc (.cells #[.slice Ah b.length ch] 32)) hgi (by
          rcases hvg with h | h
          · exact .inr (fun e => h e.symm)
          · cases hvo : (Value.slice Ah b.length ch).ownBlock with
            | none => exact .inl rfl
            | some x => exact .inr (by rw [h]; exact fun e => by cases e))
        have hfin := (AMf.out).done (HXF.out) (A2 := Ah) (q2 := ch) hbelow (by have := Reads.of_own hOi; simpa using this) (fun ad ha => by
          subst ha
          refine ⟨by have := ((HAH.out) ad rfl).1; omega, fun e => ?_⟩
          exact owns_ne howni hOi (by decide) e rfl) (HBB.out) howni (by omega)
        have hcast : ((l.fin + 5 + b.length : Nat) : Int) = (l.fin : Int) + (5 + (b.length : Int)) := by omega
        rw [hcast] at hfin
        have FF := Lib.hid hfin
        clear hfin hbelow hki hvg hOi howni hgi OWg OWg2 OWh HRH HAH BLg BGh AMf HXF hcast
        go_wp2_with fail
        go_ret
        rw [HFIN.out]
        exact FF.out
      · rw [if_neg h3] at hap
        have HFIN := Lib.hid hap
        have dx := bne_true h3
        rw [LS.dead_same h3] at hham
        have HHAM := Lib.hid hham
        clear hap hham
        go_wp2_with fail
        go_ret
        rw [HFIN.out]
        exact (HHAM.out).fin x3
    · have hres3 := HR2.out
      rw [if_neg h2] at hres3
      have hap := HAPP.out
      rw [hres3] at hap
      rw [if_neg h2] at hap
      have HFIN := Lib.hid hap
      have dx := bne_true h2
      rw [LS.dead_same h2] at hham
      have HHAM := Lib.hid hham
      clear hap hham hres3 HR2 HAPP ham2
      go_wp2_with fail
      go_ret
      rw [HFIN.out]
      exact (HHAM.out).fin x2
  · have dx : ((x0 : Int) != 0) = true := by simp; omega
    have hres1 := HRES.out
    rw [if_neg h0] at hres1
    have hS := rstore_any ((st : Int) + (l.fin : Int)) (some ⟨w2.heap.size, 0, none⟩) 1 [0] ((A2m.out).below ((Below.refl _ w2).alloc (Nat.le_refl _) (.cells #[.int .u8 0] 5))).both (by simp) (by simp) (bytes_new w2 [0]) (fun _ ad ha hF => by injection ha with ha; rw [← ha] at hF; exact absurd ((A2m.out).both.disk.lt _ hF) (Nat.lt_irrefl _))
    generalize storeS s ((st : Int) + (l.fin : Int)) [0] = r1 at hS hres1
    obtain ⟨x1, s1⟩ := r1
    simp only [List.length_cons, List.length_nil, Nat.zero_add] at hS
    simp only at hres1
    have HS1 := Lib.hid hS
    have HR1 := Lib.hid hres1
    have A3m := Lib.hid ((A2m.out).below ((Below.refl _ w2).alloc (Nat.le_refl _) (.cells #[.int .u8 0] 5)))
    clear hS hres1 A2m HRES h0
    go_wp2_with fail
    refine (HS1.out).mono ?_
    intro e wz ho
    obtain ⟨rfl, Fz, hamz⟩ := (A3m.out).op ho
    have hham := hamz
    clear ho HS1 A3m hcell2
    by_cases h1 : x1 = 0
    · subst h1
      simp only [LS.alive_same (HD.out)] at hham
      have AMz := Lib.hid hham
      have hres3 := HR1.out
      rw [if_pos rfl] at hres3
      have HRES := Lib.hid hres3
      clear HR1 hham hamz hres3
      have HLn := Lib.hid (rlength_any b.length wz (by omega))
      go_wp2_with fail
      refine (HLn.out).mono ?_
      rintro e wa ⟨rfl, hwa⟩
      have OWa : Hid (wa.ownsRow wz.heap.size 5 1 (.slice (some ⟨wz.heap.size, 0, none⟩) 4 4) 4 ((be4 b.length).map byt)) := by
        rw [hwa]
        exact own_made (xs := (be4 b.length).map byt) (Blk.new wz 5 _) (Nat.le_refl _) (by show 4 ≤ maxLen; unfold maxLen; omega)
      have BLa : Hid (Below wz.heap.size wz wa) := by rw [hwa]; exact (Below.refl _ wz).alloc (Nat.le_refl _) _
      have SRa := Lib.hid (src_reads (P := Try.prog) wa (tx := 32) Try.underlying32 c ((AMz.out).below (BLa.out)).rb (byt_one b))
      clear hwa HLn
      go_wp2_with (at_builtin; refine wpList_append_row _ rfl (.tmp 70) (.tmp 71) 32 32 rfl wz.heap.size 5 i5 (.int .u8 0) 1 1 Try.underlying32 HI5.out HY0.out HY1.out HY2.out rfl (by decide) _ 4 _ rfl (OWa.out) _ b.length (b.map byt) rfl (SRa.out) (by unfold maxLen; omega) (by omega) (BLa.out).size ?_)
      intro vb wb hownb hgb
      have BLb := Lib.hid ((BLa.out).trans (hgb.below (BLa.out).size (own_from OWa.out)))
      have OWb := Lib.hid hownb
      have hszb := (BLb.out).size
      clear hownb hgb SRa OWa BLa
      go_wp2_with (at_builtin; refine wpList_append_row _ rfl (.tmp 72) (.tmp 73) 32 32 rfl wz.heap.size 5 i5 (.int .u8 0) 1 1 Try.underlying32 HI5.out HY0.out HY1.out HY2.out rfl (by decide) vb (4 + b.length) _ rfl ((OWb.out).alloc _) (.slice (some ⟨wb.heap.size, 0, none⟩) 1 1) 1 [.int .u8 0] rfl (src_new wb Try.underlying32 [.int .u8 0] 1 1 1 5 rfl (fun u hu => by simp at hu; subst hu; rfl)) (by unfold maxLen; omega) (by omega) (by simp; omega) ?_)
      intro vc wc hownc hgc
      obtain ⟨body, hbody⟩ : ∃ body, body = be4 b.length ++ b ++ [0] := ⟨_, rfl⟩
      have hbl2 : body.length = 4 + b.length + 1 := by rw [hbody]; simp [be4]; omega
      have hbm : body.map byt = (be4 b.length).map byt ++ (b.map byt ++ [.int .u8 0]) := by rw [hbody]; simp [byt]
      rw [← hbl2, ← hbm] at hownc
      have hbby : ∀ x ∈ body, x < 256 := fun x hx => by
        rw [hbody] at hx
        simp only [List.mem_append, List.mem_singleton] at hx
        rcases hx with (h | h) | h
        · exact be4_byte _ x h
        · exact (HBB.out) x h
        · omega
      obtain ⟨Ac, cc, rfl, hrc, hbc⟩ := reads_of_owns hownc
      have hbB : Below wz.heap.size wz wc := ((BLb.out).alloc hszb _).trans (hgc.below (by simp; omega) (own_from OWb.out))
      have AMc := Lib.hid ((AMz.out).below hbB)
      have hres2 := HRES.out
      rw [← hbody] at hres2
      have hS := rstore_any ((st : Int) + (l.fin : Int) + 1) Ac cc body (AMc.out).both hbby (by omega) hrc (fun _ ad ha hF => by have h1 := (hbc ad ha).1; have h2 := (AMz.out).both.disk.lt _ hF; omega)
      generalize storeS s1 ((st : Int) + (l.fin : Int) + 1) body = r2 at hS hres2
      obtain ⟨x2, s2⟩ := r2
      simp only at hS hres2
      have HS2 := Lib.hid hS
      have HR2 := Lib.hid hres2
      clear hS hres2 hrc hbc hownc hgc hbB hbm hbl2 hbby hbody OWb BLb HRES
      go_wp2_with fail
      refine (HS2.out).mono ?_
      intro e wd ho
      obtain ⟨rfl, F2, ham2⟩ := (AMc.out).op ho
      have hham := ham2
      clear ho HS2 AMc
      by_cases h2 : x2 = 0
      · subst h2
        simp only [LS.alive_same (HD.out)] at hham
        have AMd := Lib.hid hham
        have hres3 := HR2.out
        rw [if_pos rfl] at hres3
        clear HR2 hham ham2
        have hS := rstore_any ((st : Int) + (l.fin : Int)) (some ⟨wd.heap.size, 0, none⟩) 1 [1] ((AMd.out).below ((Below.refl _ wd).alloc (Nat.le_refl _) (.cells #[.int .u8 1] 5))).both (by simp) (by simp) (bytes_new wd [1]) (fun _ ad ha hF => by injection ha with ha; rw [← ha] at hF; exact absurd ((AMd.out).both.disk.lt _ hF) (Nat.lt_irrefl _))
        generalize storeS s2 ((st : Int) + (l.fin : Int)) [1] = r3 at hS hres3
        obtain ⟨x3, s3⟩ := r3
        simp only [List.length_cons, List.length_nil, Nat.zero_add] at hS
        have HS3 := Lib.hid hS
        have HR3 := Lib.hid hres3
        have AMe := Lib.hid ((AMd.out).below ((Below.refl _ wd).alloc (Nat.le_refl _) (.cells #[.int .u8 1] 5)))
        clear hS hres3 AMd
        go_wp2_with fail
        refine (HS3.out).mono ?_
        intro e wf ho
        obtain ⟨rfl, F3, ham3⟩ := (AMe.out).op ho
        have hham := ham3
        have hap := HAPP.out
        rw [HR3.out] at hap
        clear ho HS3 AMe ham3 HAPP HR3
        by_cases h3 : x3 = 0
        · subst h3
          simp only [LS.alive_same (HD.out)] at hham
          rw [if_pos rfl] at hap
          have AMf := Lib.hid hham
          have HFIN := Lib.hid hap
          obtain ⟨vf, rsf, hxf⟩ := hham.both.log
          obtain ⟨Af, cf, hvf⟩ := hxf.slice
          subst hvf
          have HXF := Lib.hid hxf
          have k1 := hxf.blk.cell 1
          have hglf : g < wf.heap.size := hxf.blk.lt
          simp at k1
          have hrf : rsf.length ≤ 65536 := by have h1 := hxf.few; have h4 := hxf.len; omega
          have SRf : Hid (Src Try.prog 1 35 (.slice Af rsf.length cf) rsf.length (rsf.flatMap rcell) (wf.alloc (.cells #[] 32))) := src_reads (P := Try.prog) _ (tx := 35) Try.underlying35 cf ((Reads.of_own hxf.own).alloc (Nat.le_refl _) _) (rcell_one rsf)
          clear hham hap hxf
          go_wp2_with (at_builtin; refine wpList_append_row _ rfl (.tmp 87) (.tmp 91) 35 35 rfl wf.heap.size 32 i0 (.slice none 0 0) 1 24 Try.underlying35 HI0.out HZ0.out HZ1.out HZ2.out rfl (by decide) _ 0 _ rfl (own_emp (Blk.new wf 32 #[]) (Nat.le_refl _)) _ rsf.length _ rfl (SRf.out) (by unfold maxLen; omega) (by omega) (by simp) ?_)
          intro vg wg howng hgg
          have OWg := Lib.hid howng
          have BLg := Lib.hid (((Below.refl _ wf).alloc (Nat.le_refl _) _).trans (hgg.below (by simp) (fun x hx => by simp [Value.ownBlock] at hx; omega)))
          have hszg := (BLg.out).size
          have SRg := Lib.hid (src_reads (P := Try.prog) (wg.alloc (.cells #[] 5)) (tx := 32) Try.underlying32 c (((AMf.out).below (BLg.out)).rb.alloc (Nat.le_refl _) (.cells #[] 5)) (byt_one b))
          clear howng hgg SRf
          go_wp2_with (at_builtin; refine wpList_append_row _ rfl (.tmp 93) (.tmp 94) 32 32 rfl wg.heap.size 5 i5 (.int .u8 0) 1 1 Try.underlying32 HI5.out HY0.out HY1.out HY2.out rfl (by decide) _ 0 _ rfl (own_emp (Blk.new wg 5 #[]) (Nat.le_refl _)) _ b.length (b.map byt) rfl (SRg.out) (by unfold maxLen; omega) (by omega) (by simp) ?_)
          intro vh wh hownh hgh
          obtain ⟨Ah, ch, rfl, hrh, hAh⟩ := reads_of_owns hownh
          have OWh := Lib.hid hownh
          have BGh := Lib.hid (((Below.refl _ wg).alloc (Nat.le_refl _) (.cells #[] 5)).trans (hgh.below (by simp) (fun x hx => by simp [Value.ownBlock] at hx; omega)))
          have hszh := (BGh.out).size
          have OWg2 := Lib.hid (owns_below OWg.out (BGh.out) (own_lt OWg.out))
          have HRH := Lib.hid hrh
          have HAH := Lib.hid hAh
          clear hownh hgh hrh hAh SRg
          go_wp2_with (at_builtin; refine wpList_append_row _ rfl (.tmp 92) (.tmp 96) 35 35 rfl wf.heap.size 32 i0 (.slice none 0 0) 1 24 Try.underlying35 HI0.out HZ0.out HZ1.out HZ2.out rfl (by decide) vg rsf.length _ rfl ((OWg2.out).alloc _) _ 1 _ rfl (src_new wh Try.underlying35 [_] 1 1 1 32 rfl (fun u hu => by simp at hu; subst hu; rfl)) (by unfold maxLen; omega) (by omega) (by simp; omega) ?_)
          intro vi wi howni hgi
          obtain ⟨Ai, ci, rfl, -, -⟩ := reads_of_owns howni
          have hbelow : Below wf.heap.size wf wi := (((BLg.out).trans ((BGh.out).mono hszg)).alloc (by omega) _).trans (hgi.below (by simp; omega) (own_from OWg2.out))
          have hki := (HXF.out).blk.below hbelow (HXF.out).blk.lt
          have ki3 := hki.cell 3
          have ki1 := hki.cell 1
          have fi3 := hki.frozen 3
          have fi1 := hki.frozen 1
          simp at ki3 ki1
          have hvg : vg.ownBlock ≠ (Value.slice Ah b.length ch).ownBlock ∨ vg.ownBlock = none := by
            cases hvo : vg.ownBlock with
            | none => exact .inr rfl
            | some x => exact .inl (fun e => owns_ne OWg2.out OWh.out (by decide) hvo e.symm)
          have hOi := owns_grows ((OWh.out).alloc (.cells #[.slice Ah b.length ch] 32)) hgi (by
            rcases hvg with h | h
            · exact .inr (fun e => h e.symm)
            · cases hvo : (Value.slice Ah b.length ch).ownBlock with
              | none => exact .inl rfl
              | some x => exact .inr (by rw [h]; exact fun e => by cases e))
          have hfin := (AMf.out).done (HXF.out) (A2 := Ah) (q2 := ch) hbelow (by have := Reads.of_own hOi; simpa using this) (fun ad ha => by
            subst ha
            refine ⟨by have := ((HAH.out) ad rfl).1; omega, fun e => ?_⟩
            exact owns_ne howni hOi (by decide) e rfl) (HBB.out) howni (by omega)
          have hcast : ((l.fin + 5 + b.length : Nat) : Int) = (l.fin : Int) + (5 + (b.length : Int)) := by omega
          rw [hcast] at hfin
          have FF := Lib.hid hfin
          clear hfin hbelow hki hvg hOi howni hgi OWg OWg2 OWh HRH HAH BLg BGh AMf HXF hcast
          go_wp2_with fail
          go_ret
          rw [HFIN.out]
          exact FF.out
        · rw [if_neg h3] at hap
          have HFIN := Lib.hid hap
          have dx := bne_true h3
          rw [LS.dead_same h3] at hham
          have HHAM := Lib.hid hham
          clear hap hham
          go_wp2_with fail
          go_ret
          rw [HFIN.out]
          exact (HHAM.out).fin x3
      · have hres3 := HR2.out
        rw [if_neg h2] at hres3
        have hap := HAPP.out
        rw [hres3] at hap
        rw [if_neg h2] at hap
        have HFIN := Lib.hid hap
        have dx := bne_true h2
        rw [LS.dead_same h2] at hham
        have HHAM := Lib.hid hham
        clear hap hham hres3 HR2 HAPP ham2
        go_wp2_with fail
        go_ret
        rw [HFIN.out]
        exact (HHAM.out).fin x2
    · have hres3 := HR1.out
      rw [if_neg h1] at hres3
      have hap := HAPP.out
      rw [hres3] at hap
      rw [if_neg h1] at hap
      have HFIN := Lib.hid hap
      have dx := bne_true h1
      rw [LS.dead_same h1] at hham
      have HHAM := Lib.hid hham
      clear hap hham hres3 HR1 HAPP hamz
      go_wp2_with fail
      go_ret
      rw [HFIN.out]
      exact (HHAM.out).fin x1
end Go.Proofs.Ytnjafhlpnoikcaa
