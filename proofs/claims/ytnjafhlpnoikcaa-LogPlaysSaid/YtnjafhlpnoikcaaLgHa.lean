/-
  add: a record is written behind the last one. No condition.
-/
import Derived.Test.YtnjafhlpnoikcaaLgH
namespace Go.Proofs.Ytnjafhlpnoikcaa
open Go.RowKit
set_option linter.unusedVariables false

set_option maxRecDepth 100000 in
set_option maxHeartbeats 8000000 in
theorem add_a {w : World} {g d : Nat} {s : DS} {l : LS} {F K : Nat → Prop} {A : Option Addr} {c : Nat} {b : List Nat} (h : Both w g d s l F K) (hN : 2 * l.half + 1 ≤ s.dur.length) (hroom : l.fin + 6 + b.length ≤ l.half) (hr : Reads w w.heap.size 1 A b.length (b.map byt)) (hA : 0 < b.length → ∀ ad, A = some ad → ¬ F ad.block) (hb : ∀ x ∈ b, x < 256) (hz : s.off = true ∨ (seenL s.dur s.wait).getD l.at_ 0 = 0) :
    Calls Try.prog 37 #[.pointer (some ⟨g, 0, none⟩), .slice A b.length c] w (AddPost w g d l F K (addS s l b)) := by
  have hok := h.disk.ok
  have hhi := hok.hi
  have hsl : (seenL s.dur s.wait).length = s.dur.length := seen_len _ _ hok.fit rfl
  have A0 := Lib.hid (AM.start h hr hA)
  have hst : startS l.half l.second ≤ l.half + 1 := by unfold startS; split <;> omega
  have hadd : addS s l b = if (readS s l.at_ 1).2 = 0 then (if (if (readS s l.at_ 1).1.getD 0 0 = 0 then (0, s) else storeS s l.at_ [0]).1 = 0 then (if (storeS (if (readS s l.at_ 1).1.getD 0 0 = 0 then (0, s) else storeS s l.at_ [0]).2 (l.at_ + 1 : Nat) (be4 b.length ++ b ++ [0])).1 = 0 then storeS (storeS (if (readS s l.at_ 1).1.getD 0 0 = 0 then (0, s) else storeS s l.at_ [0]).2 (l.at_ + 1 : Nat) (be4 b.length ++ b ++ [0])).2 l.at_ [1] else (storeS (if (readS s l.at_ 1).1.getD 0 0 = 0 then (0, s) else storeS s l.at_ [0]).2 (l.at_ + 1 : Nat) (be4 b.length ++ b ++ [0]))) else (if (readS s l.at_ 1).1.getD 0 0 = 0 then (0, s) else storeS s l.at_ [0])) else ((readS s l.at_ 1).2, s) := rfl
  have hat : l.at_ = startS l.half l.second + l.fin := rfl
  rw [hat] at hadd hz
  obtain ⟨v0, rs0, hx0⟩ := h.log
  have hhalf := hx0.half
  have HST : Hid (∀ w', Below w.heap.size w w' → Calls Try.prog 30 #[.pointer (some ⟨g, 0, none⟩), .bool l.second] w' fun e w2 => e = .returned (.int .i64 (startS l.half l.second : Nat)) ∧ w' = w2) := fun w' hb' => start_any (LogAt.below ⟨v0, rs0, hx0⟩ hb') l.second
  have c0 := hx0.blk.cell 0
  have c2 := hx0.blk.cell 2
  have c3 := hx0.blk.cell 3
  have hgl := hx0.lt g hx0.kg
  simp at c0 c2 c3
  generalize hsd : startS l.half l.second = st at hst hadd HST hz
  have hcast : ((st + l.fin : Nat) : Int) = (st : Int) + (l.fin : Int) := by omega
  have hcast1 : ((st + l.fin + 1 : Nat) : Int) = (st : Int) + (l.fin : Int) + 1 := by omega
  rw [hcast, hcast1] at hadd
  obtain ⟨i0, hi, hz0, hz1, hz2⟩ := info_parts byte_info
  have HB := Lib.hid hb
  have HADD := Lib.hid hadd
  have HSL := Lib.hid hsl
  have HZZ := Lib.hid hz
  clear hz
  clear h hr hA hb hx0 hadd hsl hok hat hsd hcast hcast1
  go_enter_defers Try.func37, Try.ntmps37
  go_wp2_with fail
  go_quiet (exact quiet_left (HST.out _ (by first | exact (below_drewN ((Below.refl w.heap.size w).alloc (Nat.le_refl _) _) _) | exact ((Below.refl w.heap.size w).alloc (Nat.le_refl _) _))))
  have A1 := Lib.hid ((A0.out).below (below_drewN (Below.refl _ _) nq))
  generalize (w.alloc (.cells #[.int .i64 0] 23)).drewN nq = W1 at *
  by_cases hoff : s.off = true
  · have hrs : readS s ((st : Int) + (l.fin : Int)) 1 = ([], 15) := by unfold readS; rw [if_pos hoff]
    have hrd := read_m d s F ((st : Int) + (l.fin : Int)) 1 W1 (A1.out).both.disk (by omega)
    rw [hrs] at hrd
    replace hrd := Lib.hid hrd
    have hres := HADD.out
    rw [hrs, if_neg (by decide)] at hres
    replace hres := Lib.hid hres
    clear hrs HADD
    obtain ⟨v1_, rs1_, hx1_⟩ := (A1.out).both.log
    have z10 := hx1_.blk.cell 0
    have z15 := hx1_.blk.cell 5
    have y15 := hx1_.blk.frozen 5
    have bx1 := (A1.out).box.cell 0
    have bf1 := (A1.out).box.frozen 0
    simp at z10 z15 bx1
    clear hx1_
    go_wp2_with fail
    refine (hrd.out).mono ?_
    rintro e w2 ⟨A2, c2', rfl, -, -, -, hb2⟩
    have A2m := Lib.hid ((A1.out).below hb2)
    clear hb2 hrd
    clear z10 z15 y15 bx1 bf1
    obtain ⟨v2_, rs2_, hx2_⟩ := (A2m.out).both.log
    have z20 := hx2_.blk.cell 0
    have z25 := hx2_.blk.cell 5
    have y25 := hx2_.blk.frozen 5
    have bx2 := (A2m.out).box.cell 0
    have bf2 := (A2m.out).box.frozen 0
    simp at z20 z25 bx2
    clear hx2_
    go_wp2_with fail
    have A3m := Lib.hid (((A2m.out).put 15).put 15)
    clear z20 z25 y25 bx2 bf2
    have hne15 : (15 : Int) ≠ 0 := by decide
    have DB := (A3m.out).box.cell 0
    simp at DB
    refine leaves_cons (f := 54) (args := #[.pointer (some ⟨g, 0, none⟩), .pointer (some ⟨w.heap.size, 0, none⟩)]) (by simp) (by simp [go_sem]) ?_
    obtain ⟨vD, rsD, hxD⟩ := (A3m.out).both.log
    have D5 := hxD.blk.cell 5
    have E5 := hxD.blk.frozen 5
    simp at D5
    have DN : ¬ w.heap.size = g := by omega
    refine (notice_yes .returning DB (bne_true hne15) D5 E5).mono ?_
    rintro e u' w'' ⟨rfl, rfl, rfl⟩
    rw [hres.out]
    exact ⟨_, results_box (P := Try.prog) rfl Try.underlying23 _ _ w.heap.size _ rfl ((World.cell?_setCell_other _ ⟨g, 5, none⟩ ⟨w.heap.size, 0, none⟩ _ (by intro h; injection h with h1 h2; omega)).trans DB), (A3m.out).fin1 hne15⟩
  · obtain ⟨x0, hx0⟩ : ∃ x0, (seenL s.dur s.wait)[st + l.fin]? = some x0 := ⟨(seenL s.dur s.wait)[st + l.fin]'(by rw [HSL.out]; omega), List.getElem?_eq_getElem _⟩
    have hrs : readS s ((st : Int) + (l.fin : Int)) 1 = ([x0], 0) := by
      unfold readS
      rw [if_neg hoff]
      have hin : insideB s.dur.length ((st : Int) + (l.fin : Int)) 1 = true := by unfold insideB; simp; omega
      rw [hin]
      simp only [Bool.not_true, Bool.false_eq_true, if_false]
      have e1 : (((st : Int) + (l.fin : Int))).toNat = st + l.fin := by omega
      have e2 : ((1 : Int)).toNat = 1 := rfl
      rw [e1, e2]
      have hd : (seenL s.dur s.wait).drop (st + l.fin) = x0 :: (seenL s.dur s.wait).drop (st + l.fin + 1) := by
        rw [List.drop_eq_getElem_cons (by rw [HSL.out]; omega)]
        congr 1
        rw [List.getElem?_eq_getElem (by rw [HSL.out]; omega)] at hx0
        injection hx0
      rw [hd]
      rfl
    have hrd := read_m d s F ((st : Int) + (l.fin : Int)) 1 W1 (A1.out).both.disk (by omega)
    rw [hrs] at hrd
    replace hrd := Lib.hid hrd
    have hres := HADD.out
    rw [hrs] at hres
    simp only [List.getD_cons_zero, if_true] at hres
    replace hres := Lib.hid hres
    have hgx : (seenL s.dur s.wait).getD (st + l.fin) 0 = x0 := by rw [List.getD_eq_getElem?_getD, hx0]; rfl
    clear hrs HADD hx0
    have h0 : x0 = 0 := by
      rcases HZZ.out with h | h
      · exact absurd h hoff
      · rw [← hgx]; exact h
    clear hgx HZZ
    obtain ⟨v3_, rs3_, hx3_⟩ := (A1.out).both.log
    have z30 := hx3_.blk.cell 0
    have z35 := hx3_.blk.cell 5
    have y35 := hx3_.blk.frozen 5
    have bx3 := (A1.out).box.cell 0
    have bf3 := (A1.out).box.frozen 0
    simp at z30 z35 bx3
    clear hx3_
    go_wp2_with fail
    refine (hrd.out).mono ?_
    rintro e w2 ⟨A2, c2', rfl, hr2, -, hA2, hb2⟩
    have A2m := Lib.hid ((A1.out).below hb2)
    obtain ⟨ab2, ao2, u2, rfl, -, hu2, hcell2⟩ := hr2.at1 (show 0 < [x0].length by simp)
    obtain rfl : u2 = .int .u8 (x0 : Int) := by simpa [byt] using hu2.symm
    rw [Nat.add_zero] at hcell2
    have hltw : w.heap.size < w2.heap.size := (A2m.out).lt
    have hneb : ¬ ab2 = w.heap.size := by have h1 := hA2 _ rfl; have h2 := (A1.out).lt; have h3 : W1.heap.size ≤ ab2 := h1; omega
    have hneb2 : ¬ w.heap.size = ab2 := fun h => hneb h.symm
    clear hA2 hb2 hrd hr2 hu2
    clear z30 z35 y35 bx3 bf3
    obtain ⟨v4_, rs4_, hx4_⟩ := (A2m.out).both.log
    have z40 := hx4_.blk.cell 0
    have z45 := hx4_.blk.cell 5
    have y45 := hx4_.blk.frozen 5
    have bx4 := (A2m.out).box.cell 0
    have bf4 := (A2m.out).box.frozen 0
    simp at z40 z45 bx4
    clear hx4_
    obtain ⟨W2, hW2⟩ : ∃ W2, w2.setCell ⟨w.heap.size, 0, none⟩ (.int .i64 0) = W2 := ⟨_, rfl⟩
    have A3m := (A2m.out).put 0
    rw [hW2] at A3m
    replace A3m := Lib.hid A3m
    have hs2w : W2.heap.size = w2.heap.size := by rw [← hW2]; simp [World.setCell]
    replace hs2w := Lib.hid hs2w
    have HW2 := Lib.hid hW2
    clear hW2
    have dx : ((x0 : Int) != 0) = false := by simp; omega
    have hres1 := hres.out
    rw [if_pos h0] at hres1
    simp only [if_true] at hres1
    replace hres1 := Lib.hid hres1
    clear hres h0
    go_wp2_with fail
    rw [HW2.out]
    clear z40 z45 y45 bx4 bf4
    clear hcell2 HW2
    have HLn := Lib.hid (length_any W2.heap.size 0 (.slice none 0 0) [] b.length W2 ⟨rfl, .inl ⟨rfl, rfl⟩⟩ (Nat.le_refl _) (by omega) (by omega))
    refine (HLn.out).mono ?_
    rintro e wa ⟨va, rfl, howna, hga⟩
    have BLa := Lib.hid hga.below_new
    have OWa := Lib.hid howna
    have SRa := Lib.hid (src_reads (P := Try.prog) wa (tx := 32) Try.underlying32 c ((A3m.out).below (BLa.out)).rb (byt_one b))
    clear howna hga HLn
    go_wp2_with (at_builtin; refine wpList_append_row _ rfl (.tmp 47) (.tmp 48) 32 32 rfl W2.heap.size 5 i0 (.int .u8 0) 1 1 Try.underlying32 hi hz0 hz1 hz2 rfl (by decide) va (0 + 4) _ rfl (OWa.out) _ b.length (b.map byt) rfl (SRa.out) (by unfold maxLen; omega) (by omega) (BLa.out).size ?_)
    intro vb wb hownb hgb
    have BLb := Lib.hid ((BLa.out).trans (hgb.below (BLa.out).size (fun g hg => ((OWa.out).lt g hg).1)))
    have OWb := Lib.hid hownb
    have hszb := (BLb.out).size
    clear hownb hgb SRa OWa BLa
    go_wp2_with (at_builtin; refine wpList_append_row _ rfl (.tmp 53) (.tmp 54) 32 32 rfl W2.heap.size 5 i0 (.int .u8 0) 1 1 Try.underlying32 hi hz0 hz1 hz2 rfl (by decide) vb (0 + 4 + b.length) _ rfl ((OWb.out).alloc _) (.slice (some ⟨wb.heap.size, 0, none⟩) 1 1) 1 [.int .u8 0] rfl (src_new wb Try.underlying32 [.int .u8 0] 1 1 1 5 rfl (fun u hu => by simp at hu; subst hu; rfl)) (by unfold maxLen; omega) (by omega) (by simp; omega) ?_)
    intro vc wc hownc hgc
    obtain ⟨body, hbody⟩ : ∃ body, body = be4 b.length ++ b ++ [0] := ⟨_, rfl⟩
    have hbl2 : body.length = 4 + b.length + 1 := by rw [hbody]; simp [be4]; omega
    have hbm : body.map byt = (be4 b.length).map byt ++ (b.map byt ++ [.int .u8 0]) := by rw [hbody]; simp [byt]
    rw [← hbl2, ← hbm] at hownc
    have hbby : ∀ x ∈ body, x < 256 := fun x hx => by
      rw [hbody] at hx
      simp only [List.mem_append, List.mem_singleton] at hx
      rcases hx with (h | h) | h
      · exact be4_byte _ x h
      · exact (HB.out) x h
      · omega
    obtain ⟨Ac, cc, rfl, hrc, hbc⟩ := reads_of_owns hownc
    have hbB : Below W2.heap.size W2 wc := ((BLb.out).alloc hszb _).trans (hgc.below (by simp; omega) (fun g hg => ((OWb.out).lt g hg).1))
    have AMc := Lib.hid ((A3m.out).below hbB)
    have hres2 := hres1.out
    rw [← hbody] at hres2
    have hS := store_any ((st : Int) + (l.fin : Int) + 1) Ac cc body (AMc.out).both.disk (AMc.out).both.log (AMc.out).both.apart hbby (by omega) hrc (fun _ ad ha hF => by have h1 := (hbc ad ha).1; have h2 := (A3m.out).both.disk.lt _ hF; omega)
    generalize storeS s ((st : Int) + (l.fin : Int) + 1) body = r2 at hS hres2
    obtain ⟨x2, s2⟩ := r2
    simp only at hS hres2
    have HS2 := Lib.hid hS
    have HR2 := Lib.hid hres2
    clear hS hres2 hrc hbc hownc hgc hbB hbm hbl2 hbby hbody OWb BLb
    go_wp2_with fail
    refine (HS2.out).mono ?_
    rintro e wd ⟨rfl, ho⟩
    obtain ⟨F2, ham2⟩ := (AMc.out).op ho
    have AMd := Lib.hid ham2
    clear ho ham2 HS2 AMc
    by_cases h2 : x2 = 0
    · subst h2
      have hres3 := HR2.out
      rw [if_pos rfl] at hres3
      have AMe := Lib.hid ((AMd.out).below ((Below.refl _ wd).alloc (Nat.le_refl _) (.cells #[.int .u8 1] 5)))
      have hS := store_any (c := 1) ((st : Int) + (l.fin : Int)) (some ⟨wd.heap.size, 0, none⟩) [1] (AMe.out).both.disk (AMe.out).both.log (AMe.out).both.apart (fun x hx => by simp at hx; omega) (by simp) (bytes_new wd [1]) (fun _ ad ha hF => by injection ha with ha; have h2 := (AMd.out).both.disk.lt _ hF; rw [← ha] at h2; exact absurd h2 (Nat.lt_irrefl _))
      generalize storeS s2 ((st : Int) + (l.fin : Int)) [1] = r3 at hS hres3
      obtain ⟨x3, s3⟩ := r3
      have HS3 := Lib.hid hS
      have HR3 := Lib.hid hres3
      clear hS hres3 HR2
      go_wp2_with fail
      refine (HS3.out).mono ?_
      rintro e wf ⟨rfl, ho⟩
      obtain ⟨F3, ham3⟩ := (AMe.out).op ho
      have AMf := Lib.hid ham3
      clear ho ham3 HS3 AMe AMd
      obtain ⟨v5_, rs5_, hx5_⟩ := (AMf.out).both.log
      have z50 := hx5_.blk.cell 0
      have z55 := hx5_.blk.cell 5
      have y55 := hx5_.blk.frozen 5
      have bx5 := (AMf.out).box.cell 0
      have bf5 := (AMf.out).box.frozen 0
      simp at z50 z55 bx5
      clear hx5_
      go_wp2_with fail
      clear z50 z55 y55 bx5 bf5
      have AMg := Lib.hid ((AMf.out).put x3)
      by_cases h3 : x3 = 0
      · subst h3
        have DB := (AMg.out).box.cell 0
        simp at DB
        refine leaves_cons (f := 54) (args := #[.pointer (some ⟨g, 0, none⟩), .pointer (some ⟨w.heap.size, 0, none⟩)]) (by simp) (by simp [go_sem]) ?_
        refine (notice_no .returning DB).mono ?_
        rintro e u' w'' ⟨rfl, rfl, rfl⟩
        rw [HR3.out]
        exact ⟨_, results_box (P := Try.prog) rfl Try.underlying23 _ _ w.heap.size _ rfl DB, (AMg.out).fin0⟩
      · have DB := (AMg.out).box.cell 0
        simp at DB
        refine leaves_cons (f := 54) (args := #[.pointer (some ⟨g, 0, none⟩), .pointer (some ⟨w.heap.size, 0, none⟩)]) (by simp) (by simp [go_sem]) ?_
        obtain ⟨vD, rsD, hxD⟩ := (AMg.out).both.log
        have D5 := hxD.blk.cell 5
        have E5 := hxD.blk.frozen 5
        simp at D5
        have DN : ¬ w.heap.size = g := by omega
        refine (notice_yes .returning DB (bne_true h3) D5 E5).mono ?_
        rintro e u' w'' ⟨rfl, rfl, rfl⟩
        rw [HR3.out]
        exact ⟨_, results_box (P := Try.prog) rfl Try.underlying23 _ _ w.heap.size _ rfl ((World.cell?_setCell_other _ ⟨g, 5, none⟩ ⟨w.heap.size, 0, none⟩ _ (by intro h; injection h with h1 h2; omega)).trans DB), (AMg.out).fin1 h3⟩
    · have hres3 := HR2.out
      rw [if_neg h2] at hres3
      replace hres3 := Lib.hid hres3
      clear HR2
      obtain ⟨v6_, rs6_, hx6_⟩ := (AMd.out).both.log
      have z60 := hx6_.blk.cell 0
      have z65 := hx6_.blk.cell 5
      have y65 := hx6_.blk.frozen 5
      have bx6 := (AMd.out).box.cell 0
      have bf6 := (AMd.out).box.frozen 0
      simp at z60 z65 bx6
      clear hx6_
      go_wp2_with fail
      clear z60 z65 y65 bx6 bf6
      have AMg := Lib.hid ((AMd.out).put x2)
      have DB := (AMg.out).box.cell 0
      simp at DB
      refine leaves_cons (f := 54) (args := #[.pointer (some ⟨g, 0, none⟩), .pointer (some ⟨w.heap.size, 0, none⟩)]) (by simp) (by simp [go_sem]) ?_
      obtain ⟨vD, rsD, hxD⟩ := (AMg.out).both.log
      have D5 := hxD.blk.cell 5
      have E5 := hxD.blk.frozen 5
      simp at D5
      have DN : ¬ w.heap.size = g := by omega
      refine (notice_yes .returning DB (bne_true h2) D5 E5).mono ?_
      rintro e u' w'' ⟨rfl, rfl, rfl⟩
      rw [hres3.out]
      exact ⟨_, results_box (P := Try.prog) rfl Try.underlying23 _ _ w.heap.size _ rfl ((World.cell?_setCell_other _ ⟨g, 5, none⟩ ⟨w.heap.size, 0, none⟩ _ (by intro h; injection h with h1 h2; omega)).trans DB), (AMg.out).fin1 h2⟩
end Go.Proofs.Ytnjafhlpnoikcaa
