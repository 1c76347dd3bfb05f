/-
  replace: new records into the area that is not current. No condition.
-/
import Derived.Test.YtnjafhlpnoikcaaLgW
import Derived.Test.YtnjafhlpnoikcaaLgP
namespace Go.Proofs.Ytnjafhlpnoikcaa
open Go.RowKit
set_option linter.unusedVariables false

theorem area_len_mem {b : List Nat} {bs : List (List Nat)} (h : b ∈ bs) : b.length + 5 ≤ (areaS bs).length := by
  induction bs with
  | nil => cases h
  | cons x r ih =>
    rw [areaS_cons, List.length_append, recB_len]
    rcases List.mem_cons.1 h with rfl | h
    · omega
    · have := ih h; omega
theorem area_take {bs : List (List Nat)} {j : Nat} {b : List Nat} (h : bs[j]? = some b) : areaS (bs.take (j + 1)) = areaS (bs.take j) ++ recB b := by
  rw [List.take_add_one, h, ← areaS_snoc]
  rfl
theorem area_take_le (bs : List (List Nat)) (j : Nat) : (areaS (bs.take j)).length ≤ (areaS bs).length := by
  have h : areaS bs = areaS (bs.take j) ++ areaS (bs.drop j) := by
    unfold areaS
    rw [← List.flatMap_append, List.take_append_drop]
  rw [h, List.length_append]
  omega
theorem area_byte {bs : List (List Nat)} (h : ∀ b ∈ bs, ∀ x ∈ b, x < 256) : ∀ x ∈ areaS bs, x < 256 := fun x hx => by
  unfold areaS at hx
  obtain ⟨b, hb, hx⟩ := List.mem_flatMap.1 hx
  simp only [List.mem_append, List.mem_singleton] at hx
  rcases hx with (h1 | h1) | h1
  · omega
  · exact be4_byte _ x h1
  · exact h b hb x h1

set_option maxRecDepth 100000 in
set_option maxHeartbeats 2000000 in
theorem repl_any {w : World} {g d : Nat} {s : DS} {l : LS} {F K : Nat → Prop} {A : Option Addr} {c : Nat} {rs : List Rc} (h : Both w g d s l F K) (hroom : (areaS (rs.map (·.b))).length + 1 ≤ l.half) (hn : rs.length ≤ 1000) (hr : RcA w (fun i => F i ∨ K i) A rs) :
    Calls Try.prog 53 #[.pointer (some ⟨g, 0, none⟩), .slice A rs.length c] w (AddPost w g d l F K (replS s l (rs.map (·.b)))) := by
  obtain ⟨bs, hbs⟩ : ∃ bs, bs = rs.map (·.b) := ⟨_, rfl⟩
  have hrepl : replS s l bs = if (storeS s (startS l.half (!l.second) : Nat) (areaS bs ++ [0])).1 = 0 then storeS (storeS s (startS l.half (!l.second) : Nat) (areaS bs ++ [0])).2 0 [if l.second then 0 else 1] else storeS s (startS l.half (!l.second) : Nat) (areaS bs ++ [0]) := rfl
  have hby : ∀ x ∈ areaS bs, x < 256 := area_byte fun b hb => by
    rw [hbs] at hb
    obtain ⟨r, hr1, rfl⟩ := List.mem_map.1 hb
    exact (hr.each r hr1).2
  rw [← hbs] at hroom ⊢
  obtain ⟨v0, rs0, hx0⟩ := h.log
  have hhalf := hx0.half
  have A0 := AM.start (A := none) (b := []) h Reads.none_ (fun hn => by cases hn)
  have R0 := hr.alloc (.cells #[.int .i64 0] 23)
  obtain ⟨i0, hi, hz0, hz1, hz2⟩ := info_parts byte_info
  obtain ⟨n, hnn⟩ : ∃ n, rs.length = n := ⟨_, rfl⟩
  obtain ⟨sb, hsb⟩ : ∃ sb, l.second = sb := ⟨_, rfl⟩
  have HNN := Lib.hid hnn
  have HBS := Lib.hid hbs
  have HBY := Lib.hid hby
  have HREPL := Lib.hid hrepl
  have HI := Lib.hid hi
  have HZ0 := Lib.hid hz0
  have HZ1 := Lib.hid hz1
  have HZ2 := Lib.hid hz2
  have HSB := Lib.hid hsb
  rw [hnn] at hn ⊢
  have hgl : g < w.heap.size := hx0.lt g hx0.kg
  replace A0 := Lib.hid A0
  replace R0 := Lib.hid R0
  clear h hr hx0 hrepl hbs hby hi hz0 hz1 hz2 hnn hsb
  go_enter_defers Try.func53, Try.ntmps53
  go_wp2_with fail
  generalize w.alloc (.cells #[.int .i64 0] 23) = W1 at *
  have L0 : Hid (W1.ownsRow W1.heap.size 5 1 (.slice none 0 0) (areaS (bs.take 0)).length ((areaS (bs.take 0)).map byt)) := ⟨rfl, .inl ⟨rfl, rfl⟩⟩
  go_loopw [5, 13] (fun av jv wr => ∃ j : Nat, jv = .int .i64 (j : Int) ∧ j ≤ n ∧ wr.ownsRow W1.heap.size 5 1 av (areaS (bs.take j)).length ((areaS (bs.take j)).map byt) ∧ Below W1.heap.size W1 wr) (fun _ jv _ => n - (intOf jv).toNat)
  case atStart => exact ⟨0, rfl, Nat.zero_le _, L0.out, Below.refl _ _⟩
  case round =>
    obtain ⟨j, rfl, hj, ho, hb⟩ := hrel
    have HO := Lib.hid ho
    have HB := Lib.hid hb
    have hsz := hb.size
    have hal := area_take_le bs j
    clear ho hb L0
    by_cases hlt : j < n
    · have dlt : decide ((j : Int) < (n : Int)) = true := by simp; omega
      obtain ⟨r, hr⟩ : ∃ r, rs[j]? = some r := ⟨rs[j]'(by rw [HNN.out]; exact hlt), List.getElem?_eq_getElem _⟩
      have hrow := ((R0.out).below (HB.out)).row
      rw [HNN.out] at hrow
      obtain ⟨b1, o1, u1, rfl, -, hu1, g1⟩ := hrow.at1 hlt
      obtain rfl : u1 = .slice r.A r.b.length r.c := by rw [rcell_at hr] at hu1; injection hu1 with hu1; exact hu1.symm
      have hbj : bs[j]? = some r.b := by rw [HBS.out, List.getElem?_map, hr]; rfl
      have hrl := area_len_mem (List.mem_of_getElem? hbj)
      have htk := area_take hbj
      have htl := area_take_le bs (j + 1)
      have hcl : (areaS (bs.take (j + 1))).length = (areaS (bs.take j)).length + 1 + 4 + r.b.length := by rw [htk, List.length_append, recB_len]; omega
      have hcm : (areaS (bs.take (j + 1))).map byt = (areaS (bs.take j)).map byt ++ (.int .u8 1 :: ((be4 r.b.length).map byt ++ r.b.map byt)) := by rw [htk]; simp [recB, byt]
      have hne : ¬ n ≤ j := by omega
      have HMEM := Lib.hid (List.mem_of_getElem? hr)
      have HCL := Lib.hid hcl
      have HCM := Lib.hid hcm
      clear hr hrow hu1 hbj htk hcl hcm
      go_wp2_with (at_builtin; refine wpList_append_row _ rfl (.tmp 17) (.tmp 18) 32 32 rfl W1.heap.size 5 i0 (.int .u8 0) 1 1 Try.underlying32 HI.out HZ0.out HZ1.out HZ2.out rfl (by decide) _ (areaS (bs.take j)).length _ rfl ((HO.out).alloc _) (.slice (some ⟨wr.heap.size, 0, none⟩) 1 1) 1 [.int .u8 1] rfl (src_new wr Try.underlying32 [.int .u8 1] 1 1 1 5 rfl (fun u hu => by simp at hu; subst hu; rfl)) (by unfold maxLen; omega) (by omega) (by simp; omega) ?_)
      intro v2 w2 ho2 hg2
      have hb2 : Below wr.heap.size wr w2 ∨ True := .inr trivial
      have B2 := Lib.hid ((((HB.out).alloc hsz _)).trans (hg2.below (by simp; omega) (own_from HO.out)))
      have HLn := Lib.hid (length_any W1.heap.size ((areaS (bs.take j)).length + 1) v2 _ r.b.length w2 ho2 (B2.out).size (by omega) (by omega))
      have hf2 := own_from ho2
      have HF2 := Lib.hid hf2
      clear ho2 hg2 HO hb2 hf2
      go_wp2_with fail
      refine (HLn.out).mono ?_
      rintro e w3 ⟨v3, rfl, ho3, hg3⟩
      have B3 := Lib.hid ((B2.out).trans (hg3.below (B2.out).size HF2.out))
      have HO3 := Lib.hid ho3
      have hs3 := (B3.out).size
      have SR := Lib.hid (src_reads (P := Try.prog) w3 (tx := 32) Try.underlying32 r.c (((R0.out).below (B3.out)).each r (HMEM.out)).1 (byt_one r.b))
      clear HLn ho3 hg3
      go_wp2_with (at_builtin; refine wpList_append_row _ rfl (.tmp 22) (.tmp 23) 32 32 rfl W1.heap.size 5 i0 (.int .u8 0) 1 1 Try.underlying32 HI.out HZ0.out HZ1.out HZ2.out rfl (by decide) v3 ((areaS (bs.take j)).length + 1 + 4) _ rfl (HO3.out) _ r.b.length (r.b.map byt) rfl (SR.out) (by unfold maxLen; omega) (by omega) (by omega) ?_)
      intro v4 w4 ho4 hg4
      have HO4 : Hid (w4.ownsRow W1.heap.size 5 1 v4 (areaS (bs.take (j + 1))).length ((areaS (bs.take (j + 1))).map byt)) := by
        unfold Hid
        rw [HCL.out, HCM.out]
        exact ho4
      have B4 := Lib.hid ((B3.out).trans (hg4.below (B3.out).size (own_from HO3.out)))
      clear ho4 hg4 HO3 B3 SR
      go_wp2_with fail
      go_roundw
      case rel => exact ⟨j + 1, by go_num, by omega, HO4.out, B4.out⟩
      case measure => simp [intOf]; omega
    · have dlt : decide ((j : Int) < (n : Int)) = false := by simp; omega
      obtain rfl : j = n := by omega
      have htk : bs.take j = bs := List.take_of_length_le (by rw [HBS.out, List.length_map, HNN.out]; exact Nat.le_refl _)
      rw [htk] at HO
      have A1 := Lib.hid ((A0.out).below HB.out)
      obtain ⟨v1_, rs1_, hx1_⟩ := (A1.out).both.log
      have z10 := hx1_.blk.cell 0
      have z12 := hx1_.blk.cell 2
      have z15 := hx1_.blk.cell 5
      have y15 := hx1_.blk.frozen 5
      have bx1 := (A1.out).box.cell 0
      have bf1 := (A1.out).box.frozen 0
      simp at z10 z12 z15 bx1
      rw [HSB.out] at z12
      clear hx1_
      have HST := Lib.hid (start_any (A1.out).both.log (!sb))
      clear htk hal
      go_wp2_with fail
      refine (HST.out).mono ?_
      rintro e w2 ⟨rfl, rfl⟩
      clear HST
      go_wp2_with (at_builtin; refine wpList_append_row _ rfl (.tmp 34) (.tmp 35) 32 32 rfl W1.heap.size 5 i0 (.int .u8 0) 1 1 Try.underlying32 HI.out HZ0.out HZ1.out HZ2.out rfl (by decide) _ (areaS bs).length _ rfl ((HO.out).alloc _) (.slice (some ⟨wr.heap.size, 0, none⟩) 1 1) 1 [.int .u8 0] rfl (src_new wr Try.underlying32 [.int .u8 0] 1 1 1 5 rfl (fun u hu => by simp at hu; subst hu; rfl)) (by unfold maxLen; omega) (by omega) (by simp; omega) ?_)
      intro v3 w3 ho3 hg3
      obtain ⟨body, hbody⟩ : ∃ body, body = areaS bs ++ [0] := ⟨_, rfl⟩
      have hbl2 : body.length = (areaS bs).length + 1 := by rw [hbody]; simp
      have hbm : body.map byt = (areaS bs).map byt ++ [.int .u8 0] := by rw [hbody]; simp [byt]
      rw [← hbl2, ← hbm] at ho3
      have hbby : ∀ x ∈ body, x < 256 := fun x hx => by
        rw [hbody] at hx
        rcases List.mem_append.1 hx with h | h
        · exact (HBY.out) x h
        · simp at h; omega
      obtain ⟨Ac, cc, rfl, hrc, hbc⟩ := reads_of_owns ho3
      have hbB : Below W1.heap.size W1 w3 := ((HB.out).alloc hsz _).trans (hg3.below (by simp; omega) (own_from HO.out))
      have A3 := Lib.hid ((A0.out).below hbB)
      have hres := HREPL.out
      rw [← hbody, HSB.out] at hres
      have hS := store_any (startS l.half (!sb) : Nat) Ac cc body (A3.out).both.disk (A3.out).both.log (A3.out).both.apart hbby (by omega) hrc (fun _ ad ha hF => by have h1 := (hbc ad ha).1; have h2 := (A0.out).both.disk.lt _ hF; omega)
      generalize storeS s (startS l.half (!sb) : Nat) body = r2 at hS hres
      obtain ⟨x2, s2⟩ := r2
      simp only at hS hres
      have HS2 := Lib.hid hS
      have HR2 := Lib.hid hres
      clear z10 z12 z15 y15 bx1 bf1
      clear hS hres hrc hbc ho3 hg3 hbB hbm hbl2 hbby hbody HO A1 HREPL
      go_wp2_with fail
      refine (HS2.out).mono ?_
      rintro e w4 ⟨rfl, ho⟩
      obtain ⟨F2, ham2⟩ := (A3.out).op ho
      have A4 := Lib.hid ham2
      clear ho ham2 HS2 A3
      by_cases h2 : x2 = 0
      · subst h2
        have hres3 := HR2.out
        rw [if_pos rfl] at hres3
        clear HR2
        obtain ⟨v4_, rs4_, hx4_⟩ := (A4.out).both.log
        have z40 := hx4_.blk.cell 0
        have z42 := hx4_.blk.cell 2
        have z45 := hx4_.blk.cell 5
        have y45 := hx4_.blk.frozen 5
        have bx4 := (A4.out).box.cell 0
        have bf4 := (A4.out).box.frozen 0
        simp at z40 z42 z45 bx4
        rw [HSB.out] at z42
        clear hx4_
        cases sb
        · simp only [Bool.false_eq_true, if_false] at hres3
          have hS := store_any (0 : Int) (some ⟨w4.heap.size, 0, none⟩) 1 [1] ((A4.out).both.disk.alloc (.cells #[.int .u8 1] 5)) ((A4.out).both.log.below ((Below.refl _ w4).alloc (Nat.le_refl _) (.cells #[.int .u8 1] 5))) (A4.out).both.apart (by simp) (by simp) (bytes_new w4 [1]) (A4.out).both.disk.fresh
          generalize storeS s2 0 [1] = r3 at hS hres3
          obtain ⟨x3, s3⟩ := r3
          simp only [List.length_cons, List.length_nil, Nat.zero_add] at hS
          have HS3 := Lib.hid hS
          have HR3 := Lib.hid hres3
          have A5 := Lib.hid ((A4.out).below ((Below.refl _ w4).alloc (Nat.le_refl _) (.cells #[.int .u8 1] 5)))
          clear hS hres3
          go_wp2_with fail
          clear z40 z42 z45 y45 bx4 bf4
          refine (HS3.out).mono ?_
          rintro e wf ⟨rfl, ho⟩
          obtain ⟨F3, ham3⟩ := (A5.out).op ho
          have AMf := Lib.hid ham3
          clear ho ham3 HS3 A4 A5
          obtain ⟨v7_, rs7_, hx7_⟩ := (AMf.out).both.log
          have z70 := hx7_.blk.cell 0
          have z72 := hx7_.blk.cell 2
          have z75 := hx7_.blk.cell 5
          have y75 := hx7_.blk.frozen 5
          have bx7 := (AMf.out).box.cell 0
          have bf7 := (AMf.out).box.frozen 0
          simp at z70 z72 z75 bx7
          rw [HSB.out] at z72
          clear hx7_
          go_wp2_with fail
          clear z70 z72 z75 y75 bx7 bf7
          have AMg := Lib.hid ((AMf.out).put x3)
          by_cases h3 : x3 = 0
          · subst h3
            have DB := (AMg.out).box.cell 0
            simp at DB
            refine leaves_cons (f := 54) (args := #[.pointer (some ⟨g, 0, none⟩), .pointer (some ⟨w.heap.size, 0, none⟩)]) (by simp) (by simp [go_sem]) ?_
            refine (notice_no .returning DB).mono ?_
            rintro e u' w'' ⟨rfl, rfl, rfl⟩
            rw [HR3.out]
            exact ⟨_, results_box (P := Try.prog) rfl Try.underlying23 _ _ w.heap.size _ rfl DB, (AMg.out).fin0⟩
          · have DB := (AMg.out).box.cell 0
            simp at DB
            refine leaves_cons (f := 54) (args := #[.pointer (some ⟨g, 0, none⟩), .pointer (some ⟨w.heap.size, 0, none⟩)]) (by simp) (by simp [go_sem]) ?_
            obtain ⟨vD, rsD, hxD⟩ := (AMg.out).both.log
            have D5 := hxD.blk.cell 5
            have E5 := hxD.blk.frozen 5
            simp at D5
            have DN : ¬ w.heap.size = g := by omega
            refine (notice_yes .returning DB (bne_true h3) D5 E5).mono ?_
            rintro e u' w'' ⟨rfl, rfl, rfl⟩
            rw [HR3.out]
            exact ⟨_, results_box (P := Try.prog) rfl Try.underlying23 _ _ w.heap.size _ rfl ((World.cell?_setCell_other _ ⟨g, 5, none⟩ ⟨w.heap.size, 0, none⟩ _ (by intro h; injection h with h1 h2; omega)).trans DB), (AMg.out).fin1 h3⟩
        · simp only [if_true] at hres3
          have hS := store_any (0 : Int) (some ⟨w4.heap.size, 0, none⟩) 1 [0] ((A4.out).both.disk.alloc (.cells #[.int .u8 0] 5)) ((A4.out).both.log.below ((Below.refl _ w4).alloc (Nat.le_refl _) (.cells #[.int .u8 0] 5))) (A4.out).both.apart (by simp) (by simp) (bytes_new w4 [0]) (A4.out).both.disk.fresh
          generalize storeS s2 0 [0] = r3 at hS hres3
          obtain ⟨x3, s3⟩ := r3
          simp only [List.length_cons, List.length_nil, Nat.zero_add] at hS
          have HS3 := Lib.hid hS
          have HR3 := Lib.hid hres3
          have A5 := Lib.hid ((A4.out).below ((Below.refl _ w4).alloc (Nat.le_refl _) (.cells #[.int .u8 0] 5)))
          clear hS hres3
          go_wp2_with fail
          clear z40 z42 z45 y45 bx4 bf4
          refine (HS3.out).mono ?_
          rintro e wf ⟨rfl, ho⟩
          obtain ⟨F3, ham3⟩ := (A5.out).op ho
          have AMf := Lib.hid ham3
          clear ho ham3 HS3 A4 A5
          obtain ⟨v7_, rs7_, hx7_⟩ := (AMf.out).both.log
          have z70 := hx7_.blk.cell 0
          have z72 := hx7_.blk.cell 2
          have z75 := hx7_.blk.cell 5
          have y75 := hx7_.blk.frozen 5
          have bx7 := (AMf.out).box.cell 0
          have bf7 := (AMf.out).box.frozen 0
          simp at z70 z72 z75 bx7
          rw [HSB.out] at z72
          clear hx7_
          go_wp2_with fail
          clear z70 z72 z75 y75 bx7 bf7
          have AMg := Lib.hid ((AMf.out).put x3)
          by_cases h3 : x3 = 0
          · subst h3
            have DB := (AMg.out).box.cell 0
            simp at DB
            refine leaves_cons (f := 54) (args := #[.pointer (some ⟨g, 0, none⟩), .pointer (some ⟨w.heap.size, 0, none⟩)]) (by simp) (by simp [go_sem]) ?_
            refine (notice_no .returning DB).mono ?_
            rintro e u' w'' ⟨rfl, rfl, rfl⟩
            rw [HR3.out]
            exact ⟨_, results_box (P := Try.prog) rfl Try.underlying23 _ _ w.heap.size _ rfl DB, (AMg.out).fin0⟩
          · have DB := (AMg.out).box.cell 0
            simp at DB
            refine leaves_cons (f := 54) (args := #[.pointer (some ⟨g, 0, none⟩), .pointer (some ⟨w.heap.size, 0, none⟩)]) (by simp) (by simp [go_sem]) ?_
            obtain ⟨vD, rsD, hxD⟩ := (AMg.out).both.log
            have D5 := hxD.blk.cell 5
            have E5 := hxD.blk.frozen 5
            simp at D5
            have DN : ¬ w.heap.size = g := by omega
            refine (notice_yes .returning DB (bne_true h3) D5 E5).mono ?_
            rintro e u' w'' ⟨rfl, rfl, rfl⟩
            rw [HR3.out]
            exact ⟨_, results_box (P := Try.prog) rfl Try.underlying23 _ _ w.heap.size _ rfl ((World.cell?_setCell_other _ ⟨g, 5, none⟩ ⟨w.heap.size, 0, none⟩ _ (by intro h; injection h with h1 h2; omega)).trans DB), (AMg.out).fin1 h3⟩
      · have hres3 := HR2.out
        rw [if_neg h2] at hres3
        replace hres3 := Lib.hid hres3
        have dx := bne_true h2
        clear HR2
        obtain ⟨v6_, rs6_, hx6_⟩ := (A4.out).both.log
        have z60 := hx6_.blk.cell 0
        have z62 := hx6_.blk.cell 2
        have z65 := hx6_.blk.cell 5
        have y65 := hx6_.blk.frozen 5
        have bx6 := (A4.out).box.cell 0
        have bf6 := (A4.out).box.frozen 0
        simp at z60 z62 z65 bx6
        rw [HSB.out] at z62
        clear hx6_
        go_wp2_with fail
        clear z60 z62 z65 y65 bx6 bf6
        have AMg := Lib.hid ((A4.out).put x2)
        have DB := (AMg.out).box.cell 0
        simp at DB
        refine leaves_cons (f := 54) (args := #[.pointer (some ⟨g, 0, none⟩), .pointer (some ⟨w.heap.size, 0, none⟩)]) (by simp) (by simp [go_sem]) ?_
        obtain ⟨vD, rsD, hxD⟩ := (AMg.out).both.log
        have D5 := hxD.blk.cell 5
        have E5 := hxD.blk.frozen 5
        simp at D5
        have DN : ¬ w.heap.size = g := by omega
        refine (notice_yes .returning DB (bne_true h2) D5 E5).mono ?_
        rintro e u' w'' ⟨rfl, rfl, rfl⟩
        rw [hres3.out]
        exact ⟨_, results_box (P := Try.prog) rfl Try.underlying23 _ _ w.heap.size _ rfl ((World.cell?_setCell_other _ ⟨g, 5, none⟩ ⟨w.heap.size, 0, none⟩ _ (by intro h; injection h with h1 h2; omega)).trans DB), (AMg.out).fin1 h2⟩
end Go.Proofs.Ytnjafhlpnoikcaa
