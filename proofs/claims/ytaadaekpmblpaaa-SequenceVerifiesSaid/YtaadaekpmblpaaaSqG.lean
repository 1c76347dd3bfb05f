/-
  Align: proper arguments. No condition.
-/
import Derived.Test.YtaadaekpmblpaaaSqF
namespace Go.Proofs.Ytaadaekpmblpaaa
open Go.RowKit
set_option linter.unusedVariables false

set_option maxRecDepth 100000 in
set_option maxHeartbeats 400000 in
theorem reverse_nil (c : Nat) (w : World) : Calls Try.prog 23 #[.slice none 0 c] w fun e w' => e = .returned (.tuple #[]) ∧ w = w' := by
  go_enter Try.func23, Try.ntmps23
  go_wp2_with fail
  refine wp_loop_once ?_
  go_wp2_with fail
  go_end0
  exact ⟨rfl, rfl⟩

def RevAll (w : World) (ps : List (Int × Int)) (A : Option Addr) (e : Ending) (w' : World) : Prop := e = .returned (.tuple #[]) ∧ Prs w' w'.heap.size A ps.length ps.reverse ∧ w.grownBy w' (A.map (·.block)) ∧ w'.heap.size = w.heap.size
theorem reverse_own {w : World} {base c : Nat} {A : Option Addr} {ps : List (Int × Int)} (h : w.ownsRow base 45 2 (.slice A ps.length c) ps.length (ps.flatMap pcells)) (hn : ps.length ≤ 1000000) :
    Calls Try.prog 23 #[.slice A ps.length c] w (RevAll w ps A) := by
  rcases h.2 with ⟨h0, hl⟩ | ⟨g, cap, cur, hv, _⟩
  · injection h0 with h0 h1 h2
    subst h0
    have : ps = [] := List.eq_nil_of_length_eq_zero hl
    subst this
    exact (reverse_nil c w).mono fun e w' ⟨he, hw⟩ => by subst hw; exact ⟨he, ⟨by simp, fun h => absurd h (by simp)⟩, World.grownBy.refl _ _, rfl⟩
  · injection hv with hv
    subst hv
    obtain ⟨rest, hpr⟩ := pr_of_owns h
    exact (reverse_any g ps.length c _ rest w hn hpr).mono fun e w' ⟨he, h1, h2, h3⟩ => ⟨he, by have := prs_of_pr (c := c) h1; rwa [rev_list] at this, h2, h3⟩

theorem back_eq1 {drop add : List Int} {cost : List (List Int)} {i j : Nat} (h : 0 ≤ pget cost i j) (he : potF drop add cost (i + 1) (j + 1) = potF drop add cost i j + pget cost i j) : backF drop add cost (i + 1) (j + 1) = ((i : Int), (j : Int)) :: backF drop add cost i j := by
  rw [backF.eq_4, if_pos ⟨h, he⟩]
theorem back_eq2 {drop add : List Int} {cost : List (List Int)} {i j : Nat} (h : ¬ (0 ≤ pget cost i j ∧ potF drop add cost (i + 1) (j + 1) = potF drop add cost i j + pget cost i j)) (he : potF drop add cost (i + 1) (j + 1) = potF drop add cost i (j + 1) + drop.getD i 0) : backF drop add cost (i + 1) (j + 1) = backF drop add cost i (j + 1) := by
  rw [backF.eq_4, if_neg h, if_pos he]
theorem back_eq3 {drop add : List Int} {cost : List (List Int)} {i j : Nat} (h : ¬ (0 ≤ pget cost i j ∧ potF drop add cost (i + 1) (j + 1) = potF drop add cost i j + pget cost i j)) (he : ¬ potF drop add cost (i + 1) (j + 1) = potF drop add cost i (j + 1) + drop.getD i 0) : backF drop add cost (i + 1) (j + 1) = backF drop add cost (i + 1) j := by
  rw [backF.eq_4, if_neg h, if_neg he]

theorem Reads.other {w : World} {B size n : Nat} {A : Option Addr} {xs : List Value} (h : Reads w B size A n xs) {p : Addr} (ha : ∀ a, A = some a → a.block ≠ p.block) (u : Value) : Reads (w.setCell p u) B size A n xs :=
  ⟨h.1, fun hn => by
    obtain ⟨ad, e, hb, hc⟩ := h.2 hn
    refine ⟨ad, e, hb, fun j v hv => ?_⟩
    rw [World.cell?_setCell_other w p _ u (fun e' => ha ad e (by rw [e', block_of_add]))]
    exact hc j v hv⟩
theorem Made.other {w : World} {g m n : Nat} {bs : List Nat} {f : Nat → Nat → Int} (h : Made w g m n bs f) {p : Addr} (hp : p.block < g) (u : Value) : Made (w.setCell p u) g m n bs f :=
  ⟨h.head.far (by omega) u, fun k b hk => (h.row k b hk).far (by have := h.up b (List.mem_of_getElem? hk); omega) u, h.up, h.sep, h.le⟩

/-- what stands behind the loop -/
theorem al_done {w1 wr : World} {drop add : List Int} {cost : List (List Int)} {v : Value} (hd : drop.length ≤ 400)
    (hb : BackSt w1 wr drop add cost v 0 0) : ∃ A c, v = .slice A (alignL drop add cost).length c ∧ (∀ a, A = some a → w1.heap.size ≤ a.block) ∧
      Calls Try.prog 23 #[v] wr fun e w2 => e = .returned (.tuple #[]) ∧ Prs w2 w2.heap.size A (alignL drop add cost).length (alignL drop add cost) ∧ Below w1.heap.size w1 w2 := by
  obtain ⟨hb1, ps, hb2, hb3, hb4⟩ := hb
  obtain ⟨A, c, rfl, hr, ha⟩ := reads_of_owns hb2
  have e : alignL drop add cost = ps.reverse := by
    unfold alignL
    rw [hb3, backF]; simp
  have el : (alignL drop add cost).length = ps.length := by rw [e]; simp
  refine ⟨A, c, by rw [el], fun a h => (ha a h).1, ?_⟩
  refine (reverse_own hb2 (by omega)).mono fun e' w2 ⟨he, h2, h3, h4⟩ => ⟨he, by rw [el, e]; exact h2, ?_⟩
  refine hb1.trans ((Below.refl _ _).grown h3 hb1.size (fun g hg => ?_))
  cases A with
  | none => simp at hg
  | some a => simp at hg; subst hg; exact (ha a rfl).1

theorem al_end {w wa w1 w2 : World} {drop add : List Int} {cost : List (List Int)} {A : Option Addr} {c g n m : Nat} {bs : List Nat} {o : Obj} {x : Int} (hwa : wa = w.alloc o) (hbe : Below wa.heap.size wa w1) (hm : Made w1 g (n + 1) (m + 1) bs (potF drop add cost)) (hbs : bs.length = n + 1) (hg : wa.heap.size ≤ g)
    (hn : drop.length = n) (hm' : add.length = m) (ha : ∀ a, A = some a → w1.heap.size ≤ a.block) (hpr : Prs w2 w2.heap.size A (alignL drop add cost).length (alignL drop add cost)) (hb2 : Below w1.heap.size w1 w2) (hx : x = potF drop add cost n m) (v0 v1 v2 : Value) :
    AlPost w drop add cost (.returned (.tuple #[.agg #[.slice A (alignL drop add cost).length c, .int .i64 x, .slice (some ⟨g, 0, none⟩) (n + 1) (n + 1)], .int .i64 0])) (((w2.setCell ⟨w.heap.size, 0, none⟩ v0).setCell ⟨w.heap.size, 1, none⟩ v1).setCell ⟨w.heap.size, 2, none⟩ v2) := by
  subst hn hm' hx
  have hs1 : w.heap.size < wa.heap.size := by rw [hwa]; simp
  have hs2 := hbe.size
  have hlt : ∀ a, A = some a → a.block ≠ w.heap.size := fun a h => by have := ha a h; omega
  refine ⟨A, _, c, g, bs, rfl, ?_, ((((hm.more hb2).other (p := ⟨w.heap.size, 0, none⟩) (by show w.heap.size < g; omega) _).other (p := ⟨w.heap.size, 1, none⟩) (by show w.heap.size < g; omega) _).other (p := ⟨w.heap.size, 2, none⟩) (by show w.heap.size < g; omega) _), hbs, ?_, by omega⟩
  · have h := ((hpr.other (p := ⟨w.heap.size, 0, none⟩) hlt v0).other (p := ⟨w.heap.size, 1, none⟩) hlt v1).other (p := ⟨w.heap.size, 2, none⟩) hlt v2
    simpa [World.setCell] using h
  · have h0 : Below w.heap.size w w2 := ((by rw [hwa]; exact (Below.refl _ w).alloc (Nat.le_refl _) _ : Below w.heap.size w wa).trans (hbe.mono (by omega))).trans (hb2.mono (by omega))
    exact ((h0.setCell (p := ⟨w.heap.size, 0, none⟩) (Nat.le_refl _) _).setCell (p := ⟨w.heap.size, 1, none⟩) (Nat.le_refl _) _).setCell (p := ⟨w.heap.size, 2, none⟩) (Nat.le_refl _) _

set_option maxRecDepth 100000 in
set_option maxHeartbeats 4000000 in
theorem align_yes (A1 : Option Addr) (n1 c1 : Nat) (A2 : Option Addr) (n2 c2 : Nat) (A3 : Option Addr) (n3 c3 : Nat) (drop add : List Int) (cost : List (List Int)) (w : World)
    (h : Three w w.heap.size A1 n1 A2 n2 A3 n3 drop add cost) (hp : properL drop add cost = true) :
    Calls Try.prog 11 #[.slice A1 n1 c1, .slice A2 n2 c2, .slice A3 n3 c3] w (AlPost w drop add cost) := by
  obtain ⟨o, ho⟩ : ∃ o, o = Obj.cells #[.slice none 0 0, .int .i64 0, .slice none 0 0] 28 := ⟨_, rfl⟩
  have HP := Lib.hid (proper_any A1 n1 c1 A2 n2 c2 A3 n3 c3 _ drop add cost _ (h.alloc o))
  have HQ := Lib.hid (potentials_any A1 n1 c1 A2 n2 c2 A3 n3 c3 drop add cost _ (h.alloc o) hp)
  have HK : Hid (Blk (w.alloc o) w.heap.size 28 #[.slice none 0 0, .int .i64 0, .slice none 0 0]) := by subst ho; exact Blk.new _ _ _
  have HT := Lib.hid (h.alloc o)
  rw [hp] at HP
  obtain ⟨wa, hwa⟩ : ∃ wa, wa = w.alloc o := ⟨_, rfl⟩
  have hsa : w.heap.size < wa.heap.size := by rw [hwa]; simp
  rw [← hwa] at HP HQ HK HT
  have HW := Lib.hid hwa
  have HO := Lib.hid ho
  obtain ⟨p1, p2, p3, p4, p5, p6⟩ := proper_parts hp
  have e1 := h.d.len
  have e2 := h.a.len
  have e3 := h.c.len
  rw [e1] at p1
  rw [e2] at p2
  have hn3 : n3 = n1 := by omega
  subst hn3
  have HB := Lib.hid (potF_bounds p4 p5 (proper_le hp))
  have HP4 := Lib.hid p4
  have HP5 := Lib.hid p5
  have HP6 := Lib.hid p6
  have HE1 := Lib.hid e1
  have HE2 := Lib.hid e2
  obtain ⟨i0, hi, hz0, hz1, hz2⟩ := info_parts pair_info
  have HI := Lib.hid hi
  have HZ0 := Lib.hid hz0
  have HZ1 := Lib.hid hz1
  have HZ2 := Lib.hid hz2
  clear h hp ho hwa p3 p4 p5 p6 e1 e2 e3 hi hz0 hz1 hz2
  go_enter Try.func11, Try.ntmps11
  go_wp2_with fail
  rw [← HO.out, ← HW.out]
  refine (HP.out).mono ?_
  rintro e w1 ⟨rfl, rfl⟩
  go_wp2_with fail
  refine (HQ.out).mono ?_
  rintro e w1 ⟨g, bs, rfl, hmade, hbs, hbe, hg⟩
  have HMD := Lib.hid hmade
  have HBS := Lib.hid hbs
  have HBE := Lib.hid hbe
  have HBT : Hid (BackSt w1 w1 drop add cost (.slice none 0 0) n3 n2) := by
    have := BackSt.start w1 drop add cost
    rw [HE1.out, HE2.out] at this
    exact this
  clear hmade hbs hbe HP HQ
  go_wp2_with fail
  go_loopw [11, 12, 13] (fun v s t wr => ∃ (i j : Nat), i ≤ n3 ∧ j ≤ n2 ∧ s = .int .i64 (i : Int) ∧ t = .int .i64 (j : Int) ∧ Hid (BackSt w1 wr drop add cost v i j)) (fun _ s t _ => (intOf s).toNat + (intOf t).toNat)
  case atStart => exact ⟨n3, n2, by omega, by omega, rfl, rfl, HBT⟩
  case round =>
    clear HBT
    obtain ⟨i, j, hi, hj, rfl, rfl, HS⟩ := hrel
    rcases Nat.eq_zero_or_pos i with h0 | h0
    · subst h0
      rcases Nat.eq_zero_or_pos j with h1 | h1
      · subst h1
        obtain ⟨A, c, rfl, ha, hcall⟩ := al_done (by rw [HE1.out]; exact p1) HS.out
        have HC := Lib.hid hcall
        have HA := Lib.hid ha
        obtain ⟨np, hnp⟩ : ∃ np, np = (alignL drop add cost).length := ⟨_, rfl⟩
        have HNP := Lib.hid hnp
        rw [← hnp] at HC
        rw [← hnp]
        clear hcall ha hnp HS
        go_wp2_with fail
        refine (HC.out).mono ?_
        rintro e w2 ⟨rfl, hpr, hb2⟩
        have hblk := (HK.out.below HBE.out hsa).below hb2 (by have := HBE.out.size; omega)
        have a0 := hblk.cell 0
        have a1 := hblk.cell 1
        have a2 := hblk.cell 2
        simp at a0 a1 a2
        have f0 := hblk.frozen 0
        have f1 := hblk.frozen 1
        have f2 := hblk.frozen 2
        obtain ⟨b9, r9, c9, -⟩ := (HMD.out.more hb2).cells (k := n3) (j := n2) (by rw [HBS.out]; omega) (by omega)
        obtain ⟨x, hx⟩ : ∃ x, potF drop add cost n3 n2 = x := ⟨_, rfl⟩
        rw [hx] at c9
        have HF := Lib.hid (al_end (c := c) HW.out HBE.out HMD.out HBS.out hg HE1.out HE2.out HA.out (by rw [← HNP.out]; exact hpr) hb2 hx.symm)
        rw [← HNP.out] at HF
        clear hpr hb2 hblk hx HC
        go_wp2_with fail
        exact bodyPost_end (v := .tuple #[.agg #[.slice A np c, .int .i64 x, .slice (some ⟨g, 0, none⟩) (n3 + 1) (n3 + 1)], .int .i64 0]) (by simp [results, Try.results11, go_sem, a0, a1, a2]) rfl (HF.out _ _ _)
      · obtain ⟨j', rfl⟩ : ∃ j', j = j' + 1 := ⟨j - 1, by omega⟩
        have HS2 := Lib.hid (fun d => (HS.out.drewN d).to (i' := 0) (j' := j') (by rw [backF]) (Nat.le_refl _))
        clear HS h1
        go_wp2_with fail
        go_quiet (fail)
        go_wp2_with fail
        go_quiet (fail)
        go_wp2_with fail
        go_roundw
        case rel => exact ⟨0, j', by omega, by omega, rfl, rfl, HS2.out _⟩
        case measure => simp [intOf] <;> omega
    · obtain ⟨i', rfl⟩ : ∃ i', i = i' + 1 := ⟨i - 1, by omega⟩
      have hmr := HMD.out.more HS.out.1
      have h3r := (HT.out.below HBE.out).below (HS.out.1.mono HBE.out.size)
      obtain ⟨bd, od, xd, rfl, hbd, hxd, hcd⟩ := Ints.at_ (k := i') h3r.d (by omega)
      have bx := inside_at HP4.out hxd
      obtain ⟨bd1, bd2⟩ := bx
      rcases Nat.eq_zero_or_pos j with h1 | h1
      · subst h1
        have HS2 := Lib.hid (fun d => (HS.out.drewN d).to (i' := i') (j' := 0) (by rw [backF]) (by omega))
        obtain ⟨b0, r0, c0, k0⟩ := hmr.cells (k := i') (j := 0) (by rw [HBS.out]; omega) (by omega)
        obtain ⟨b1, r1, c1, k1⟩ := hmr.cells (k := i' + 1) (j := 0) (by rw [HBS.out]; omega) (by omega)
        have bp := HB.out i' 0 (by have := HE1.out; omega) (by omega)
        have he : potF drop add cost (i' + 1) 0 = potF drop add cost i' 0 + xd := by rw [potF.eq_3, getD_of hxd]
        rw [he] at c1
        obtain ⟨y, hy⟩ : ∃ y, potF drop add cost i' 0 = y := ⟨_, rfl⟩
        rw [hy] at c0 c1 bp
        have bp1 := bp.1
        have bp3 : y ≤ 1000000000 := by omega
        clear HS hmr h3r hxd k0 k1 bp h0 hy he
        go_wp2_with fail
        go_quiet (fail)
        go_wp2_with fail
        go_quiet (fail)
        go_wp2_with fail
        go_roundw
        case rel => exact ⟨i', 0, by omega, by omega, by go_num, rfl, HS2.out _⟩
        case measure => simp [intOf] <;> omega
      · obtain ⟨j', rfl⟩ : ∃ j', j = j' + 1 := ⟨j - 1, by omega⟩
        obtain ⟨bc, oc, Ac, nc, cc, rc, hAc, hbc, hxc, hcc, hrowc⟩ := h3r.c.row (k := i') (by omega)
        subst hAc
        have hrc := HP6.out rc (List.mem_of_getElem? hxc)
        have hrn := hrowc.len
        obtain rfl : nc = n2 := by have := HE2.out; omega
        obtain ⟨be, oe, xe, hAe, hbe, hxe, hce⟩ := Ints.at_ (k := j') hrowc (by omega)
        subst hAe
        obtain ⟨be1, be2⟩ := inside_at hrc.2 hxe
        obtain ⟨b0, r0, c0, k0⟩ := hmr.cells (k := i') (j := j') (by rw [HBS.out]; omega) (by omega)
        obtain ⟨b0', r0', c1, k0'⟩ := hmr.cells (k := i') (j := j' + 1) (by rw [HBS.out]; omega) (by omega)
        obtain rfl : b0 = b0' := by rw [k0] at k0'; injection k0'
        obtain ⟨b1, r1, c2, k1⟩ := hmr.cells (k := i' + 1) (j := j' + 1) (by rw [HBS.out]; omega) (by omega)
        have bp := HB.out i' j' (by have := HE1.out; omega) (by have := HE2.out; omega)
        have bq := HB.out i' (j' + 1) (by have := HE1.out; omega) (by have := HE2.out; omega)
        have q1 := back_eq1 (drop := drop) (add := add) (cost := cost) (i := i') (j := j')
        have q2 := back_eq2 (drop := drop) (add := add) (cost := cost) (i := i') (j := j')
        have q3 := back_eq3 (drop := drop) (add := add) (cost := cost) (i := i') (j := j')
        rw [pget_of hxc hxe] at q1 q2 q3
        rw [getD_of hxd] at q2 q3
        obtain ⟨y0, hy0⟩ : ∃ y, potF drop add cost i' j' = y := ⟨_, rfl⟩
        obtain ⟨y1, hy1⟩ : ∃ y, potF drop add cost i' (j' + 1) = y := ⟨_, rfl⟩
        obtain ⟨y2, hy2⟩ : ∃ y, potF drop add cost (i' + 1) (j' + 1) = y := ⟨_, rfl⟩
        rw [hy0] at c0 bp q1 q2 q3
        rw [hy1] at c1 bq q2 q3
        rw [hy2] at c2 q1 q2 q3
        have bp1 := bp.1
        have bq1 := bq.1
        have bp3 : y0 ≤ 1000000000 := by omega
        have bq3 : y1 ≤ 1000000000 := by omega
        have Q1 := Lib.hid q1
        have Q2 := Lib.hid q2
        have Q3 := Lib.hid q3
        clear hmr h3r hxd hxe hxc hrc hrn hrowc k0 k1 k0' r0' bp bq h0 h1 hy0 hy1 hy2 q1 q2 q3
        by_cases hA : 0 ≤ xe ∧ y2 = y0 + xe
        · obtain ⟨hA1, rfl⟩ := hA
          have hq := Lib.hid (Q1.out hA1 rfl)
          have dxe : decide (0 ≤ xe) = true := by simpa using hA1
          obtain ⟨hs1, ps, hs2, hs3, hs4⟩ := HS.out
          have HS1 := Lib.hid hs1
          have HS2 := Lib.hid hs2
          have HS3 := Lib.hid hs3
          have hszr := hs1.size
          have hd400 : drop.length ≤ 400 := by rw [HE1.out]; exact p1
          have hps : ps.length ≤ 400 := by omega
          clear HS hs1 hs2 hs3 Q1 Q2 Q3
          go_wp2_with fail
          go_quiet (fail)
          go_wp2_with (at_builtin; refine wpList_append_row _ rfl (.tmp 90) (.tmp 94) 26 26 rfl w1.heap.size 45 i0 (.agg #[.int .i64 0, .int .i64 0]) 2 16 Try.underlying26 HI.out HZ0.out HZ1.out HZ2.out rfl (by decide) _ ps.length (ps.flatMap pcells) rfl ((owns_drewN HS2.out _).alloc _) (.slice (some ⟨wr.heap.size, 0, none⟩) 1 1) 1 [.int .i64 (i' : Int), .int .i64 (j' : Int)] rfl (src_new (wr.drewN nq) Try.underlying26 [.int .i64 (i' : Int), .int .i64 (j' : Int)] 2 1 1 45 rfl ?c4) ?c1 ?c2 ?c3 ?_)
          case c4 => intro u hu; simp at hu; rcases hu with rfl | rfl <;> rfl
          case c1 => unfold maxLen; omega
          case c2 => omega
          case c3 => simp; omega
          intro v3 w3 hown3 hg3
          have HS4 : Hid (BackSt w1 w3 drop add cost v3 i' j') := BackSt.push (below_drewN HS1.out _) (owns_drewN HS2.out _) HS3.out hs4 hq.out hown3 hg3
          clear hown3 hg3 HS1 HS2 HS3 hq
          go_wp2_with fail
          go_roundw
          case rel => exact ⟨i', j', by omega, by omega, by go_num, by go_num, HS4⟩
          case measure => simp [intOf] <;> omega
        · by_cases hB : y2 = y1 + xd
          · subst hB
            have HS2 := Lib.hid (fun d => (HS.out.drewN d).to (Q2.out hA rfl) (by omega))
            clear HS Q1 Q2 Q3
            by_cases hx : 0 ≤ xe
            · have dxe : decide (0 ≤ xe) = true := by simpa using hx
              have dq : (y1 + xd == y0 + xe) = false := by simp; omega
              clear hA
              go_wp2_with fail
              go_quiet (fail)
              go_wp2_with fail
              go_quiet (fail)
              go_wp2_with fail
              go_roundw
              case rel => exact ⟨i', j' + 1, by omega, by omega, by go_num, rfl, HS2.out _⟩
              case measure => simp [intOf] <;> omega
            · have dxe : decide (0 ≤ xe) = false := by simpa using hx
              clear hA
              go_wp2_with fail
              go_quiet (fail)
              go_wp2_with fail
              go_quiet (fail)
              go_wp2_with fail
              go_roundw
              case rel => exact ⟨i', j' + 1, by omega, by omega, by go_num, rfl, HS2.out _⟩
              case measure => simp [intOf] <;> omega
          · have HS2 := Lib.hid (fun d => (HS.out.drewN d).to (Q3.out hA hB) (by omega))
            have dr : (y2 == y1 + xd) = false := by simpa using hB
            clear HS Q1 Q2 Q3
            by_cases hx : 0 ≤ xe
            · have dxe : decide (0 ≤ xe) = true := by simpa using hx
              have dq : (y2 == y0 + xe) = false := by simp; omega
              clear hA
              go_wp2_with fail
              go_quiet (fail)
              go_wp2_with fail
              go_quiet (fail)
              go_wp2_with fail
              go_roundw
              case rel => exact ⟨i' + 1, j', by omega, by omega, rfl, by go_num, HS2.out _⟩
              case measure => simp [intOf] <;> omega
            · have dxe : decide (0 ≤ xe) = false := by simpa using hx
              clear hA
              go_wp2_with fail
              go_quiet (fail)
              go_wp2_with fail
              go_quiet (fail)
              go_wp2_with fail
              go_roundw
              case rel => exact ⟨i' + 1, j', by omega, by omega, rfl, by go_num, HS2.out _⟩
              case measure => simp [intOf] <;> omega
end Go.Proofs.Ytaadaekpmblpaaa
