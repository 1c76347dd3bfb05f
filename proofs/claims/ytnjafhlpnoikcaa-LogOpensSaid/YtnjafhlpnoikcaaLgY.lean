/-
  Reset: all records replaced. No condition.
-/
import Derived.Test.YtnjafhlpnoikcaaLgX
namespace Go.Proofs.Ytnjafhlpnoikcaa
open Go.RowKit
set_option linter.unusedVariables false

theorem area_few (bs : List (List Nat)) : 5 * bs.length ≤ (areaS bs).length := by
  induction bs with
  | nil => exact Nat.zero_le _
  | cons x r ih => rw [areaS_cons, List.length_append, recB_len, List.length_cons]; omega
theorem area_most {bs : List (List Nat)} {m : Nat} (h : ∀ b ∈ bs, b.length ≤ m) : (areaS bs).length ≤ bs.length * (5 + m) := by
  induction bs with
  | nil => exact Nat.zero_le _
  | cons x r ih =>
    have h1 := h x List.mem_cons_self
    have h2 := ih (fun b hb => h b (List.mem_cons_of_mem _ hb))
    rw [areaS_cons, List.length_append, recB_len, List.length_cons, Nat.add_mul]
    omega

theorem log_reset {wq w2 : World} {g d : Nat} {l : LS} {v : Value} {rs0 rs rs' : List Rc} {K : Nat → Prop} {L n : Nat} (h : LogX wq g d l v rs0 K) (hC : CpR (wq.setCell ⟨g, 2, none⟩ (.bool (!l.second))) w2 rs rs' rs.length) (hn : rs.length = n) (hnm : n ≤ 1000000)
    (hL : L = (areaS (rs.map (·.b))).length) (hroom : L + 1 ≤ l.half) (hby : ∀ r ∈ rs, ∀ x ∈ r.b, x < 256) :
    LogX ((w2.setCell ⟨g, 4, none⟩ (.slice (some ⟨wq.heap.size, 0, none⟩) n n)).setCell ⟨g, 3, none⟩ (.int .i64 (L : Int))) g d { l with second := !l.second, recs := rs.map (·.b), fin := L } (.slice (some ⟨wq.heap.size, 0, none⟩) n n) rs' (fun i => K i ∨ (wq.heap.size ≤ i ∧ i < w2.heap.size)) ∧
    Chg wq ((w2.setCell ⟨g, 4, none⟩ (.slice (some ⟨wq.heap.size, 0, none⟩) n n)).setCell ⟨g, 3, none⟩ (.int .i64 (L : Int))) K := by
  have hgl := h.lt g h.kg
  have hs1 : (wq.setCell ⟨g, 2, none⟩ (.bool (!l.second))).heap.size = wq.heap.size := by simp [World.setCell]
  have hblk := hC.blk
  have hbel := hC.bel
  have hgood := hC.good
  rw [hs1] at hblk hbel hgood
  have hs2 := hbel.size
  rw [hs1] at hs2
  have hlen : rs'.length = n := hC.len.trans hn
  rw [Nat.sub_self, List.replicate_zero, List.append_nil] at hblk
  have hblk1 := h.blk.set_ 2 (.bool (!l.second))
  have hblk2 := hblk1.below hbel hgl
  have hblk3 := (hblk2.set_ 4 (.slice (some ⟨wq.heap.size, 0, none⟩) n n)).set_ 3 (.int .i64 (L : Int))
  have hsF : ((w2.setCell ⟨g, 4, none⟩ (.slice (some ⟨wq.heap.size, 0, none⟩) n n)).setCell ⟨g, 3, none⟩ (.int .i64 (L : Int))).heap.size = w2.heap.size := by simp [World.setCell]
  have hkeep : ∀ i, i ≠ g → ((w2.setCell ⟨g, 4, none⟩ (.slice (some ⟨wq.heap.size, 0, none⟩) n n)).setCell ⟨g, 3, none⟩ (.int .i64 (L : Int))).heap[i]? = w2.heap[i]? := fun i hne =>
    (Below.heap_setCell _ _ _ i (by show i ≠ g; exact hne)).trans (Below.heap_setCell _ _ _ i (by show i ≠ g; exact hne))
  have hmap : rs'.map (·.b) = rs.map (·.b) := by
    have := hC.same
    rwa [List.take_of_length_le (by simp)] at this
  have hbl := hblk.lt
  refine ⟨⟨hblk3, ⟨by rw [rcell_len]; simp, .inr ⟨wq.heap.size, n, _, by rw [hlen], Nat.zero_le _, (hkeep _ (by omega)).trans hblk, by rw [hlen]; exact Nat.le_refl _, by unfold maxLen; omega, ?_, ?_⟩⟩, hmap, fun r hr => ⟨?_, fun hn ad ha => ?_⟩, .inl h.kg, fun b hb => ?_, fun b hb => ?_, h.half, by show L ≤ l.half; omega, ?_, fun b hb => ?_, fun b hb => ?_⟩, ?_⟩
  · rw [List.size_toArray, rcell_len, hlen, Nat.mul_one]
  · exact List.take_of_length_le (by rw [rcell_len]; omega)
  · obtain ⟨k1, k2⟩ := hgood r hr
    refine read_keep k1 (by rw [hsF]; exact Nat.le_refl _) (fun hn ad ha => hkeep _ ?_)
    have := k2 hn ad ha
    omega
  · obtain ⟨k1, k2⟩ := hgood r hr
    have l1 := k2 hn ad ha
    have l2 := k1.at_block hn ad ha
    refine ⟨.inr ⟨by omega, l2⟩, fun e => ?_, by omega⟩
    have : wq.heap.size = ad.block := by simpa [Value.ownBlock] using e
    omega
  · have : wq.heap.size = b := by simpa [Value.ownBlock] using hb
    exact .inr ⟨by omega, by omega⟩
  · rw [hsF]
    rcases hb with hb | hb
    · have := h.lt b hb; omega
    · exact hb.2
  · rw [hL]
    exact area_few _
  · obtain ⟨r, hr, rfl⟩ := List.mem_map.1 hb
    exact hby r hr
  · have hb' : b ∈ rs.map (·.b) := hb
    have := area_len_mem hb'
    have := h.half
    omega
  · have c1 : Chg wq (wq.setCell ⟨g, 2, none⟩ (.bool (!l.second))) K := (Chg.refl wq K).setCell (p := ⟨g, 2, none⟩) (.inl h.kg) _
    have c2 : Chg wq w2 K := ⟨hbel.os.trans c1.os, hbel.tape.trans c1.tape, hbel.output.trans c1.output, hs2, fun i hi hn => (hbel.block i hi).trans (c1.block i hi hn)⟩
    exact (c2.setCell (p := ⟨g, 4, none⟩) (.inl h.kg) _).setCell (p := ⟨g, 3, none⟩) (.inl h.kg) _

set_option maxRecDepth 100000 in
set_option maxHeartbeats 2000000 in
theorem reset_any {w : World} {g d : Nat} {s : DS} {l : LS} {F K : Nat → Prop} {A : Option Addr} {c : Nat} {rs : List Rc} (h : Both w g d s l F K) (hn : rs.length ≤ 100) (hsm : ∀ r ∈ rs, r.b.length ≤ 1000) (hr : RcA w (fun i => F i ∨ K i) A rs) :
    Calls Try.prog 23 #[.pointer (some ⟨g, 0, none⟩), .slice A rs.length c] w (AppPost w g d F K (resetS s l (rs.map (·.b)))) := by
  obtain ⟨bs, hbs⟩ : ∃ bs, bs = rs.map (·.b) := ⟨_, rfl⟩
  obtain ⟨n, hnn⟩ : ∃ n, rs.length = n := ⟨_, rfl⟩
  have hres : resetS s l bs = if l.dead then (15, s, l) else if l.half < (areaS bs).length + 1 then (17, s, l) else if (replS s l bs).1 = 0 then (0, (replS s l bs).2, { l with second := !l.second, recs := bs, fin := (areaS bs).length }) else ((replS s l bs).1, (replS s l bs).2, { l with dead := true }) := rfl
  have hmost : (areaS bs).length ≤ 100500 := by
    have h1 := area_most (bs := bs) (m := 1000) (fun b hb => by
      rw [hbs] at hb
      obtain ⟨r, hr1, rfl⟩ := List.mem_map.1 hb
      exact hsm r hr1)
    have h2 : bs.length = n := by rw [hbs, List.length_map, hnn]
    rw [h2] at h1
    have h3 : n * (5 + 1000) ≤ 100 * (5 + 1000) := Nat.mul_le_mul_right _ (by omega)
    omega
  rw [← hbs, hnn]
  rw [hnn] at hn
  obtain ⟨v0, rs0, hx0⟩ := h.log
  have c1 := hx0.blk.cell 1
  have c5 := hx0.blk.cell 5
  have hhalf := hx0.half
  simp at c1 c5
  have HNN := Lib.hid hnn
  have HBS := Lib.hid hbs
  have HS := Lib.hid h
  have HRA := Lib.hid hr
  have HSM := Lib.hid hsm
  have SAME : Hid (∀ x, AppPost w g d F K (x, s, l) (.returned (.int .i64 x)) w) := fun x => ⟨rfl, F, K, ⟨h.disk, h.log, h.apart⟩, Chg.refl w _, fun i hi => .inl hi⟩
  clear h hr hsm hx0 hnn hbs
  by_cases hdead : l.dead = true
  · rw [if_pos hdead] at hres
    replace hres := Lib.hid hres
    rw [hdead] at c5
    go_enter Try.func23, Try.ntmps23
    go_wp2_with fail
    go_ret
    rw [hres.out]
    exact SAME.out 15
  · have hd' : l.dead = false := by cases hd : l.dead with | false => rfl | true => exact absurd hd hdead
    rw [if_neg hdead] at hres
    rw [hd'] at c5
    have HRES := Lib.hid hres
    clear hres hdead hd'
    go_enter Try.func23, Try.ntmps23
    go_wp2_with fail
    go_loop [5, 15] (fun sv jv => ∃ j : Nat, jv = .int .i64 (j : Int) ∧ j ≤ n ∧ sv = .int .i64 (1 + (((areaS (bs.take j)).length : Nat) : Int))) (fun _ jv => n - (intOf jv).toNat)
    case atStart => exact ⟨0, rfl, Nat.zero_le _, rfl⟩
    case round =>
      obtain ⟨j, rfl, hj, rfl⟩ := hrel
      have hal := area_take_le bs j
      by_cases hlt : j < n
      · have dlt : decide ((j : Int) < (n : Int)) = true := by simp; omega
        obtain ⟨r, hr⟩ : ∃ r, rs[j]? = some r := ⟨rs[j]'(by rw [HNN.out]; exact hlt), List.getElem?_eq_getElem _⟩
        have hrow := (HRA.out).row
        rw [HNN.out] at hrow
        obtain ⟨b1, o1, u1, rfl, -, hu1, g1⟩ := hrow.at1 hlt
        obtain rfl : u1 = .slice r.A r.b.length r.c := by rw [rcell_at hr] at hu1; injection hu1 with hu1; exact hu1.symm
        have hbj : bs[j]? = some r.b := by rw [HBS.out, List.getElem?_map, hr]; rfl
        have hrl := area_len_mem (List.mem_of_getElem? hbj)
        have hcl : (areaS (bs.take (j + 1))).length = (areaS (bs.take j)).length + (5 + r.b.length) := by rw [area_take hbj, List.length_append, recB_len]
        have HCL := Lib.hid hcl
        have hne : ¬ n ≤ j := by omega
        clear hr hrow hu1 hbj hcl
        go_wp2_with fail
        go_round
        case rel => exact ⟨j + 1, by go_num, by omega, by rw [HCL.out]; go_num⟩
        case measure => simp [intOf]; omega
      · have dlt : decide ((j : Int) < (n : Int)) = false := by simp; omega
        obtain rfl : j = n := by omega
        have htk : bs.take j = bs := List.take_of_length_le (by rw [HBS.out, List.length_map, HNN.out]; exact Nat.le_refl _)
        rw [htk]
        clear htk hal
        have hres := HRES.out
        obtain ⟨L, hL⟩ : ∃ L, L = (areaS bs).length := ⟨_, rfl⟩
        have HL := Lib.hid hL
        rw [← hL] at hres hmost ⊢
        clear hL HRES
        by_cases hfull : l.half < L + 1
        · rw [if_pos hfull] at hres
          replace hres := Lib.hid hres
          have df : decide ((l.half : Int) < 1 + (L : Int)) = true := by simp; omega
          go_wp2_with fail
          go_ret
          rw [hres.out]
          exact SAME.out 17
        · rw [if_neg hfull] at hres
          have df : decide ((l.half : Int) < 1 + (L : Int)) = false := by simp; omega
          have HREP := repl_any (c := c) (HS.out) (by rw [← HBS.out, ← HL.out]; omega) (by rw [HNN.out]; omega) (HRA.out)
          rw [← HBS.out, HNN.out] at HREP
          generalize replS s l bs = ra at hres HREP
          obtain ⟨xa, sa⟩ := ra
          simp only at hres HREP
          replace HREP := Lib.hid HREP
          by_cases h0 : xa = 0
          · subst h0
            rw [if_pos rfl] at hres
            replace hres := Lib.hid hres
            go_wp2_with fail
            refine (HREP.out).mono ?_
            rintro e wq ⟨rfl, Fa, hbo, hca, hsa⟩
            simp only [if_true] at hbo
            have hla : LogAt wq g d l K := hbo.log
            obtain ⟨v, rsq, hx⟩ := hla
            have RX := Lib.hid hx
            have BO := Lib.hid hbo
            have CA := Lib.hid hca
            have SA := Lib.hid hsa
            have c2q := hx.blk.cell 2
            have f2q := hx.blk.frozen 2
            simp at c2q
            have hgl := hx.lt g hx.kg
            have hq : RcA wq (fun i => Fa i ∨ K i) A rs := (HRA.out).chg hca (fun i hi => by
              rcases hi with hi | hi
              · rcases hsa i hi with h1 | h1
                · exact .inl (.inl h1)
                · exact .inr h1
              · exact .inl (.inr hi))
            have hc2 : Chg wq (wq.setCell ⟨g, 2, none⟩ (.bool (!l.second))) (fun i => Fa i ∨ K i) := (Chg.refl wq _).setCell (p := ⟨g, 2, none⟩) (.inl (.inr hx.kg)) _
            have hq2 := hq.chg (G' := fun i => Fa i ∨ K i) hc2 (fun i hi => .inl hi)
            have HCO := copied_any (c := c) (w := wq.setCell ⟨g, 2, none⟩ (.bool (!l.second))) (by rw [HNN.out]; omega) hq2.row (fun r hr => ⟨by have := (HSM.out) r hr; omega, (hq2.each r hr).1⟩)
            rw [HNN.out] at HCO
            replace HCO := Lib.hid HCO
            have hz2 := hx.blk.set_ 2 (.bool (!l.second))
            have HZ2 := Lib.hid hz2
            clear hx hbo hca hsa hq hc2 hq2 hz2 HREP c1 c5
            go_wp2_with fail
            refine (HCO.out).mono ?_
            rintro e w2 ⟨rs', rfl, hC⟩
            rw [HNN.out]
            have hb2 := hC.bel
            have hk2 := (HZ2.out).below hb2 (by simpa [World.setCell] using hgl)
            have c4 := hk2.cell 4
            have c3 := hk2.cell 3
            have f4 := hk2.frozen 4
            have f3 := hk2.frozen 3
            simp at c4 c3
            have hP := log_reset (n := j) (L := L) (RX.out) hC (HNN.out) (by omega) (by rw [HL.out, HBS.out]) (by omega) (fun r hr => ((HRA.out).each r hr).2)
            rw [← HBS.out] at hP
            have FIN : Hid (AppPost w g d F K (0, sa, { l with second := !l.second, recs := bs, fin := L }) (.returned (.int .i64 0)) ((w2.setCell ⟨g, 4, none⟩ (.slice (some ⟨wq.heap.size, 0, none⟩) j j)).setCell ⟨g, 3, none⟩ (.int .i64 (L : Int)))) := by
              refine ⟨rfl, Fa, fun i => K i ∨ (wq.heap.size ≤ i ∧ i < w2.heap.size), ⟨(BO.out).disk.chg hP.2 (fun i hF hK => (BO.out).apart i hF hK), ⟨_, _, hP.1⟩, fun i hF hK => ?_⟩, Chg.union (S := fun i => F i ∨ K i) (CA.out) hP.2 (fun i hi => hi) (fun i _ hK => .inr hK), fun i hi => ?_⟩
              · have h1 := (BO.out).disk.lt i hF
                rcases hK with hK | hK
                · exact (BO.out).apart i hF hK
                · omega
              · have hs1 := (CA.out).size
                rcases hi with hi | hi | hi
                · rcases (SA.out) i hi with h1 | h1
                  · exact .inl (.inl h1)
                  · exact .inr h1
                · exact .inl (.inr hi)
                · exact .inr (by omega)
            have hsz : (wq.setCell ⟨g, 2, none⟩ (.bool (!l.second))).heap.size = wq.heap.size := by simp [World.setCell]
            rw [hsz]
            clear hP hC hb2 hk2 hsz HCO BO CA SA RX HZ2
            go_wp2_with fail
            go_ret
            rw [hres.out]
            have e1 : (1 + (L : Int) - 1) = (L : Int) := by omega
            rw [e1]
            exact FIN.out
          · rw [if_neg h0] at hres
            replace hres := Lib.hid hres
            have dx := bne_true h0
            go_wp2_with fail
            refine (HREP.out).mono ?_
            rintro e wq ⟨rfl, Fa, hbo, hca, hsa⟩
            simp only [if_neg h0] at hbo
            have BO := Lib.hid hbo
            have CA := Lib.hid hca
            have SA := Lib.hid hsa
            clear hbo hca hsa HREP c1 c5
            go_wp2_with fail
            go_ret
            rw [hres.out]
            refine ⟨rfl, Fa, K, BO.out, CA.out, fun i hi => ?_⟩
            rcases hi with hi | hi
            · rcases (SA.out) i hi with h1 | h1
              · exact .inl (.inl h1)
              · exact .inr h1
            · exact .inl (.inr hi)
end Go.Proofs.Ytnjafhlpnoikcaa
