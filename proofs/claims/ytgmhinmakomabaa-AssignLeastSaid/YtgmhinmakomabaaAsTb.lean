/-
  The law's choice: the walk. No condition.
-/
import Derived.Test.YtgmhinmakomabaaAsTa
namespace Go.Proofs.Ytgmhinmakomabaa
open Go.RowKit
set_option linter.unusedVariables false

theorem Reads.pre {w : World} {B n : Nat} {A : Option Addr} {xs : List Value} (h : Reads w B 1 A n xs) {k : Nat} (hk : k ≤ n) : Reads w B 1 A k (xs.take k) := by
  refine ⟨by rw [List.length_take, h.1]; omega, fun hn => ?_⟩
  obtain ⟨ad, rfl, hb, hcell⟩ := h.2 (by omega)
  refine ⟨ad, rfl, hb, fun j u hu => hcell j u ?_⟩
  rw [List.getElem?_take] at hu
  split at hu
  · exact hu
  · cases hu
def lenV : Value → Nat
  | .slice _ n _ => n
  | _ => 0
theorem own_form {w : World} {B n : Nat} {e : TypeId} {v : Value} {xs : List Value} (h : w.ownsRow B e 1 v n xs) (hn : 0 < n) : ∃ b c, v = .slice (some ⟨b, 0, none⟩) n c ∧ n ≤ c ∧ b < w.heap.size ∧ B ≤ b ∧ ∀ j u, xs[j]? = some u → w.cell? ⟨b, j, none⟩ = some u := by
  obtain ⟨g, cap, hv, hb, hlt⟩ := h.form hn
  rcases h.2 with ⟨rfl, h0⟩ | ⟨g', cap', cur, hv', hb', hh, hle, rest⟩
  · cases hv
  · rw [hv] at hv'
    injection hv' with e1 e2 e3
    injection e1 with e1
    injection e1 with e1
    subst e1
    refine ⟨g, cap, hv, by omega, hlt, hb, fun j u hu => ?_⟩
    have := h.cells (g := g) (by rw [hv]; rfl) j u hu
    rwa [Addr.add_lit, Nat.zero_add] at this
theorem choice_end {w wr : World} {d B n : Nat} {vf vt : Value} {tl : List Int} (h : ChSt w wr d B vf [] vt tl) (hp : Nums n ([] ++ tl)) : ChoicePost w n (.returned vt) wr := by
  obtain ⟨A, c, rfl, hr, -⟩ := reads_of_owns h.to
  have hl : tl.length = n := by have := hp.length_eq; simpa using this
  have hi : Ints wr wr.heap.size A tl.length tl := hr
  obtain ⟨h1, h2⟩ := Nums.perfect hp
  refine ⟨A, c, fun i => (tl.getD i 0).toNat, by rw [hl], ?_, h1, h.bel⟩
  rw [hl] at hi
  intro i hi'
  obtain ⟨b, off, e, hb, hc⟩ := hi.fn i hi'
  exact ⟨b, off, e, hb, hc.trans (by have := h2 i hi'; simp only [List.nil_append] at this ⊢; rw [this])⟩

theorem ones_take (l : List Int) (k : Nat) : ∀ u ∈ (ints l).take k, u.oneCell' = true := fun u hu => int_one l u (List.mem_of_mem_take hu)
theorem ones_drop (l : List Int) (k : Nat) : ∀ u ∈ (ints l).drop k, u.oneCell' = true := fun u hu => int_one l u (List.mem_of_mem_drop hu)

set_option maxRecDepth 100000 in
set_option maxHeartbeats 8000000 in
theorem choice_any (n : Nat) (A : Option Addr) (nl c : Nat) (l : List Int) (w : World) (hn : n ≤ 9) (hnl : nl ≤ 1000) (hr : Ints w w.heap.size A nl l) (hl : ∀ x ∈ l, inI64 x) :
    Calls Try.prog 18 #[.int .i64 (n : Int), .slice A nl c] w (ChoicePost w n) := by
  have HR := Lib.hid (roll_any A nl c l w hnl hr hl)
  obtain ⟨i0, hi, hz0, hz1, hz2⟩ := info_parts i64_info
  have HI := Lib.hid hi
  have HZ0 := Lib.hid hz0
  have HZ1 := Lib.hid hz1
  have HZ2 := Lib.hid hz2
  clear hr hl hi hz0 hz1 hz2
  go_enter Try.func18, Try.ntmps18
  go_wp2_with fail
  refine (HR.out).mono ?_
  rintro e w1 ⟨d, rfl, hd, hd1, hd2, hb1⟩
  have HM0 := Lib.hid (ChSt.start hd hb1 hd1 hd2)
  clear hd hb1 HR
  go_wp2_with fail
  go_loopw [6, 8] (fun vf s wr => ∃ (i : Nat) (fl : List Int), i ≤ n ∧ s = .int .i64 (i : Int) ∧ Hid (ChSt w wr d w1.heap.size vf fl (.slice none 0 0) []) ∧ Hid (fl = (List.range i).map Int.ofNat)) (fun _ s _ => n - (intOf s).toNat)
  case atStart => exact ⟨0, [], by omega, rfl, HM0, rfl⟩
  case round =>
    clear HM0
    obtain ⟨i, fl, hi, rfl, HM, HF⟩ := hrel
    by_cases hit : i < n
    · have HO := Lib.hid HM.out.free
      have hfl : fl.length ≤ 9 := by rw [HF.out]; simp; omega
      have hBs := HM.out.Bs
      go_wp2_with (at_builtin; refine wpList_append_row _ rfl (.tmp 17) (.tmp 19) 25 25 rfl w1.heap.size 3 i0 (.int .i64 0) 1 8 Try.underlying25 HI.out HZ0.out HZ1.out HZ2.out rfl (by decide) _ fl.length (ints fl) rfl (HO.out.alloc _) (.slice (some ⟨wr.heap.size, 0, none⟩) 1 1) 1 [.int .i64 (i : Int)] rfl (src_new wr Try.underlying25 [.int .i64 (i : Int)] 1 1 1 3 rfl ?c4) ?c1 ?c2 ?c3 ?_)
      case c4 => intro u hu; simp at hu; subst hu; rfl
      case c1 => unfold maxLen; omega
      case c2 => omega
      case c3 => simp; omega
      intro v3 w3 hown3 hg3
      have HM3 := Lib.hid ((HM.out.alloc _).push0 hg3 hown3)
      clear hown3 hg3 HM HO
      go_wp2_with fail
      go_roundw
      case rel => exact ⟨i + 1, _, by omega, by go_num, HM3, by show _ = _; rw [HF.out, List.range_succ, List.map_append]; rfl⟩
      case measure => simp [intOf] <;> omega
    · have HP0 : Hid (Nums n (fl ++ [])) := by
        show Nums n (fl ++ [])
        rw [HF.out, List.append_nil, show i = n by omega]
        exact List.Perm.refl _
      clear HF
      go_wp2_with fail
      go_loopw [6, 7] (fun vf vt wr => ∃ (fl tl : List Int), Hid (ChSt w wr d w1.heap.size vf fl vt tl) ∧ Hid (Nums n (fl ++ tl))) (fun vf _ _ => lenV vf)
      case atStart => exact ⟨fl, [], HM, HP0⟩
      case round =>
        clear HM HP0
        obtain ⟨fl, tl, HM, HP⟩ := hrel
        have hsum : fl.length + tl.length = n := by have := HP.out.length_eq; simpa using this
        by_cases hpos : 0 < fl.length
        · obtain ⟨b, cf, rfl, hcap, hblt, hBb, -⟩ := own_form HM.out.free hpos
          have HN := Lib.hid (next_any d (fl.length : Int) wr HM.out.dice (by omega) (by omega))
          go_wp2_with fail
          refine (HN.out).mono ?_
          rintro e w2 ⟨x, rfl, hx0, hx1, hdice, hgr, hsz⟩
          obtain ⟨k, rfl⟩ := Int.eq_ofNat_of_zero_le hx0
          have hk : k < fl.length := by omega
          have HM2 := Lib.hid (HM.out.next hdice hgr)
          clear hdice hgr hsz HM HN
          obtain ⟨b', cf', e1, -, hblt2, -, hcell⟩ := own_form HM2.out.free hpos
          injection e1 with e1 e2 e3
          injection e1 with e1
          injection e1 with e1
          subst e1 e3
          obtain ⟨y, hy⟩ : ∃ y, fl[k]? = some y := ⟨_, List.getElem?_eq_getElem hk⟩
          have hc0 := hcell k (.int .i64 y) (by unfold ints; rw [List.getElem?_map, hy]; rfl)
          have HO := Lib.hid HM2.out.to
          have hBs := HM2.out.Bs
          have HY := Lib.hid hy
          clear hcell hy
          go_wp2_with (at_builtin; (refine wpList_append_row _ rfl (.tmp 28) (.tmp 33) 25 25 rfl w1.heap.size 3 i0 (.int .i64 0) 1 8 Try.underlying25 HI.out HZ0.out HZ1.out HZ2.out rfl (by decide) _ tl.length (ints tl) rfl (HO.out.alloc _) (.slice (some ⟨w2.heap.size, 0, none⟩) 1 1) 1 [.int .i64 y] rfl (src_new w2 Try.underlying25 [.int .i64 y] 1 1 1 3 rfl ?d4) ?d1 ?d2 ?d3 ?_))
          case d4 => intro u hu; simp at hu; subst hu; rfl
          case d1 => unfold maxLen; omega
          case d2 => omega
          case d3 => simp; omega
          intro v3 w3 hown3 hg3
          have HM3 := Lib.hid ((HM2.out.alloc _).push1 hg3 hown3)
          have HP3 := Lib.hid (HP.out.step HY.out)
          clear hown3 hg3 HM2 HO hc0 HP
          have hrd : Reads w3 w3.heap.size 1 (some ⟨b, 0, none⟩) fl.length (ints fl) := Reads.of_own HM3.out.free
          have HR1 := Lib.hid (hrd.pre (k := k) (by omega))
          have HR2 : Hid (Reads w3 w3.heap.size 1 (if cf = k + 1 then some ⟨b, 0, none⟩ else some ⟨b, k + 1, none⟩) (fl.length - (k + 1)) ((ints fl).drop (k + 1))) := by
            have h := hrd.cut (k := k + 1) (cap := cf) (by omega) (by omega)
            rw [Nat.mul_one] at h
            show Reads _ _ _ _ _ _
            by_cases e : cf = k + 1
            · rw [if_pos e] at h ⊢; exact h
            · rw [if_neg e] at h ⊢
              rw [Option.map_some, Addr.add_lit, Nat.zero_add] at h
              exact h
          clear hrd
          have hBs3 := HM3.out.Bs
          have HM3s := HM3.out.bel.size
          have s1 : IntKind.i64.wrap ((k : Int) + 1) = (k : Int) + 1 := by rw [IntKind.wrap_i64]; omega
          have s2 : ((k : Int) + 1).toNat = k + 1 := by omega
          have t1 : (0 : Int) ≤ (k : Int) := by omega
          have t2 : (k : Int) ≤ (cf : Int) := by omega
          have t3 : (0 : Int) ≤ (k : Int) + 1 := by omega
          have t4 : (k : Int) + 1 ≤ (fl.length : Int) := by omega
          have t5 : (k : Int) + 1 ≤ max (fl.length : Int) 0 := by omega
          have t6 : (fl.length : Int) ≤ (cf : Int) := by omega
          go_wp2_with fail
          go_region_law (first
            | (refine step_append_row _ rfl (.tmp 39) (.tmp 43) 25 25 rfl w3.heap.size 3 i0 (.int .i64 0) 1 8 Try.underlying25 HI.out HZ0.out HZ1.out HZ2.out rfl (by decide) (.slice A5 k c5) k _ (by simp [Act.eval]) HO5.out (.slice (if cf = k + 1 then some ⟨b, 0, none⟩ else some ⟨b, k + 1, none⟩) (fl.length - (k + 1)) (cf - (k + 1))) (fl.length - (k + 1)) _ (by simp [Act.eval]) (src_reads _ Try.underlying25 _ (HR2.out.below HB5.out) (ones_drop _ _)) (by unfold maxLen; omega) (by omega) (by have := HB5.out.size; omega) ?_; intro v6 w6 hown6 hg6; have HB6 := Lib.hid (HB5.out.trans (hg6.below HB5.out.size (own_from HO5.out))); obtain ⟨A6, c6, rfl, -, -⟩ := reads_of_owns hown6; have HE6 := Lib.hid hown6; clear hown6 hg6)
            | (refine step_append_row _ rfl (.tmp 35) (.tmp 38) 25 25 rfl w3.heap.size 3 i0 (.int .i64 0) 1 8 Try.underlying25 HI.out HZ0.out HZ1.out HZ2.out rfl (by decide) (.slice (some ⟨w3.heap.size, 0, none⟩) 0 0) 0 [] (by simp [Act.eval]) (owns_empty w3 3) (.slice (some ⟨b, 0, none⟩) k cf) k _ (by simp [Act.eval]) (src_reads _ Try.underlying25 _ ((HR1.out.alloc (w := w3) (Nat.le_refl _) _).drew) (ones_take _ _)) (by unfold maxLen; omega) (by omega) (by simp) ?_; intro v5 w5 hown5 hg5; rw [Nat.zero_add, List.nil_append] at hown5; have HB5 : Hid (Below w3.heap.size w3 w5) := (below_drewN ((Below.refl _ w3).alloc (Nat.le_refl _) _) 1).trans (hg5.below (by simp) (fun g hg => by simp [Value.ownBlock] at hg; omega)); obtain ⟨A5, c5, rfl, -, -⟩ := reads_of_owns hown5; have HO5 := Lib.hid hown5; clear hown5 hg5))
          all_goals
            obtain ⟨fl', hfl'⟩ : ∃ f, f = fl.take k ++ fl.drop (k + 1) := ⟨_, rfl⟩
            have hlen' : k + (fl.length - (k + 1)) = fl'.length := by rw [hfl', List.length_append, List.length_take, List.length_drop]; omega
            have hints' : (ints fl).take k ++ (ints fl).drop (k + 1) = ints fl' := by rw [hfl']; simp [ints, List.map_take, List.map_drop]
            have ho6 := HE6.out
            rw [hints', hlen'] at ho6
            have HM6 := Lib.hid (HM3.out.fresh HB6.out ho6)
            have HP6 : Hid (Nums n (fl' ++ (tl ++ [y]))) := by
              have h := HP3.out
              rw [← hfl'] at h
              exact h
            have hless : fl'.length < fl.length := by omega
            clear hfl' hints' ho6 HM3 HB6 HE6 HP3 HO5 HB5 HR1 HR2 HY
            rw [hlen']
            go_wp2_with fail
            go_roundw
            case rel => exact ⟨fl', tl ++ [y], HM6, HP6⟩
            case measure => exact hless
            all_goals exact ⟨⟨fl', tl ++ [y], HM6, HP6⟩, hless⟩
        · have h0 : fl = [] := List.eq_nil_of_length_eq_zero (by omega)
          subst h0
          have HE := Lib.hid (choice_end HM.out HP.out)
          obtain ⟨Af, cf, rfl, -, -⟩ := reads_of_owns HM.out.free
          clear HM HP
          go_wp2_with fail
          go_ret
          exact HE.out
end Go.Proofs.Ytgmhinmakomabaa
