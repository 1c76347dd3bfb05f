/-
  visit, and Paths. No condition.
-/
import Derived.Test.YthaepakpeamajaaTrT
namespace Go.Proofs.Ythaepakpeamajaa
open Go.RowKit
set_option linter.unusedVariables false

theorem int_info : (Try.prog.info? 3).map (fun i => (i.zero, i.size, i.bytes)) = some (some (.int .i64 0), 1, 8) := by kernel_rfl
theorem path_info : (Try.prog.info? 26).map (fun i => (i.zero, i.size, i.bytes)) = some (some (.slice none 0 0), 1, 24) := by kernel_rfl
theorem info3 {t : TypeId} {z : Value} {s b : Nat} (h : (Try.prog.info? t).map (fun i => (i.zero, i.size, i.bytes)) = some (some z, s, b)) : ∃ i, Try.prog.info? t = some i ∧ i.zero = some z ∧ i.size = s ∧ i.bytes = b := by
  obtain ⟨i, hi, hr⟩ := Option.map_eq_some_iff.1 h
  injection hr with h1 h2
  injection h2 with h2 h3
  exact ⟨i, hi, h1, h2, h3⟩
def VPost (w : World) (T0 ba bp bv base : Nat) (xs : List PX) (P : List Int) (t : TX) (e : Ending) (w' : World) : Prop :=
  e = .returned (.tuple #[]) ∧ ∃ v' vp' ys, VS w' ba bp bv base v' vp' (xs ++ ys) P ∧ ys.map PX.l = t.plain.paths P ∧ Below T0 w w'
theorem szs_le {t k : TX} {j : Nat} (h : t.kids[j]? = some k) : 1 + szs t j + k.plain.size ≤ t.plain.size := by
  have h1 := szs_succ h
  have h2 := szs_all t t.kids.length (Nat.le_refl _)
  have h3 : szs t (j + 1) ≤ szs t t.kids.length := by
    unfold szs
    have hj := (List.getElem?_eq_some_iff.1 h).1
    have e : t.kids.take t.kids.length = t.kids.take (j + 1) ++ t.kids.drop (j + 1) := by rw [List.take_length, List.take_append_drop]
    rw [e, List.map_append, T.sizes_append]
    omega
  omega
theorem plain_pos (t : TX) : 1 ≤ t.plain.size := by rw [TX.plain_eq, T.size]; omega

theorem reads_zero {w : World} {B n : Nat} {A : Option Addr} {l : List Value} (h : Reads w B 1 A (0 + n) ([] ++ l)) : Reads w B 1 A n l := by simpa using h
theorem cap_zero {w : World} {base e n c : Nat} {A : Option Addr} {xs : List Value} (h : w.ownsRow base e 1 (.slice A (0 + n) c) (0 + n) xs) : n ≤ c := by have := own_cap h; omega
theorem undrew {W w9 : World} (h : Below W.drew.heap.size W.drew w9) : Below W.heap.size W w9 := ⟨h.os, h.tape, h.output, h.size, h.block⟩
theorem VS.copy {w W w9 w11 : World} {ba bp bv base T0 c9 g : Nat} {v v11 vp : Value} {xs : List PX} {P : List Int} {A9 : Option Addr} {o : Obj} {cs : Array Value} (h0 : VS w ba bp bv base v vp xs P) (hW : Below w.heap.size w W) (hg : Blk W g 25 cs) (hg1 : w.heap.size ≤ g) (h9 : Below W.heap.size W w9) (hr : Reads w9 w9.heap.size 1 A9 P.length (P.map (Value.int .i64))) (hb : ∀ a, A9 = some a → W.heap.size ≤ a.block ∧ a.spot = none ∧ a.off = 0)
    (ho : w11.ownsRow base 26 1 v11 (xs.length + 1) (xs.map PX.head ++ [.slice A9 P.length c9])) (hg11 : Grows (w9.alloc o) w11 v v11) (t1 : T0 ≤ ba) (t3 : T0 ≤ base) (hc9 : P.length ≤ c9) :
    VS (w11.setCell ⟨ba, 0, none⟩ v11) ba bp bv base v11 vp (xs ++ [⟨A9, c9, P⟩]) P ∧ Blk (w11.setCell ⟨ba, 0, none⟩ v11) g 25 cs ∧ Below T0 w (w11.setCell ⟨ba, 0, none⟩ v11) := by
  have hb9 : Below W.heap.size W (w9.alloc o) := h9.alloc h9.size _
  have hw9 : Below w.heap.size w (w9.alloc o) := hW.trans (hb9.mono hW.size)
  have hV := h0.up hw9
  have hz := hW.size
  have l1 := h0.la
  have l4 := h0.lb
  have o1 := own_lt h0.ra
  have o2 := own_lt h0.rp
  have o3 := own_from h0.ra
  refine ⟨hV.grow (ys := [⟨A9, c9, P⟩]) hg11 (by rw [List.length_append, List.map_append]; exact ho) (fun x hx => ?_) (fun x hx => by simp at hx; subst hx; exact hc9), ?_, ?_⟩
  · simp at hx
    subst hx
    refine ⟨((hr.below ((Below.refl _ w9).alloc (Nat.le_refl _) o)).more (by simp)), fun ad e hn => ?_⟩
    have := (hb ad e).1
    exact ⟨by omega, fun e2 => by have := o1 _ e2; omega, fun e2 => by have := o2 _ e2; omega⟩
  · exact (hg11.blk (hg.below hb9 hg.lt) (fun e => by have := o1 _ e; omega)).far (p := ⟨ba, 0, none⟩) (by show g ≠ ba; omega) _
  · have := (hw9.mono (show T0 ≤ w.heap.size by omega)).grown hg11.grown (by have := hw9.size; omega) (fun g' e => by have := o3 g' e; omega)
    exact this.setCell (p := ⟨ba, 0, none⟩) t1 _

set_option maxRecDepth 100000 in
set_option maxHeartbeats 3200000 in
theorem visit_any (t : TX) : ∀ (w : World) (T0 ba bp bv base : Nat) (v vp : Value) (xs : List PX) (P : List Int), VS w ba bp bv base v vp xs P → Tr w T0 t → T0 ≤ ba → T0 ≤ bp → T0 ≤ base → xs.length + t.plain.size ≤ 1000000 → P.length + t.plain.size ≤ 1000000 →
    Calls Try.prog 35 #[t.val, .pointer (some ⟨ba, 0, none⟩), .pointer (some ⟨bp, 0, none⟩), .pointer (some ⟨bv, 0, none⟩)] w (VPost w T0 ba bp bv base xs P t) := by
  induction t using TX.ind with
  | h t ih =>
  intro w T0 ba bp bv base v vp xs P h ht h1 h2 h3 hn hp
  unfold TX.val
  have hkb := ht.kb
  obtain ⟨W, hW⟩ : ∃ W, w.alloc (.cells #[.int .i64 t.kind, .string t.text, .slice t.lA t.leads.length t.lc, .slice t.kA t.kids.length t.kc] 25) = W := ⟨_, rfl⟩
  have HBW : Hid (Below w.heap.size w W) := by subst hW; exact (Below.refl _ w).alloc (Nat.le_refl _) _
  have HX : Hid (Blk W w.heap.size 25 t.arr) := by subst hW; exact Blk.new w 25 _
  obtain ⟨vA, vc, rfl, -, -⟩ := reads_of_owns h.ra
  obtain ⟨pA, pc, rfl, -, -⟩ := reads_of_owns h.rp
  have HV : Hid (VS W ba bp bv base (.slice vA xs.length vc) (.slice pA P.length pc) xs P) := h.up HBW.out
  have HIH := Lib.hid ih
  have HT := Lib.hid ht
  obtain ⟨i3, a1, a2, a3, a4⟩ := info3 int_info
  obtain ⟨i26, b1, b2, b3, b4⟩ := info3 path_info
  have HI3 := Lib.hid a1
  have HI3z := Lib.hid a2
  have HI3s := Lib.hid a3
  have HI3b := Lib.hid a4
  have HP0 := Lib.hid b1
  have HP0z := Lib.hid b2
  have HP0s := Lib.hid b3
  have HP0b := Lib.hid b4
  have HON : Hid (W.drew.ownsRow W.heap.size 3 1 (.slice none 0 0) 0 []) := ⟨rfl, .inl ⟨rfl, rfl⟩⟩
  have HSR : Hid (Src Try.prog 1 26 (.slice pA P.length pc) P.length (P.map (Value.int .i64)) W.drew) := by
    obtain ⟨A', c', e, hr, -⟩ := reads_of_owns HV.out.rp
    injection e with e1 e2 e3
    subst e1 e3
    exact src_reads W.drew Try.underlying26 pc hr.drew (ints_one P)
  have HL1 : Hid (0 + P.length ≤ maxLen) := by unfold Hid maxLen; omega
  have HL2 : Hid ((0 + P.length) * 8 ≤ 140737488355328) := by unfold Hid; omega
  have HL3 : Hid (xs.length + 1 ≤ maxLen) := by have := plain_pos t; unfold Hid maxLen; omega
  have HL4 : Hid ((xs.length + 1) * 24 ≤ 140737488355328) := by have := plain_pos t; unfold Hid; omega
  have HLZ : Hid (W.heap.size ≤ W.drew.heap.size) := Nat.le_refl _
  have HBA := Lib.hid HV.out.a
  have c0 := HV.out.a.cell 0
  have c1 := HV.out.p.cell 0
  simp at c0 c1
  have hla : ba < W.heap.size := HV.out.a.lt
  have H0 := Lib.hid h
  clear h ih ht a1 a2 a3 a4 b1 b2 b3 b4
  go_enter Try.func35, Try.ntmps35
  go_upto_region 1 with fail
  go_cut [] (fun wr => ∃ (v' : Value) (x : PX), x.l = P ∧ Hid (VS wr ba bp bv base v' (.slice pA P.length pc) (xs ++ [x]) P) ∧ Hid (Blk wr w.heap.size 25 t.arr) ∧ Hid (Below T0 w wr))
  case first =>
    go_region_law (first
      | (refine step_append_row _ rfl (.const (.slice none 0 0)) (.tmp 8) 26 26 rfl W.heap.size 3 i3 (.int .i64 0) 1 8 Try.underlying26 HI3.out HI3z.out HI3s.out HI3b.out rfl (by decide) (.slice none 0 0) 0 [] (by simp [Act.eval]) HON.out (.slice pA P.length pc) P.length (P.map (Value.int .i64)) (by simp [Act.eval]) HSR.out HL1.out HL2.out HLZ.out ?_; intro v9 w9 hown9 hg9; obtain ⟨A9, c9, rfl, hr9, hb9⟩ := reads_of_owns hown9; have k0 : w9.cell? ⟨ba, 0, none⟩ = some (.slice vA xs.length vc) := hg9.cell c0 (by simp [Value.ownBlock]); have hlt9 : ba < w9.heap.size := Nat.lt_of_lt_of_le hla hg9.size; have hlb9 : base ≤ w9.heap.size := Nat.le_trans HV.out.lb hg9.size; have HR9 := Lib.hid (reads_zero hr9); have HC9 := Lib.hid (cap_zero hown9); have HB9 := Lib.hid hb9; have HG9 := Lib.hid (undrew hg9.below_new); clear hown9 hg9 hr9 hb9)
      | (refine step_append_row _ rfl (.tmp 7) (.tmp 10) 38 38 rfl base 26 i26 (.slice none 0 0) 1 24 Try.underlying38 HP0.out HP0z.out HP0s.out HP0b.out rfl (by decide) (.slice vA xs.length vc) xs.length (xs.map PX.head) (by simp [Act.eval]) (((HV.out.up HG9.out).ra).alloc _) (.slice (some ⟨w9.heap.size, 0, none⟩) 1 1) 1 [.slice A9 P.length c9] (by simp [Act.eval]) (src_new w9 Try.underlying38 [.slice A9 P.length c9] 1 1 1 26 rfl (by intro u hu; simp at hu; subst hu; rfl)) HL3.out HL4.out (by simp; omega) ?_; intro v11 w11 hown11 hg11; obtain ⟨A11, c11, rfl, -, -⟩ := reads_of_owns hown11; have hk11 := hg11.blk ((HBA.out.below HG9.out hla).alloc _) (fun e => by have := own_from HV.out.ra _ e; have := HV.out.la; omega); have m0 := hk11.cell 0; simp at m0; have f0 := hk11.frozen 0; have HN := Lib.hid (H0.out.copy HBW.out HX.out (Nat.le_refl _) HG9.out HR9.out HB9.out hown11 hg11 h1 h3 HC9.out); clear hown11 hg11 hk11))
    all_goals
      go_wp2_with fail
      go_meet
      exact ⟨_, _, rfl, HN.out.1, HN.out.2.1, HN.out.2.2⟩
  case rest =>
    obtain ⟨v', x, hx, HV2, HX2, HB2⟩ := hcut
    have d3 := HX2.out.cell 3
    simp [TX.arr] at d3
    have HY0 : Hid (([x] : List PX).map PX.l = P :: T.pathss ((t.kids.take 0).map TX.plain) P 0) := by unfold Hid; rw [List.take_zero, List.map_nil, T.pathss, List.map_cons, List.map_nil, hx]
    have HW := Lib.hid hW
    clear hx c0 c1 hla hW
    obtain ⟨kA, hkA⟩ : ∃ a, t.kA = a := ⟨_, rfl⟩
    have HKA := Lib.hid hkA
    rw [hkA] at d3
    clear hkA
    go_wp2_with fail
    clear d3
    go_loopw [15] (fun i wr => ∃ (j : Nat) (v' vp' : Value) (ys : List PX), j ≤ t.kids.length ∧ i = .int .i64 (j : Int) ∧ Hid (VS wr ba bp bv base v' vp' (xs ++ ys) P) ∧ Hid (ys.map PX.l = P :: T.pathss ((t.kids.take j).map TX.plain) P 0) ∧ Hid (Below T0 w wr)) (fun i _ => t.kids.length - (intOf i).toNat)
    case atStart => exact ⟨0, v', _, [x], by omega, rfl, HV2, HY0, HB2⟩
    case round =>
      obtain ⟨j, v1, vp1, ys, hj, rfl, HV3, HY, HB3⟩ := hrel
      by_cases hlt : j < t.kids.length
      · obtain ⟨k, hk⟩ : ∃ k, t.kids[j]? = some k := ⟨_, List.getElem?_eq_getElem hlt⟩
        obtain ⟨ab, ao, hA, hab, e0, e1, e2, e3⟩ := (HT.out.low HB3.out).at_ hk
        obtain rfl : kA = some ⟨ab, ao, none⟩ := HKA.out.symm.trans hA
        obtain ⟨pA', pc', rfl, -, -⟩ := reads_of_owns HV3.out.rp
        have hszk := szs_le hk
        have hlen : ys.length = 1 + szs t j := by
          have := congrArg List.length HY.out
          rw [List.length_map, List.length_cons] at this
          rw [this]
          have h5 : ∀ (l : List T) (p : List Int) (i : Nat), (T.pathss l p i).length = T.sizes l := fun l => by
            induction l with
            | nil => intro p i; rw [T.pathss, T.sizes]; rfl
            | cons a l ih => intro p i; rw [T.pathss, T.sizes, List.length_append, ih, paths_len]
          rw [h5]
          unfold szs
          omega
        obtain ⟨wk, hwk⟩ : ∃ wk, wr.alloc (.cells #[.int .i64 k.kind, .string k.text, .slice k.lA k.leads.length k.lc, .slice k.kA k.kids.length k.kc] 25) = wk := ⟨_, rfl⟩
        have HBK : Hid (Below wr.heap.size wr wk) := by subst hwk; exact (Below.refl _ wr).alloc (Nat.le_refl _) _
        have HKK : Hid (Blk wk wr.heap.size 25 k.arr) := by subst hwk; exact Blk.new wr 25 _
        have HVK := Lib.hid (HV3.out.up HBK.out)
        have c1 := HVK.out.p.cell 0
        simp at c1
        have hlp : bp < wk.heap.size := HVK.out.p.lt
        have HLK := Lib.hid HVK.out.lb
        have HM1 : Hid (P.length + 1 ≤ maxLen) := by unfold Hid maxLen; omega
        have HM2 : Hid ((P.length + 1) * 8 ≤ 140737488355328) := by unfold Hid; omega
        have HM3 : Hid (base ≤ (wk.alloc (.cells #[.int .i64 (j : Int)] 3)).heap.size) := by have := HVK.out.lb; unfold Hid; simp; omega
        have HRP : Hid ((wk.alloc (.cells #[.int .i64 (j : Int)] 3)).ownsRow base 3 1 (.slice pA' P.length pc') P.length (P.map (Value.int .i64))) := HVK.out.rp.alloc _
        have HK := Lib.hid hk
        clear hA hk
        go_wp2_with (at_builtin; refine wpList_append_row _ rfl (.tmp 20) (.tmp 22) 26 26 rfl base 3 i3 (.int .i64 0) 1 8 Try.underlying26 HI3.out HI3z.out HI3s.out HI3b.out rfl (by decide) (.slice pA' P.length pc') P.length (P.map (Value.int .i64)) rfl HRP.out (.slice (some ⟨wk.heap.size, 0, none⟩) 1 1) 1 [.int .i64 (j : Int)] rfl (src_new wk Try.underlying26 [.int .i64 (j : Int)] 1 1 1 3 rfl ?d4) HM1.out HM2.out HM3.out ?_)
        case d4 => intro u hu; simp at hu; subst hu; rfl
        intro v5 w5 hown5 hg5
        obtain ⟨g5, c5, rfl, -, -⟩ := hown5.form (by omega)
        have hko : Below wk.heap.size wk (wk.alloc (.cells #[.int .i64 (j : Int)] 3)) := (Below.refl _ wk).alloc (Nat.le_refl _) _
        have hvk1 := HVK.out.up hko
        have hlb := HVK.out.lb
        have hk5 := hg5.blk hvk1.p (fun e => by have := own_from hvk1.rp _ e; have := HVK.out.lp; omega)
        have m0 := hk5.cell 0
        simp at m0
        have f0 := hk5.frozen 0
        obtain ⟨w6, hw6⟩ : ∃ w6, w5.setCell ⟨bp, 0, none⟩ (.slice (some ⟨g5, 0, none⟩) (P.length + 1) c5) = w6 := ⟨_, rfl⟩
        have HV6 : Hid (VS w6 ba bp bv base v1 (.slice (some ⟨g5, 0, none⟩) (P.length + 1) c5) (xs ++ ys) (P ++ [(j : Int)])) := by
          subst hw6
          exact hvk1.walk hg5 (by rw [List.length_append, List.map_append]; exact hown5)
        have hlr := own_lt HV3.out.rp
        have HK6 : Hid (Blk w6 wr.heap.size 25 k.arr) := by
          subst hw6
          have := HV3.out.p.lt
          exact (hg5.blk (HKK.out.below hko HKK.out.lt) (fun e => by have := hlr _ e; omega)).far (p := ⟨bp, 0, none⟩) (by show wr.heap.size ≠ bp; omega) _
        have HB6 : Hid (Below T0 w w6) := by
          subst hw6
          have h5 : Below T0 w (wk.alloc (.cells #[.int .i64 (j : Int)] 3)) := HB3.out.trans ((HBK.out.trans (hko.mono HBK.out.size)).mono (by have := HV3.out.lb; omega))
          exact ((h5.grown hg5.grown (by have := hvk1.lb; omega) (fun g' e => by have := own_from hvk1.rp g' e; omega)).setCell (p := ⟨bp, 0, none⟩) h2 _)
        have q0 := HV6.out.f.cell 0
        unfold visitF at q0
        simp at q0
        have r0 := HK6.out.cell 0
        have r1 := HK6.out.cell 1
        have r2 := HK6.out.cell 2
        have r3 := HK6.out.cell 3
        simp [TX.arr] at r0 r1 r2 r3
        have HC := Lib.hid (HIH.out k (List.mem_of_getElem? HK.out) w6 T0 ba bp bv base v1 (.slice (some ⟨g5, 0, none⟩) (P.length + 1) c5) (xs ++ ys) (P ++ [(j : Int)]) HV6.out ((HT.out.sub k (List.mem_of_getElem? HK.out)).low HB6.out) h1 h2 h3 (by rw [List.length_append]; omega) (by rw [List.length_append, List.length_cons, List.length_nil]; omega))
        unfold TX.val at HC
        clear hown5 hg5 hko hvk1 hk5 hlr hlb
        go_wp2_with fail
        refine (HC.out).mono ?_
        rintro e w7 ⟨rfl, v7, vp7, zs, hv7, hz7, hb7⟩
        have hrp7 := hv7.rp
        rw [List.length_append, List.length_cons, List.length_nil, List.map_append] at hrp7
        obtain ⟨g7, c7, rfl, hg7, -⟩ := hrp7.form (by omega)
        have hc7 : P.length + 1 ≤ c7 := by
          rcases hrp7.2 with ⟨e, _⟩ | ⟨g', cap, cur, e, _, _, hnc, _⟩
          · cases e
          · injection e with _ _ e3; omega
        have hpop := ownsRow_pop (by simp) hrp7
        have hgr : Grows w7 w7 (.slice (some ⟨g7, 0, none⟩) (P.length + 1) c7) (.slice (some ⟨g7, 0, none⟩) P.length c7) := ⟨World.grownBy.refl w7 _, fun g' e => .inl e⟩
        have HV8 := Lib.hid (hv7.walk hgr hpop)
        have HB8 : Hid (Below T0 w (w7.setCell ⟨bp, 0, none⟩ (.slice (some ⟨g7, 0, none⟩) P.length c7))) := (HB6.out.trans hb7).setCell (p := ⟨bp, 0, none⟩) h2 _
        have HY8 : Hid ((ys ++ zs).map PX.l = P :: T.pathss ((t.kids.take (j + 1)).map TX.plain) P 0) := by
          unfold Hid
          rw [List.map_append, HY.out, hz7, pathss_succ HK.out, List.cons_append]
        have k0 := hv7.p.cell 0
        simp at k0
        have kf := hv7.p.frozen 0
        clear hv7 hz7 hb7 hrp7 hpop hgr
        go_wp2_with fail
        go_roundw
        case rel => exact ⟨j + 1, v7, _, ys ++ zs, by omega, by go_num, by rw [← List.append_assoc]; exact HV8, HY8, HB8⟩
        case measure => simp [intOf]; omega
      · obtain rfl : j = t.kids.length := by omega
        have HE : Hid (ys.map PX.l = t.plain.paths P) := by
          unfold Hid
          rw [HY.out, paths_plain, List.take_length]
        go_wp2_with fail
        go_end0
        exact ⟨rfl, v1, vp1, ys, HV3.out, HE.out, HB3.out⟩
end Go.Proofs.Ythaepakpeamajaa
