/-
  restore: the leads given back to a tree of one's own. No condition.
-/
import Derived.Test.YthaepakpeamajaaTrK
namespace Go.Proofs.Ythaepakpeamajaa
open Go.RowKit
set_option linter.unusedVariables false

def RestPost (w : World) (g o lo hi : Nat) (cs : Array Value) (r t : TX) (e : Ending) (w' : World) : Prop :=
  e = .returned (.tuple #[]) ∧ ∃ y : TX, y.plain = t.plain ∧ (y.kind = r.kind ∧ y.text = r.text ∧ y.kA = r.kA ∧ y.kids.length = r.kids.length ∧ y.kc = r.kc) ∧ Fr w' lo hi y ∧ Blk w' g 25 (cs.setIfInBounds (o + 2) (.slice y.lA y.leads.length y.lc)) ∧ TC w w' (fun b => b = g ∨ (lo ≤ b ∧ b < hi))
structure SInv (W wr : World) (t : TX) (n kb : Nat) (f : Nat → Nat) (lo hi j : Nat) (rs : List TX) : Prop where
  tc : TC W wr (fun b => lo ≤ b ∧ b < hi)
  len : rs.length = n
  blk : Blk wr kb 25 (rs.flatMap TX.cells).toArray
  fr : ∀ i k, rs[i]? = some k → Fr wr (f i) (f (i + 1)) k
  pl : ∀ i k k', rs[i]? = some k → t.kids[i]? = some k' → k.plain = if i < j then k'.plain else k'.plain.bare
theorem SInv.step {W wr w1 : World} {t : TX} {n kb : Nat} {f : Nat → Nat} {lo hi j : Nat} {rs : List TX} {x y k : TX} (h : SInv W wr t n kb f lo hi j rs) (f0 : lo ≤ kb) (f1 : kb < f 0) (f2 : ∀ i, f i ≤ f (i + 1)) (f3 : f n ≤ hi)
    (hj : rs[j]? = some x) (hk : t.kids[j]? = some k) (hp : y.plain = k.plain) (hs : y.kind = x.kind ∧ y.text = x.text ∧ y.kA = x.kA ∧ y.kids.length = x.kids.length ∧ y.kc = x.kc) (hf : Fr w1 (f j) (f (j + 1)) y) (hb : Blk w1 kb 25 ((rs.flatMap TX.cells).toArray.setIfInBounds (j * 4 + 2) (.slice y.lA y.leads.length y.lc)))
    (htc : TC wr w1 (fun b => b = kb ∨ (f j ≤ b ∧ b < f (j + 1)))) : SInv W w1 t n kb f lo hi (j + 1) (rs.set j y) := by
  have m0 := fun {i j : Nat} (h : i ≤ j) => mono_le f2 h
  have hjl := (List.getElem?_eq_some_iff.1 hj).1
  have hn := h.len
  have q0 := m0 (Nat.zero_le j)
  have q1 := m0 (show j + 1 ≤ n by omega)
  have q2 := m0 (Nat.zero_le n)
  obtain ⟨s0, s1, s2, s3, s4⟩ := hs
  refine ⟨h.tc.trans (htc.mono (fun b _ hb => by omega)), by rw [List.length_set, hn], ?_, fun i z hz => ?_, fun i z k' hz hk' => ?_⟩
  · rw [List.setIfInBounds_toArray, flat_lead hj s0 s1 s2 s3 s4] at hb
    exact hb
  · rw [List.getElem?_set] at hz
    by_cases e : j = i
    · subst e
      rw [if_pos rfl, if_pos (by omega)] at hz
      injection hz with hz
      subst hz
      exact hf
    · rw [if_neg e] at hz
      have hil := (List.getElem?_eq_some_iff.1 hz).1
      have r0 := m0 (Nat.zero_le i)
      refine (h.fr i z hz).tc htc (fun b h1 h2 h3 => ?_)
      rcases h3 with h3 | h3
      · omega
      · rcases Nat.lt_or_ge i j with h4 | h4
        · have := m0 (show i + 1 ≤ j by omega); omega
        · have := m0 (show j + 1 ≤ i by omega); omega
  · rw [List.getElem?_set] at hz
    by_cases e : j = i
    · subst e
      rw [if_pos rfl, if_pos (by omega)] at hz
      injection hz with hz
      subst hz
      rw [hk] at hk'
      injection hk' with hk'
      subst hk'
      rw [if_pos (by omega)]
      exact hp
    · rw [if_neg e] at hz
      rw [h.pl i z k' hz hk']
      rcases Nat.lt_or_ge i j with h4 | h4
      · rw [if_pos h4, if_pos (by omega)]
      · rw [if_neg (by omega), if_neg (by omega)]
theorem bare_parts {r t : TX} (h : r.plain = t.plain.bare) : r.kind = t.kind ∧ r.text = t.text ∧ r.kids.length = t.kids.length ∧ ∀ (i : Nat) (k k' : TX), r.kids[i]? = some k → t.kids[i]? = some k' → k.plain = k'.plain.bare := by
  rw [bare_plain, TX.plain_eq] at h
  injection h with h1 h2 h3 h4
  refine ⟨h1, h2, by simpa using congrArg List.length h4, fun i k k' hk hk' => ?_⟩
  have := congrArg (·[i]?) h4
  simp only [List.getElem?_map, hk, hk', Option.map_some, Option.some.injEq] at this
  exact this
theorem SInv.done {W wr : World} {t r : TX} {kb : Nat} {f : Nat → Nat} {lo hi : Nat} {rs : List TX} {A : Option Addr} {c : Nat} (h : SInv W wr t t.kids.length kb f lo hi t.kids.length rs) (hA : r.kA = some ⟨kb, 0, none⟩) (f0 : lo ≤ kb) (f1 : kb < f 0) (f2 : ∀ i, f i ≤ f (i + 1)) (f3 : f t.kids.length ≤ hi) (hrt : r.plain = t.plain.bare)
    (kbd : t.kids.length * 72 ≤ 140737488351232) (kc : t.kids.length ≤ r.kc) (lb : t.leads.length * 16 ≤ 140737488351232) (kr : -9223372036854775808 ≤ t.kind ∧ t.kind ≤ 9223372036854775807) (hl : W.ownsRow 0 9 1 (.slice A t.leads.length c) t.leads.length (t.leads.map Value.string)) :
    ∃ y : TX, y.plain = t.plain ∧ (y.kind = r.kind ∧ y.text = r.text ∧ y.kA = r.kA ∧ y.kids.length = r.kids.length ∧ y.kc = r.kc) ∧ Fr wr lo hi y ∧ y.lA = A ∧ y.leads.length = t.leads.length ∧ y.lc = c := by
  obtain ⟨p1, p2, p3, -⟩ := bare_parts hrt
  obtain ⟨y, hy⟩ : ∃ y : TX, y = .node r.kind r.text A t.leads c r.kA rs r.kc := ⟨_, rfl⟩
  have hyk : y.kids = rs := by rw [hy]; rfl
  refine ⟨y, ?_, ⟨by rw [hy]; rfl, by rw [hy]; rfl, by rw [hy]; rfl, by rw [hyk, h.len, p3], by rw [hy]; rfl⟩, ?_, by rw [hy]; rfl, by rw [hy]; rfl, by rw [hy]; rfl⟩
  · rw [TX.plain_eq, TX.plain_eq t, hyk]
    have e : rs.map TX.plain = t.kids.map TX.plain := by
      apply List.ext_getElem?
      intro i
      rw [List.getElem?_map, List.getElem?_map]
      rcases Nat.lt_or_ge i t.kids.length with hi | hi
      · have h1 := List.getElem?_eq_getElem (l := rs) (i := i) (by rw [h.len]; exact hi)
        have h2 := List.getElem?_eq_getElem (l := t.kids) (i := i) hi
        have := h.pl i _ _ h1 h2
        rw [if_pos hi] at this
        rw [h1, h2, Option.map_some, Option.map_some, this]
      · rw [List.getElem?_eq_none (by rw [h.len]; exact hi), List.getElem?_eq_none hi]
    rw [e, hy]
    show T.node r.kind r.text t.leads _ = _
    rw [p1, p2]
  · exact .node y lo hi kb f (by rw [hy]; exact hA) (by rw [hyk]; exact h.blk) (by rw [hy]; exact h.tc.owns hl) (by rw [hyk, h.len]; exact kbd) (by rw [hyk, h.len, hy]; exact kc) (by rw [hy]; exact lb) (by rw [hy]; show _ ≤ r.kind ∧ r.kind ≤ _; rw [p1]; exact kr) f0 f1 f2 (by rw [hyk, h.len]; exact f3) (fun i k hk => h.fr i k (hyk ▸ hk))
theorem Fr.tr_low {w : World} {lo hi : Nat} {t : TX} (h : Fr w lo hi t) : -9223372036854775808 ≤ t.kind ∧ t.kind ≤ 9223372036854775807 := h.tr.kr
theorem str_info : (Try.prog.info? 9).map (fun i => (i.zero, i.size, i.bytes)) = some (some (.string ByteArray.empty), 1, 16) := by kernel_rfl
theorem map_str_one (l : List ByteArray) : ∀ u ∈ l.map Value.string, u.oneCell' = true := fun u hu => by
  obtain ⟨s, -, rfl⟩ := List.mem_map.1 hu
  rfl

set_option maxRecDepth 100000 in
set_option maxHeartbeats 1600000 in
theorem restore_any (t : TX) : ∀ (w : World) (g o lo hi L : Nat) (cs : Array Value) (r : TX), Tr w L t → Fr w lo hi r → r.plain = t.plain.bare → Blk w g 25 cs → cs[o + 2]? = some (.slice r.lA r.leads.length r.lc) → cs[o + 3]? = some (.slice r.kA r.kids.length r.kc) → ¬ (lo ≤ g ∧ g < hi) → L ≤ g → L ≤ lo → hi ≤ w.heap.size → L ≤ w.heap.size →
    Calls Try.prog 37 #[.pointer (some ⟨g, o, none⟩), t.val] w (RestPost w g o lo hi cs r t) := by
  induction t using TX.ind with
  | h t ih =>
  intro w g o lo hi L cs r ht hr hrt hB hc2 hc3 hg hLg hLlo hhi hLw
  unfold TX.val
  have HIH := Lib.hid ih
  have H := Lib.hid ht
  have hkb := ht.kb
  have hlb := ht.lb
  have HKB := Lib.hid ht.kbs
  have HLB := Lib.hid ht.lbs
  obtain ⟨i0, HI0, HZ0⟩ := Option.map_eq_some_iff.1 str_info
  have hz1 : i0.zero = some (.string ByteArray.empty) := by injection HZ0
  have hz2 : i0.size = 1 := by injection HZ0 with _ h; injection h
  have hz3 : i0.bytes = 16 := by injection HZ0 with _ h; injection h
  have HI := Lib.hid HI0
  have HZ1 := Lib.hid hz1
  have HZ2 := Lib.hid hz2
  have HZ3 := Lib.hid hz3
  obtain ⟨W, hW⟩ : ∃ W, w.alloc (.cells #[.int .i64 t.kind, .string t.text, .slice t.lA t.leads.length t.lc, .slice t.kA t.kids.length t.kc] 25) = W := ⟨_, rfl⟩
  have HBW : Hid (Below w.heap.size w W) := by subst hW; exact (Below.refl _ w).alloc (Nat.le_refl _) _
  have HX : Hid (Blk W w.heap.size 25 t.arr) := by subst hW; exact Blk.new w 25 _
  have d2 := HX.out.cell 2
  simp [TX.arr] at d2
  have HSR : Hid (Src Try.prog 1 22 (.slice t.lA t.leads.length t.lc) t.leads.length (t.leads.map Value.string) W) := src_reads W Try.underlying22 t.lc (ht.rl.below (HBW.out.mono hLw)) (map_str_one _)
  have HLM : Hid (0 + t.leads.length ≤ maxLen) := by unfold Hid maxLen; omega
  have HLBB : Hid ((0 + t.leads.length) * 16 ≤ 140737488355328) := by have := HLB.out; unfold Hid; omega
  have HON : Hid (W.ownsRow 0 9 1 (.slice none 0 0) 0 []) := ⟨rfl, .inl ⟨rfl, rfl⟩⟩
  have HB := Lib.hid hB
  have HR := Lib.hid hr
  have HRT := Lib.hid hrt
  have HC2 := Lib.hid hc2
  have HC3 := Lib.hid hc3
  have HG := Lib.hid hg
  clear ih ht hr hrt hB hc2 hc3 hg HI0 HZ0 hz1 hz2 hz3
  go_enter Try.func37, Try.ntmps37
  go_wp2_with (at_builtin; refine wpList_append_row _ rfl (.const (.slice none 0 0)) (.tmp 7) 22 22 rfl 0 9 i0 (.string ByteArray.empty) 1 16 Try.underlying22 HI.out HZ1.out HZ2.out HZ3.out rfl (by decide) (.slice none 0 0) 0 [] rfl HON.out (.slice t.lA t.leads.length t.lc) t.leads.length (t.leads.map Value.string) rfl HSR.out HLM.out HLBB.out (Nat.zero_le _) ?_)
  intro v1 w1 hown hgr
  obtain ⟨A1, c1, rfl, -, -⟩ := reads_of_owns hown
  have hb1 : Below W.heap.size W w1 := hgr.below_new
  have hBW := HBW.out
  have hzW := hBW.size
  have hbb : Below w.heap.size w w1 := hBW.trans (hb1.mono hzW)
  have hBg := HB.out.below hbb HB.out.lt
  have g2 := hBg.cell (o + 2)
  have g3 := hBg.cell (o + 3)
  rw [HC2.out] at g2
  rw [HC3.out] at g3
  have z2 := hBg.frozen (o + 2)
  obtain ⟨W2, hW2⟩ : ∃ W2, w1.setCell ⟨g, o + 2, none⟩ (.slice A1 t.leads.length c1) = W2 := ⟨_, rfl⟩
  have hgl := HB.out.lt
  have HTC : Hid (TC w W2 (fun b => b = g)) := by subst hW2; exact (TC.of_below hbb _).trans (TC.set_ (S := fun b => b = g) hBg (by decide) rfl _ _)
  have HX2 : Hid (Blk W2 w.heap.size 25 t.arr) := by subst hW2; exact ((HX.out.below hb1 HX.out.lt).far (p := ⟨g, o + 2, none⟩) (by show w.heap.size ≠ g; omega) _)
  have HG2 : Hid (Blk W2 g 25 (cs.setIfInBounds (o + 2) (.slice A1 t.leads.length c1))) := by subst hW2; exact hBg.set_ _ _
  have HOW : Hid (W2.ownsRow 0 9 1 (.slice A1 t.leads.length c1) t.leads.length (t.leads.map Value.string)) := by subst hW2; exact (TC.set_ (S := fun b => b = g) hBg (by decide) rfl _ _).owns hown
  have HFR : Hid (Fr W2 lo hi r) := HR.out.tc HTC.out (fun b h1 h2 h3 => HG.out (by subst h3; exact ⟨h1, h2⟩))
  have q3 := HG2.out.cell (o + 3)
  rw [Array.getElem?_setIfInBounds_ne (by omega), HC3.out] at q3
  have HLW : Hid (Below L w W2) := HTC.out.below hLw (fun b h => by omega)
  obtain ⟨p1, p2, p3, p4⟩ := bare_parts HRT.out
  rw [p3] at g3 q3
  have HP := Lib.hid p4
  have HN := Lib.hid p3
  clear hown hgr hb1 hBW hzW hbb hBg p1 p2 p3 p4
  rcases hq : HFR.out with ⟨_, _, _, hk0, hl0, lb0, kr0⟩ | ⟨_, _, _, kb, f, hA, hBk, hl0, kbd, kc, lb0, kr0, f0, f1, f2, f3, sub⟩
  · have hn0 : t.kids.length = 0 := by rw [← HN.out, hk0]; rfl
    have HPO : Hid (RestPost w g o lo hi cs r t (.returned (.tuple #[])) W2) := by
      obtain ⟨p1, p2, p3, -⟩ := bare_parts HRT.out
      have htk : t.kids = [] := List.eq_nil_of_length_eq_zero hn0
      refine ⟨rfl, .node r.kind r.text A1 t.leads c1 r.kA [] r.kc, ?_, ⟨rfl, rfl, rfl, by rw [hk0]; rfl, rfl⟩, .leaf _ _ _ rfl HOW.out HLB.out kr0, HG2.out, HTC.out.mono (fun b _ h => .inl h)⟩
      rw [TX.plain_eq, TX.plain_eq t, htk]
      show T.node r.kind r.text t.leads _ = _
      rw [p1, p2]
      rfl
    rw [hn0] at g3 q3
    clear hq hk0 hl0 lb0 kr0 hn0
    go_wp2_with fail
    clear hW2 g2 g3 z2 d2 hW q3
    go_loopw [16] (fun i wr => i = .int .i64 0 ∧ wr = W2) (fun i _ => 0)
    case atStart => exact ⟨rfl, rfl⟩
    case round =>
      obtain ⟨rfl, rfl⟩ := hrel
      go_wp2_with fail
      go_end0
      exact HPO.out
  · rw [hA] at g3 q3
    have HS0 : Hid (SInv W2 W2 t t.kids.length kb f lo hi 0 r.kids) := ⟨TC.refl _ _, HN.out, hBk, sub, fun i k k' h1 h2 => by rw [if_neg (by omega)]; exact HP.out i k k' h1 h2⟩
    have HA := Lib.hid hA
    have HF2 := Lib.hid f2
    have HF3 := Lib.hid f3
    have HKC := Lib.hid kc
    clear hq hBk hl0 kbd lb0 kr0 sub hA f2 f3 kc
    go_wp2_with fail
    clear hW2 g2 g3 z2 d2 hW q3
    go_loopw [16] (fun i wr => ∃ (j : Nat) (rs : List TX), j ≤ t.kids.length ∧ i = .int .i64 (j : Int) ∧ Hid (SInv W2 wr t t.kids.length kb f lo hi j rs)) (fun i _ => t.kids.length - (intOf i).toNat)
    case atStart => exact ⟨0, r.kids, by omega, rfl, HS0⟩
    case round =>
      obtain ⟨j, rs, hj, rfl, HS⟩ := hrel
      by_cases hlt : j < t.kids.length
      · obtain ⟨k, hk⟩ : ∃ k, t.kids[j]? = some k := ⟨_, List.getElem?_eq_getElem hlt⟩
        obtain ⟨x, hx⟩ : ∃ x, rs[j]? = some x := ⟨_, List.getElem?_eq_getElem (by rw [HS.out.len]; exact hlt)⟩
        have hgn := HG.out
        have HLR : Hid (Below L w wr) := HLW.out.trans ((HS.out.tc.below (by have := HTC.out.size; omega) (fun b h => by omega)))
        obtain ⟨ab, ao, hA, hab, e0, e1, e2, e3⟩ := (H.out.low HLR.out).at_ hk
        have hgk := HS.out.tc.blk HG2.out hgn
        have hxk := HS.out.tc.blk HX2.out (by omega)
        have c3 := hgk.cell (o + 3)
        rw [Array.getElem?_setIfInBounds_ne (by omega), HC3.out, HN.out, HA.out] at c3
        have d3 := hxk.cell 3
        simp [TX.arr] at d3
        rw [hA] at d3
        have m0 := fun {i j : Nat} (h : i ≤ j) => mono_le HF2.out h
        have r0 := m0 (Nat.zero_le j)
        have r1 := m0 (show j + 1 ≤ t.kids.length by omega)
        have hf3 := HF3.out
        rw [HN.out] at hf3
        have e2' := flat_at TX.cells_len rs j 2 x hx (by omega)
        have e3' := flat_at TX.cells_len rs j 3 x hx (by omega)
        have hsz := HS.out.tc.size
        have hsz2 := HTC.out.size
        have hpl := HS.out.pl j x k hx hk
        rw [if_neg (by omega)] at hpl
        have HC := Lib.hid (HIH.out k (List.mem_of_getElem? hk) wr.drew kb (j * 4) (f j) (f (j + 1)) L (rs.flatMap TX.cells).toArray x ((H.out.sub k (List.mem_of_getElem? hk)).low (below_drewN HLR.out 1)) ((HS.out.fr j x hx).tc ((TC.refl wr (fun _ => False)).drewN 1) (fun _ _ _ h => h)) hpl HS.out.blk.drew (by rw [List.getElem?_toArray]; exact e2') (by rw [List.getElem?_toArray]; exact e3') (by omega) (by omega) (by omega) (by show f (j + 1) ≤ wr.heap.size; omega) (by show L ≤ wr.heap.size; omega))
        unfold TX.val at HC
        have i0' : (0 : Int) ≤ (j : Int) := by omega
        have i1' : (j : Int) < (t.kids.length : Int) := by omega
        have HK := Lib.hid hk
        have HXX := Lib.hid hx
        have HF3' := Lib.hid hf3
        clear hA hk hx hgk hxk hpl e2' e3' hf3 r0 r1 m0
        go_wp2_with fail
        refine region_tail 11 (by kernel_rfl) (by kernel_rfl) _ rfl ?_
        simp only [List.take_succ_cons, List.take_zero, List.drop_succ_cons, List.drop_zero]
        repeat (go_big_quiet_step (fail))
        refine wpQuiet_nil ?_
        go_wp2_with fail
        refine (HC.out).mono ?_
        rintro e w3 ⟨rfl, y, hy1, hy2, hy3, hy4, hy5⟩
        have HNX := Lib.hid (HS.out.step f0 f1 HF2.out HF3'.out HXX.out HK.out hy1 hy2 hy3 hy4 (((TC.refl wr _).drewN 1).trans hy5))
        clear hy1 hy2 hy3 hy4 hy5
        go_wp2_with fail
        go_roundw
        case rel => exact ⟨j + 1, rs.set j y, by omega, by go_num, HNX⟩
        case measure => simp [intOf]; omega
      · obtain rfl : j = t.kids.length := by omega
        have HD := Lib.hid (HS.out.done HA.out f0 f1 HF2.out (by rw [← HN.out]; exact HF3.out) HRT.out HKB.out (by rw [← HN.out]; exact HKC.out) HLB.out H.out.kr HOW.out)
        go_wp2_with fail
        go_end0
        obtain ⟨y, hy1, hy2, hy3, rfl, hy4, rfl⟩ := HD.out
        exact ⟨rfl, y, hy1, hy2, hy3, by rw [hy4]; exact HS.out.tc.blk HG2.out HG.out, (HTC.out.mono (fun b _ h => .inl h)).trans (HS.out.tc.mono (fun b _ h => .inr h))⟩
end Go.Proofs.Ythaepakpeamajaa
