/-
  Same, the reference's of trees. No condition.
-/
import Derived.Test.YtdabmjcpiblofaaDoorPkS
import Derived.Deep.RegionHeld3
namespace Go.Proofs.YtdabmjcpiblofaaDoor
open Go.RowKit
set_option linter.unusedVariables false

/-- a flag that tells P, and new memory alone -/
def RetB (w : World) (P : Prop) (e : Ending) (w' : World) : Prop := ∃ b : Bool, (b = true ↔ P) ∧ e = .returned (.bool b) ∧ Below w.heap.size w w'
def SameAt (w : World) (a b : TX) (f : FuncId) : Prop := Calls Tryd.prog f #[a.val, b.val] w (RetB w (a.plain = b.plain))
theorem plain_ne {a b : TX} (h : a.plain = b.plain) : a.kind = b.kind ∧ a.text = b.text ∧ a.leads = b.leads ∧ a.kids.map TX.plain = b.kids.map TX.plain := by
  rw [TX.plain_eq, TX.plain_eq] at h
  injection h with h1 h2 h3 h4
  exact ⟨h1, h2, h3, h4⟩
theorem plain_of {a b : TX} (h1 : a.kind = b.kind) (h2 : a.text = b.text) (h3 : a.leads = b.leads) (h4 : a.kids.map TX.plain = b.kids.map TX.plain) : a.plain = b.plain := by
  rw [TX.plain_eq, TX.plain_eq, h1, h2, h3, h4]
theorem map_at {l : List TX} {i : Nat} {k : TX} (h : l[i]? = some k) : (l.map TX.plain)[i]? = some k.plain := by rw [List.getElem?_map, h]; rfl
theorem Tr.c4 {w : World} {B ab ao : Nat} {t k : TX} (h : Tr w B t) {i : Nat} (hi : t.kids[i]? = some k) (hA : t.kA = some ⟨ab, ao, none⟩) : w.cell? ⟨ab, ao + i * 4, none⟩ = some (.int .i64 k.kind) ∧ w.cell? ⟨ab, ao + i * 4 + 1, none⟩ = some (.string k.text) ∧ w.cell? ⟨ab, ao + i * 4 + 2, none⟩ = some (.slice k.lA k.leads.length k.lc) ∧ w.cell? ⟨ab, ao + i * 4 + 3, none⟩ = some (.slice k.kA k.kids.length k.kc) := by
  obtain ⟨ab', ao', e, -, h'⟩ := h.at_ hi
  rw [hA] at e
  injection e with e
  injection e with e1 e2
  subst e1 e2
  exact h'

set_option maxRecDepth 100000 in
set_option maxRecDepth 100000 in
set_option maxHeartbeats 3200000 in
theorem rsame_any (a : TX) : ∀ (b : TX) (w : World), Tr w w.heap.size a → Tr w w.heap.size b → SameAt w a b 25 := by
  induction a using TX.ind with
  | h a ih =>
  intro b w ha hb
  unfold SameAt TX.val
  have HIH := Lib.hid ih
  have HA := Lib.hid ha
  have HB := Lib.hid hb
  have hka := ha.kb
  have hkb := hb.kb
  obtain ⟨kA, hkA⟩ : ∃ x, a.kA = x := ⟨_, rfl⟩
  have HKA := Lib.hid hkA
  obtain ⟨kB, hkB⟩ : ∃ x, b.kA = x := ⟨_, rfl⟩
  have HKB := Lib.hid hkB
  rw [hkA, hkB]
  obtain ⟨W, hW⟩ : ∃ W, (w.alloc (.cells #[.int .i64 a.kind, .string a.text, .slice a.lA a.leads.length a.lc, .slice kA a.kids.length a.kc] 42)).alloc (.cells #[.int .i64 b.kind, .string b.text, .slice b.lA b.leads.length b.lc, .slice kB b.kids.length b.kc] 42) = W := ⟨_, rfl⟩
  have HBW : Hid (Below w.heap.size w W) := by subst hW; exact ((Below.refl _ w).alloc (Nat.le_refl _) _).alloc (by simp) _
  have HX1 : Hid (Blk W w.heap.size 42 #[.int .i64 a.kind, .string a.text, .slice a.lA a.leads.length a.lc, .slice kA a.kids.length a.kc]) := by subst hW; exact (Blk.new w 42 _).alloc _
  have HX2 : Hid (Blk W (w.heap.size + 1) 42 #[.int .i64 b.kind, .string b.text, .slice b.lA b.leads.length b.lc, .slice kB b.kids.length b.kc]) := by
    subst hW
    have := Blk.new (w.alloc (.cells #[.int .i64 a.kind, .string a.text, .slice a.lA a.leads.length a.lc, .slice kA a.kids.length a.kc] 42)) 42 #[.int .i64 b.kind, .string b.text, .slice b.lA b.leads.length b.lc, .slice kB b.kids.length b.kc]
    have e : (w.alloc (.cells #[.int .i64 a.kind, .string a.text, .slice a.lA a.leads.length a.lc, .slice kA a.kids.length a.kc] 42)).heap.size = w.heap.size + 1 := by simp
    rw [e] at this
    exact this
  have c0 := HX1.out.cell 0
  have c1 := HX1.out.cell 1
  have c2 := HX1.out.cell 2
  have c3 := HX1.out.cell 3
  have d0 := HX2.out.cell 0
  have d1 := HX2.out.cell 1
  have d2 := HX2.out.cell 2
  have d3 := HX2.out.cell 3
  simp at c0 c1 c2 c3 d0 d1 d2 d3
  have HQ := Lib.hid (fun wx (hx : Below w.heap.size w wx) => texts_any a.lA b.lA a.lc b.lc _ _ a.leads b.leads wx (HA.out.rl.below hx) (HB.out.rl.below hx) HA.out.lb HB.out.lb)
  have HQW := Lib.hid (HQ.out W HBW.out)
  clear ih ha hb hkA hkB
  by_cases ek : a.kind = b.kind
  rotate_left
  · have HN : Hid (false = true ↔ a.plain = b.plain) := ⟨(fun h => by cases h), fun h => absurd (plain_ne h).1 ek⟩
    have n1 : (a.kind != b.kind) = true := by simpa using ek
    have n2 : (a.kind == b.kind) = false := by simpa using ek
    clear ek
    go_enter Tryd.func25, Tryd.ntmps25
    go_wp2_with fail
    go_ret
    exact ⟨false, HN.out, rfl, HBW.out⟩
  have k1 : (a.kind != b.kind) = false := by simpa using ek
  have k2 : (a.kind == b.kind) = true := by simpa using ek
  have HEK := Lib.hid ek
  clear ek
  by_cases et : a.text = b.text
  rotate_left
  · have HN : Hid (false = true ↔ a.plain = b.plain) := ⟨(fun h => by cases h), fun h => absurd (plain_ne h).2.1 et⟩
    have n1 : (a.text.toList == b.text.toList) = false := by simpa using (fun h => et (ba_eq h))
    clear et
    go_enter Tryd.func25, Tryd.ntmps25
    go_wp2_with fail
    go_ret
    exact ⟨false, HN.out, rfl, HBW.out⟩
  have t1 : (a.text.toList == b.text.toList) = true := by simp [et]
  have HET := Lib.hid et
  clear et
  by_cases es : a.leads = b.leads
  rotate_left
  · have HN : Hid (false = true ↔ a.plain = b.plain) := ⟨(fun h => by cases h), fun h => absurd (plain_ne h).2.2.1 es⟩
    rw [decide_eq_false es] at HQW
    clear es
    go_enter Tryd.func25, Tryd.ntmps25
    go_wp2_with fail
    refine (HQW.out).mono ?_
    rintro e w1 ⟨rfl, q, rfl⟩
    go_wp2_with fail
    go_ret
    exact ⟨false, HN.out, rfl, below_drewN HBW.out q⟩
  rw [decide_eq_true es] at HQW
  have HES := Lib.hid es
  clear es
  by_cases el : a.kids.length = b.kids.length
  rotate_left
  · have HN : Hid (false = true ↔ a.plain = b.plain) := ⟨(fun h => by cases h), fun h => absurd (by have := congrArg List.length (plain_ne h).2.2.2; simpa using this) el⟩
    have n1 : ((a.kids.length : Int) != (b.kids.length : Int)) = true := by simp; omega
    have n2 : ((a.kids.length : Int) == (b.kids.length : Int)) = false := by simp; omega
    have n3 : (a.kids.length == b.kids.length) = false := by simp; omega
    have n4 : (a.kids.length != b.kids.length) = true := by simp; omega
    clear el
    go_enter Tryd.func25, Tryd.ntmps25
    go_wp2_with fail
    refine (HQW.out).mono ?_
    rintro e w1 ⟨rfl, q, rfl⟩
    go_wp2_with fail
    go_ret
    exact ⟨false, HN.out, rfl, below_drewN HBW.out q⟩
  obtain ⟨n, hn⟩ : ∃ n, a.kids.length = n := ⟨_, rfl⟩
  have hn' : b.kids.length = n := by omega
  rw [hn] at HX1 c3 hka hW
  rw [hn'] at HX2 d3 hkb hW
  rw [hn, hn']
  have HN1 := Lib.hid hn
  have HN2 := Lib.hid hn'
  clear hn hn' el
  go_enter Tryd.func25, Tryd.ntmps25
  go_wp2_with fail
  refine (HQW.out).mono ?_
  rintro e w1 ⟨rfl, q, rfl⟩
  go_wp2_with fail
  have HW := Lib.hid hW
  have HBQ : Hid (Below W.heap.size W (W.drewN q)) := below_drewN (Below.refl _ W) q
  clear hW c0 c1 c2 c3 d0 d1 d2 d3 k1 k2 t1 HQ HQW
  go_loopw [5] (fun i wr => ∃ j : Nat, j ≤ n ∧ i = .int .i64 (j : Int) ∧ Hid ((a.kids.map TX.plain).take j = (b.kids.map TX.plain).take j) ∧ Hid (Below W.heap.size W wr)) (fun i _ => n - (intOf i).toNat)
  case atStart => exact ⟨0, by omega, rfl, rfl, HBQ⟩
  case round =>
    obtain ⟨j, hj, rfl, HT, HBR⟩ := hrel
    have HL1 := Lib.hid HX1.out.lt
    have HL2 := Lib.hid HX2.out.lt
    have HBB : Hid (Below w.heap.size w wr) := HBW.out.trans (HBR.out.mono HBW.out.size)
    have c3 := (HX1.out.below HBR.out HL1.out).cell 3
    have d3 := (HX2.out.below HBR.out HL2.out).cell 3
    simp at c3 d3
    by_cases hlt : j < n
    · obtain ⟨k, hk⟩ : ∃ k, a.kids[j]? = some k := ⟨_, List.getElem?_eq_getElem (by rw [HN1.out]; exact hlt)⟩
      obtain ⟨l, hl⟩ : ∃ l, b.kids[j]? = some l := ⟨_, List.getElem?_eq_getElem (by rw [HN2.out]; exact hlt)⟩
      obtain ⟨ab, ao, hA, hab, -⟩ := HA.out.at_ hk
      obtain ⟨bb, bo, hB, hbb, -⟩ := HB.out.at_ hl
      obtain rfl : kA = some ⟨ab, ao, none⟩ := HKA.out.symm.trans hA
      obtain rfl : kB = some ⟨bb, bo, none⟩ := HKB.out.symm.trans hB
      have HSK : Hid (∀ w' : World, Below W.heap.size W w' → w'.cell? ⟨w.heap.size, 3, none⟩ = some (.slice (some ⟨ab, ao, none⟩) n a.kc) ∧ w'.cell? ⟨w.heap.size + 1, 3, none⟩ = some (.slice (some ⟨bb, bo, none⟩) n b.kc) ∧ w'.cell? ⟨ab, ao + j * 4, none⟩ = some (.int .i64 k.kind) ∧ w'.cell? ⟨ab, ao + j * 4 + 1, none⟩ = some (.string k.text) ∧ w'.cell? ⟨ab, ao + j * 4 + 2, none⟩ = some (.slice k.lA k.leads.length k.lc) ∧ w'.cell? ⟨ab, ao + j * 4 + 3, none⟩ = some (.slice k.kA k.kids.length k.kc) ∧ w'.cell? ⟨bb, bo + j * 4, none⟩ = some (.int .i64 l.kind) ∧ w'.cell? ⟨bb, bo + j * 4 + 1, none⟩ = some (.string l.text) ∧ w'.cell? ⟨bb, bo + j * 4 + 2, none⟩ = some (.slice l.lA l.leads.length l.lc) ∧ w'.cell? ⟨bb, bo + j * 4 + 3, none⟩ = some (.slice l.kA l.kids.length l.kc)) := fun w' hw => by
        have hww := HBW.out.trans (hw.mono HBW.out.size)
        exact ⟨by rw [(HX1.out.below hw HL1.out).cell]; rfl, by rw [(HX2.out.below hw HL2.out).cell]; rfl, (HA.out.low hww).c4 hk HKA.out |>.1, (HA.out.low hww).c4 hk HKA.out |>.2.1, (HA.out.low hww).c4 hk HKA.out |>.2.2.1, (HA.out.low hww).c4 hk HKA.out |>.2.2.2, (HB.out.low hww).c4 hl HKB.out |>.1, (HB.out.low hww).c4 hl HKB.out |>.2.1, (HB.out.low hww).c4 hl HKB.out |>.2.2.1, (HB.out.low hww).c4 hl HKB.out |>.2.2.2⟩
      have HBD : Hid (Below W.heap.size W wr.drew) := below_drewN HBR.out 1
      have HBD0 : Hid (Below w.heap.size w wr.drew) := below_drewN HBB.out 1
      have HC := Lib.hid (HIH.out k (List.mem_of_getElem? hk) l wr.drew ((HA.out.sub k (List.mem_of_getElem? hk)).up (Nat.le_refl _) HBD0.out) ((HB.out.sub l (List.mem_of_getElem? hl)).up (Nat.le_refl _) HBD0.out))
      unfold SameAt TX.val at HC
      obtain ⟨-, -, f0, f1, f2, f3, g0, g1, g2, g3⟩ := HSK.out wr HBR.out
      have i0 : (0 : Int) ≤ (j : Int) := by omega
      have i1 : (j : Int) < (n : Int) := by omega
      have HK1 := Lib.hid hk
      have HK2 := Lib.hid hl
      clear hk hl hA hB
      go_wp2_with fail
      go_region_held3 (fun w' => w'.cell? ⟨w.heap.size, 3, none⟩ = some (.slice (some ⟨ab, ao, none⟩) n a.kc) ∧ w'.cell? ⟨w.heap.size + 1, 3, none⟩ = some (.slice (some ⟨bb, bo, none⟩) n b.kc) ∧ w'.cell? ⟨ab, ao + j * 4, none⟩ = some (.int .i64 k.kind) ∧ w'.cell? ⟨ab, ao + j * 4 + 1, none⟩ = some (.string k.text) ∧ w'.cell? ⟨ab, ao + j * 4 + 2, none⟩ = some (.slice k.lA k.leads.length k.lc) ∧ w'.cell? ⟨ab, ao + j * 4 + 3, none⟩ = some (.slice k.kA k.kids.length k.kc) ∧ w'.cell? ⟨bb, bo + j * 4, none⟩ = some (.int .i64 l.kind) ∧ w'.cell? ⟨bb, bo + j * 4 + 1, none⟩ = some (.string l.text) ∧ w'.cell? ⟨bb, bo + j * 4 + 2, none⟩ = some (.slice l.lA l.leads.length l.lc) ∧ w'.cell? ⟨bb, bo + j * 4 + 3, none⟩ = some (.slice l.kA l.kids.length l.kc)) (first | exact HSK.out _ HBD.out | exact HSK.out _ HB1.out) (first | (go_at_call 25; refine (HC.out).mono ?_; rintro e w1 ⟨bv, hbv, rfl, hb1⟩; have HV := Lib.hid hbv; have HB1 := Lib.hid (HBD.out.trans (hb1.mono HBD.out.size)); clear hbv hb1))
      clear c3 d3 f0 f1 f2 f3 g0 g1 g2 g3
      rcases bv with _ | _
      · have HN : Hid (false = true ↔ a.plain = b.plain) := ⟨(fun h => by cases h), fun h => by
          have h1 := map_at HK1.out
          have h2 := map_at HK2.out
          exact absurd (plain_ne h).2.2.2 (ne_at h1 h2 (fun e => by have := HV.out.2 e; cases this))⟩
        go_wp2_with fail
        go_ret
        exact ⟨false, HN.out, rfl, HBW.out.trans (HB1.out.mono HBW.out.size)⟩
      · have HT2 : Hid ((a.kids.map TX.plain).take (j + 1) = (b.kids.map TX.plain).take (j + 1)) := take_eq_succ HT.out (map_at HK1.out) (by rw [map_at HK2.out, HV.out.1 rfl])
        go_wp2_with fail
        go_roundw
        case rel => exact ⟨j + 1, by omega, by go_num, HT2, HB1⟩
        case measure => simp [intOf]; omega
    · have HN : Hid (a.plain = b.plain) := plain_of HEK.out HET.out HES.out (by
        have h := HT.out
        rw [List.take_of_length_le (by rw [List.length_map, HN1.out]; omega), List.take_of_length_le (by rw [List.length_map, HN2.out]; omega)] at h
        exact h)
      go_wp2_with fail
      go_ret
      exact ⟨true, ⟨fun _ => HN.out, fun _ => rfl⟩, rfl, HBB.out⟩
end Go.Proofs.YtdabmjcpiblofaaDoor
