/-
  Bare, the program's. No condition.
-/
import Derived.Test.YthaepakpeamajaaTrH
import Derived.Test.YthaepakpeamajaaTrI
namespace Go.Proofs.Ythaepakpeamajaa
open Go.RowKit
set_option linter.unusedVariables false

theorem tree_info : (Try.prog.info? 25).map (fun i => (i.zero, i.size, i.bytes)) = some (some (.agg zeroArr), 4, 72) := by kernel_rfl
theorem make_trees (n : Nat) (hn : n * 72 ≤ 140737488351232) (w : World) : (Instr.makeSlice 23 (.int .i64 (n : Int)) (.int .i64 (n : Int))).run Try.prog w = .ok (.slice (some ⟨w.heap.size, 0, none⟩) n n) (w.alloc (.cells ((List.replicate n TX.zero).flatMap TX.cells).toArray 25)) := by
  obtain ⟨i, hi, hr⟩ := Option.map_eq_some_iff.1 tree_info
  injection hr with hz hr
  injection hr with hs hb
  have h := run_make (P := Try.prog) w 23 25 i (.agg zeroArr) Try.underlying23 hi hz .i64 .i64 n n (by omega) (by omega) (by rw [hb]; omega) (by omega)
  rw [hs] at h
  have e : Value.cells (.agg zeroArr) = #[.int .i64 0, .string ByteArray.empty, .slice none 0 0, .slice none 0 0] := by simp [Value.cells, zeroArr]
  rw [e, Int.toNat_natCast, made_trees] at h
  exact h

def BarePost (w : World) (t : TX) (e : Ending) (w' : World) : Prop := ∃ r : TX, e = .returned r.val ∧ r.plain = t.plain.bare ∧ Fr w' w.heap.size w'.heap.size r ∧ Below w.heap.size w w'
structure BInv (w wr : World) (t : TX) (j : Nat) (rs : List TX) : Prop where
  bel : Below w.heap.size w wr
  b0 : Blk wr w.heap.size 25 t.arr
  b1 : Blk wr (w.heap.size + 1) 25 zeroArr
  b2 : Blk wr (w.heap.size + 1 + 1) 25 #[.int .i64 t.kind, .string t.text, .slice none 0 0, .slice (some ⟨w.heap.size + 1 + 1 + 1, 0, none⟩) t.kids.length t.kids.length]
  b3 : Blk wr (w.heap.size + 1 + 1 + 1) 25 ((rs ++ List.replicate (t.kids.length - j) TX.zero).flatMap TX.cells).toArray
  len : rs.length = j
  own : ∃ f : Nat → Nat, w.heap.size + 1 + 1 + 1 < f 0 ∧ (∀ i, f i ≤ f (i + 1)) ∧ f j ≤ wr.heap.size ∧ ∀ i k, rs[i]? = some k → Fr wr (f i) (f (i + 1)) k
  pl : rs.map TX.plain = (t.kids.take j).map (fun k => k.plain.bare)

theorem BInv.at_ {w wr : World} {t : TX} {j : Nat} {rs : List TX} (h : BInv w wr t j rs) (hlt : j < t.kids.length) : (rs ++ List.replicate (t.kids.length - j) TX.zero)[j]? = some TX.zero := by
  rw [List.getElem?_append_right (by rw [h.len]; omega), h.len, Nat.sub_self, List.getElem?_replicate, if_pos (by omega)]
theorem zero_cells {w : World} {g j : Nat} {xs : List TX} (h : Blk w g 25 (xs.flatMap TX.cells).toArray) (hx : xs[j]? = some TX.zero) : w.cell? ⟨g, j * 4, none⟩ = some (.int .i64 0) ∧ w.cell? ⟨g, j * 4 + 1, none⟩ = some (.string ByteArray.empty) ∧ w.cell? ⟨g, j * 4 + 2, none⟩ = some (.slice none 0 0) ∧ w.cell? ⟨g, j * 4 + 3, none⟩ = some (.slice none 0 0) := by
  have e := fun r (hr : r < 4) => flat_at TX.cells_len xs j r TX.zero hx hr
  have e0 := e 0 (by omega)
  rw [Nat.add_zero] at e0
  refine ⟨?_, ?_, ?_, ?_⟩
  · rw [h.cell, List.getElem?_toArray]; exact e0
  · rw [h.cell, List.getElem?_toArray]; exact e 1 (by omega)
  · rw [h.cell, List.getElem?_toArray]; exact e 2 (by omega)
  · rw [h.cell, List.getElem?_toArray]; exact e 3 (by omega)
/-- a node stored into an array -/
theorem blk_putA {w : World} {g j : Nat} {xs : List TX} {x : TX} (h : Blk w g 25 (xs.flatMap TX.cells).toArray) (hx : xs[j]? = some x) (k : TX) : Blk ((((w.setCell ⟨g, j * 4, none⟩ (.int .i64 k.kind)).setCell ⟨g, j * 4 + 1, none⟩ (.string k.text)).setCell ⟨g, j * 4 + 2, none⟩ (.slice k.lA k.leads.length k.lc)).setCell ⟨g, j * 4 + 3, none⟩ (.slice k.kA k.kids.length k.kc)) g 25 ((xs.set j k).flatMap TX.cells).toArray := by
  have := (((h.set_ (j * 4) (.int .i64 k.kind)).set_ (j * 4 + 1) (.string k.text)).set_ (j * 4 + 2) (.slice k.lA k.leads.length k.lc)).set_ (j * 4 + 3) (.slice k.kA k.kids.length k.kc)
  rw [← flat_set hx k]
  simpa using this
theorem far_putA {w : World} {b j g : Nat} {t : TypeId} {cs : Array Value} (h : Blk w g t cs) (hne : g ≠ b) (k : TX) : Blk ((((w.setCell ⟨b, j * 4, none⟩ (.int .i64 k.kind)).setCell ⟨b, j * 4 + 1, none⟩ (.string k.text)).setCell ⟨b, j * 4 + 2, none⟩ (.slice k.lA k.leads.length k.lc)).setCell ⟨b, j * 4 + 3, none⟩ (.slice k.kA k.kids.length k.kc)) g t cs :=
  (((h.far hne _).far hne _).far hne _).far hne _
theorem below_putA {w0 w : World} {B b j : Nat} (h : Below B w0 w) (hb : B ≤ b) (k : TX) : Below B w0 ((((w.setCell ⟨b, j * 4, none⟩ (.int .i64 k.kind)).setCell ⟨b, j * 4 + 1, none⟩ (.string k.text)).setCell ⟨b, j * 4 + 2, none⟩ (.slice k.lA k.leads.length k.lc)).setCell ⟨b, j * 4 + 3, none⟩ (.slice k.kA k.kids.length k.kc)) :=
  (((h.setCell hb _).setCell hb _).setCell hb _).setCell hb _
theorem tc_putA {w : World} {b j : Nat} {cs : Array Value} {S : Nat → Prop} (h : Blk w b 25 cs) (hb : S b) (k : TX) : TC w ((((w.setCell ⟨b, j * 4, none⟩ (.int .i64 k.kind)).setCell ⟨b, j * 4 + 1, none⟩ (.string k.text)).setCell ⟨b, j * 4 + 2, none⟩ (.slice k.lA k.leads.length k.lc)).setCell ⟨b, j * 4 + 3, none⟩ (.slice k.kA k.kids.length k.kc)) S :=
  (((TC.set_ h (by decide) hb _ _).trans (TC.set_ (h.set_ _ _) (by decide) hb _ _)).trans (TC.set_ ((h.set_ _ _).set_ _ _) (by decide) hb _ _)).trans (TC.set_ (((h.set_ _ _).set_ _ _).set_ _ _) (by decide) hb _ _)
/-- one round -/
theorem BInv.step {w wr wk w1 : World} {t k r : TX} {j : Nat} {rs : List TX} (h : BInv w wr t j rs) (hk : t.kids[j]? = some k) (hwk : wr.alloc (.cells k.arr 25) = wk) (hb : Below wk.heap.size wk w1) (hp : r.plain = k.plain.bare) (hf : Fr w1 wk.heap.size w1.heap.size r) :
    BInv w ((((w1.setCell ⟨w.heap.size + 1 + 1 + 1, j * 4, none⟩ (.int .i64 r.kind)).setCell ⟨w.heap.size + 1 + 1 + 1, j * 4 + 1, none⟩ (.string r.text)).setCell ⟨w.heap.size + 1 + 1 + 1, j * 4 + 2, none⟩ (.slice r.lA r.leads.length r.lc)).setCell ⟨w.heap.size + 1 + 1 + 1, j * 4 + 3, none⟩ (.slice r.kA r.kids.length r.kc)) t (j + 1) (rs ++ [r]) := by
  have hlt := (List.getElem?_eq_some_iff.1 hk).1
  have hk0 : Below wr.heap.size wr wk := by subst hwk; exact (Below.refl _ wr).alloc (Nat.le_refl _) _
  have hb' : Below wr.heap.size wr w1 := hk0.trans (hb.mono hk0.size)
  have l3 := h.b3.lt
  have c3 := h.b3.below hb' l3
  have hz := h.bel.size
  have hz1 := hb'.size
  have hz2 := hk0.size
  obtain ⟨f, f0, f1, f2, f3⟩ := h.own
  have m0 := fun {i j : Nat} (h : i ≤ j) => mono_le f1 h
  have hrl := h.len
  refine ⟨below_putA (h.bel.trans (hb'.mono hz)) (by omega) r, far_putA (h.b0.below hb' h.b0.lt) (by omega) r, far_putA (h.b1.below hb' h.b1.lt) (by omega) r, far_putA (h.b2.below hb' h.b2.lt) (by omega) r, ?_, by simp [hrl], ?_, ?_⟩
  · have := blk_putA c3 (h.at_ hlt) r
    have e : (rs ++ List.replicate (t.kids.length - j) TX.zero).set j r = (rs ++ [r]) ++ List.replicate (t.kids.length - (j + 1)) TX.zero := by
      rw [List.set_append_right _ _ (by omega), hrl, Nat.sub_self, show t.kids.length - j = (t.kids.length - (j + 1)) + 1 by omega, List.replicate_succ, List.set_cons_zero, List.append_assoc]
      rfl
    rw [e] at this
    exact this
  · refine ⟨fun i => if i ≤ j then f i else w1.heap.size, by simp; exact f0, fun i => ?_, by dsimp only; rw [if_neg (by omega)]; simp [World.setCell], fun i x hx => ?_⟩
    · dsimp only
      rcases Nat.lt_or_ge i j with h1 | h1
      · rw [if_pos (by omega), if_pos (by omega)]; exact f1 i
      · rcases Nat.lt_or_ge j i with h2 | h2
        · rw [if_neg (by omega), if_neg (by omega)]; exact Nat.le_refl _
        · have : i = j := by omega
          subst this
          rw [if_pos (Nat.le_refl _), if_neg (by omega)]; omega
    · dsimp only
      have htc := tc_putA (S := fun b => b = w.heap.size + 1 + 1 + 1) (j := j) c3 rfl r
      have hfj := m0 (Nat.zero_le j)
      rcases Nat.lt_or_ge i j with h1 | h1
      · rw [if_pos (by omega), if_pos (by omega)]
        rw [List.getElem?_append_left (by omega)] at hx
        have := m0 (Nat.zero_le i)
        exact ((f3 i x hx).tc (TC.of_below hb' (fun _ => False)) (fun _ _ _ h => h)).tc htc (fun b h1 h2 h3 => by omega)
      · rw [List.getElem?_append_right (by omega)] at hx
        have hi := (List.getElem?_eq_some_iff.1 hx).1
        simp at hi
        have e : i = j := by omega
        subst e
        rw [hrl] at hx
        simp at hx
        subst hx
        rw [if_pos (Nat.le_refl _), if_neg (by omega)]
        exact (hf.tc htc (fun b h1 h2 h3 => by omega)).wide (by omega) (Nat.le_refl _)
  · rw [List.map_append, h.pl, List.take_add_one, hk]
    simp [hp]
theorem blk_putV {w : World} {b : Nat} {a0 a1 a2 a3 : Value} (h : Blk w b 25 #[a0, a1, a2, a3]) (v0 v1 v2 v3 : Value) : Blk ((((w.setCell ⟨b, 0, none⟩ v0).setCell ⟨b, 1, none⟩ v1).setCell ⟨b, 2, none⟩ v2).setCell ⟨b, 3, none⟩ v3) b 25 #[v0, v1, v2, v3] :=
  (((h.set_ 0 _).set_ 1 _).set_ 2 _).set_ 3 _
theorem tc_putV {w : World} {b : Nat} {cs : Array Value} {S : Nat → Prop} (h : Blk w b 25 cs) (hb : S b) (v0 v1 v2 v3 : Value) : TC w ((((w.setCell ⟨b, 0, none⟩ v0).setCell ⟨b, 1, none⟩ v1).setCell ⟨b, 2, none⟩ v2).setCell ⟨b, 3, none⟩ v3) S :=
  (((TC.set_ h (by decide) hb _ _).trans (TC.set_ (h.set_ _ _) (by decide) hb _ _)).trans (TC.set_ ((h.set_ _ _).set_ _ _) (by decide) hb _ _)).trans (TC.set_ (((h.set_ _ _).set_ _ _).set_ _ _) (by decide) hb _ _)
theorem BInv.done {w wr w2 : World} {t : TX} {rs : List TX} (h : BInv w wr t t.kids.length rs) (hb : t.kids.length * 72 ≤ 140737488351232) (kr : -9223372036854775808 ≤ t.kind ∧ t.kind ≤ 9223372036854775807) (htc : TC wr w2 (fun b => b = w.heap.size + 1)) :
    BarePost w t (.returned (.agg #[.int .i64 t.kind, .string t.text, .slice none 0 0, .slice (some ⟨w.heap.size + 1 + 1 + 1, 0, none⟩) t.kids.length t.kids.length])) w2 := by
  obtain ⟨r, hr⟩ : ∃ r : TX, r = .node t.kind t.text none [] 0 (some ⟨w.heap.size + 1 + 1 + 1, 0, none⟩) rs t.kids.length := ⟨_, rfl⟩
  have hkids : r.kids = rs := by rw [hr]; rfl
  have hrl := h.len
  obtain ⟨f, f0, f1, f2, f3⟩ := h.own
  have m0 := fun {i j : Nat} (h : i ≤ j) => mono_le f1 h
  have hsz := htc.size
  refine ⟨r, ?_, ?_, ?_, h.bel.trans (htc.below h.bel.size (fun i hi => by omega))⟩
  · have e : r.val = .agg #[.int .i64 t.kind, .string t.text, .slice none 0 0, .slice (some ⟨w.heap.size + 1 + 1 + 1, 0, none⟩) rs.length t.kids.length] := by rw [hr]; rfl
    rw [e, hrl]
  · rw [bare_plain, TX.plain_eq, hkids, h.pl, List.take_length, hr]; rfl
  · refine .node r _ _ (w.heap.size + 1 + 1 + 1) f (by rw [hr]; rfl) ?_ (by rw [hr]; exact ⟨rfl, .inl ⟨rfl, rfl⟩⟩) (by rw [hkids, hrl]; exact hb) (by rw [hkids, hrl, hr]; exact Nat.le_refl _) (by rw [hr]; simp [TX.leads]) (by rw [hr]; exact kr) (by omega) (by omega) f1 (by rw [hkids, hrl]; omega) (fun i k hk => ?_)
    · have := htc.blk h.b3 (by omega)
      rw [Nat.sub_self, List.replicate_zero, List.append_nil] at this
      rw [hkids]
      exact this
    · rw [hkids] at hk
      have := m0 (Nat.zero_le i)
      exact (f3 i k hk).tc htc (fun b h1 h2 h3 => by omega)
theorem Blk.new' {w : World} {g : Nat} (t : TypeId) (cs : Array Value) (h : w.heap.size = g) : Blk (w.alloc (.cells cs t)) g t cs := h ▸ Blk.new w t cs

set_option maxRecDepth 100000 in
set_option maxHeartbeats 1600000 in
theorem bare_any (t : TX) : ∀ w : World, Tr w w.heap.size t → Calls Try.prog 17 #[t.val] w (BarePost w t) := by
  induction t using TX.ind with
  | h t ih =>
  intro w h
  unfold TX.val
  have HIH := Lib.hid ih
  have H := Lib.hid h
  have hkb := h.kb
  have HKB := Lib.hid h.kbs
  clear ih h
  by_cases hn : t.kids.length = 0
  · have hd0 : decide (0 < t.kids.length) = false := decide_eq_false (by omega)
    have HL : Hid (BarePost w t (.returned (.agg #[.int .i64 t.kind, .string t.text, .slice none 0 0, .slice none 0 0])) (((w.alloc (.cells t.arr 25)).alloc (.cells #[.int .i64 t.kind, .string t.text, .slice none 0 0, .slice none 0 0] 25)).alloc (.cells #[.int .i64 t.kind, .string t.text, .slice none 0 0, .slice none 0 0] 25))) :=
      ⟨.node t.kind t.text none [] 0 none [] 0, rfl, by rw [bare_plain, TX.plain_eq, List.eq_nil_of_length_eq_zero hn]; rfl, .leaf _ _ _ rfl ⟨rfl, .inl ⟨rfl, rfl⟩⟩ (by simp [TX.leads]) H.out.kr, (((Below.refl _ w).alloc (Nat.le_refl _) _).alloc (by simp) _).alloc (by simp; omega) _⟩
    obtain ⟨n, hn'⟩ : ∃ n, t.kids.length = n := ⟨_, rfl⟩
    unfold TX.arr at HL
    rw [hn'] at hn hd0 HL
    rw [hn']
    subst hn
    clear hn'
    go_enter Try.func17, Try.ntmps17
    go_wp2_with fail
    go_loopw [23] (fun i wr => i = .int .i64 0 ∧ wr = (((w.alloc (.cells #[.int .i64 t.kind, .string t.text, .slice t.lA t.leads.length t.lc, .slice t.kA 0 t.kc] 25)).alloc (.cells #[.int .i64 0, .string ⟨#[]⟩, .slice none 0 0, .slice none 0 0] 25)).alloc (.cells #[.int .i64 t.kind, .string t.text, .slice none 0 0, .slice none 0 0] 25))) (fun i _ => 0)
    case atStart => exact ⟨rfl, rfl⟩
    case round =>
      obtain ⟨rfl, rfl⟩ := hrel
      go_wp2_with fail
      refine bodyPost_ret (v := .agg #[.int .i64 t.kind, .string t.text, .slice none 0 0, .slice none 0 0]) (by simp [results, Try.results17, go_sem]) rfl ?_
      exact HL.out
  · have mk := make_trees t.kids.length HKB.out
    have hd0 : decide (0 < t.kids.length) = true := by simp; omega
    go_enter Try.func17, Try.ntmps17
    go_wp2_with fail
    clear mk
    go_loopw [23] (fun i wr => ∃ (j : Nat) (rs : List TX), j ≤ t.kids.length ∧ i = .int .i64 (j : Int) ∧ Hid (BInv w wr t j rs)) (fun i _ => t.kids.length - (intOf i).toNat)
    case atStart =>
      refine ⟨0, [], by omega, rfl, ?_⟩
      exact ⟨((((Below.refl _ w).alloc (Nat.le_refl _) _).alloc (by simp) _).alloc (by simp; omega) _).alloc (by simp; omega) _, (((Blk.new w 25 _).alloc _).alloc _).alloc _, ((Blk.new' 25 zeroArr (by simp)).alloc _).alloc _, (Blk.new' 25 _ (by simp)).alloc _, Blk.new' 25 _ (by simp), rfl, ⟨fun _ => w.heap.size + 4, by show _ < w.heap.size + 4; omega, fun _ => Nat.le_refl _, by simp, fun i k hk => by simp at hk⟩, by simp⟩
    case round =>
      obtain ⟨j, rs, hj, rfl, HI⟩ := hrel
      by_cases hlt : j < t.kids.length
      · obtain ⟨k, hk⟩ : ∃ k, t.kids[j]? = some k := ⟨_, List.getElem?_eq_getElem hlt⟩
        obtain ⟨ab, ao, hA, hab, e0, e1, e2, e3⟩ := (H.out.low HI.out.bel).at_ hk
        obtain ⟨wk, hwk⟩ : ∃ wk, wr.alloc (.cells #[.int .i64 k.kind, .string k.text, .slice k.lA k.leads.length k.lc, .slice k.kA k.kids.length k.kc] 25) = wk := ⟨_, rfl⟩
        have HBK : Hid (Blk wk wr.heap.size 25 #[.int .i64 k.kind, .string k.text, .slice k.lA k.leads.length k.lc, .slice k.kA k.kids.length k.kc]) := by subst hwk; exact Blk.new wr 25 _
        have HB2 : Hid (Blk wk (w.heap.size + 1 + 1) 25 #[.int .i64 t.kind, .string t.text, .slice none 0 0, .slice (some ⟨w.heap.size + 1 + 1 + 1, 0, none⟩) t.kids.length t.kids.length]) := by subst hwk; exact HI.out.b2.alloc _
        have HB3 : Hid (Blk wk (w.heap.size + 1 + 1 + 1) 25 ((rs ++ List.replicate (t.kids.length - j) TX.zero).flatMap TX.cells).toArray) := by subst hwk; exact HI.out.b3.alloc _
        have HBW : Hid (Below w.heap.size w wk) := by subst hwk; exact HI.out.bel.alloc HI.out.bel.size _
        have HC := Lib.hid (HIH.out k (List.mem_of_getElem? hk) wk.drew ((H.out.sub k (List.mem_of_getElem? hk)).up (Nat.le_refl _) (below_drewN HBW.out 1)))
        unfold TX.val at HC
        have i0 : (0 : Int) ≤ (j : Int) := by omega
        have i1 : (j : Int) < (t.kids.length : Int) := by omega
        have HK := Lib.hid hk
        rw [hA]
        clear hA hk
        have HSK : Hid (∀ w' : World, Blk w' (w.heap.size + 1 + 1) 25 #[.int .i64 t.kind, .string t.text, .slice none 0 0, .slice (some ⟨w.heap.size + 1 + 1 + 1, 0, none⟩) t.kids.length t.kids.length] → Blk w' wr.heap.size 25 #[.int .i64 k.kind, .string k.text, .slice k.lA k.leads.length k.lc, .slice k.kA k.kids.length k.kc] → w'.cell? ⟨w.heap.size + 1 + 1, 3, none⟩ = some (.slice (some ⟨w.heap.size + 1 + 1 + 1, 0, none⟩) t.kids.length t.kids.length) ∧ w'.cell? ⟨wr.heap.size, 0, none⟩ = some (.int .i64 k.kind) ∧ w'.cell? ⟨wr.heap.size, 1, none⟩ = some (.string k.text) ∧ w'.cell? ⟨wr.heap.size, 2, none⟩ = some (.slice k.lA k.leads.length k.lc) ∧ w'.cell? ⟨wr.heap.size, 3, none⟩ = some (.slice k.kA k.kids.length k.kc)) := fun w' q2 q3 =>
          ⟨by rw [q2.cell]; rfl, by rw [q3.cell]; rfl, by rw [q3.cell]; rfl, by rw [q3.cell]; rfl, by rw [q3.cell]; rfl⟩
        have HD : Hid (Below wk.heap.size wk wk.drew) := below_drewN (Below.refl _ _) 1
        have HWK := Lib.hid hwk
        have HN3 : Hid (wr.heap.size ≠ w.heap.size + 1 + 1 + 1) := by have := HI.out.b3.lt; unfold Hid; omega
        have HN2 : Hid (w.heap.size + 1 + 1 ≠ w.heap.size + 1 + 1 + 1) := by unfold Hid; omega
        go_wp2_with fail
        go_region_held3 (fun w' => w'.cell? ⟨w.heap.size + 1 + 1, 3, none⟩ = some (.slice (some ⟨w.heap.size + 1 + 1 + 1, 0, none⟩) t.kids.length t.kids.length) ∧ w'.cell? ⟨wr.heap.size, 0, none⟩ = some (.int .i64 k.kind) ∧ w'.cell? ⟨wr.heap.size, 1, none⟩ = some (.string k.text) ∧ w'.cell? ⟨wr.heap.size, 2, none⟩ = some (.slice k.lA k.leads.length k.lc) ∧ w'.cell? ⟨wr.heap.size, 3, none⟩ = some (.slice k.kA k.kids.length k.kc)) (first | exact HSK.out _ HB2.out.drew HBK.out.drew | exact HSK.out _ (HB2.out.below HB1.out HB2.out.lt) (HBK.out.below HB1.out HBK.out.lt) | exact HSK.out _ (far_putA (HB2.out.below HB1.out HB2.out.lt) HN2.out r) (far_putA (HBK.out.below HB1.out HBK.out.lt) HN3.out r)) (first | (go_at_call 17; refine (HC.out).mono ?_; rintro e w1 ⟨r, rfl, hpl, hfr, hb1⟩; have HPL := Lib.hid hpl; have HFR := Lib.hid hfr; have HB1 := Lib.hid (HD.out.trans (hb1.mono HD.out.size)); clear hpl hfr hb1; unfold TX.val; have hq := HB3.out.below HB1.out HB3.out.lt; have z0 := hq.frozen (j * 4); have z1 := hq.frozen (j * 4 + 1); have z2 := hq.frozen (j * 4 + 2); have z3 := hq.frozen (j * 4 + 3); obtain ⟨y0, y1, y2, y3⟩ := zero_cells hq (HI.out.at_ hlt); clear hq))
        have HNX := Lib.hid (HI.out.step HK.out HWK.out HB1.out HPL.out HFR.out)
        go_wp2_with fail
        go_roundw
        case rel => exact ⟨j + 1, rs ++ [r], by omega, by go_num, HNX⟩
        case measure => simp [intOf]; omega
      · obtain rfl : j = t.kids.length := by omega
        have b0 := HI.out.b2.cell 0
        have b1 := HI.out.b2.cell 1
        have b2 := HI.out.b2.cell 2
        have b3 := HI.out.b2.cell 3
        simp at b0 b1 b2 b3
        have z0 := HI.out.b1.frozen 0
        have z1 := HI.out.b1.frozen 1
        have z2 := HI.out.b1.frozen 2
        have z3 := HI.out.b1.frozen 3
        have y0 := HI.out.b1.cell 0
        have y1 := HI.out.b1.cell 1
        have y2 := HI.out.b1.cell 2
        have y3 := HI.out.b1.cell 3
        simp [zeroArr] at y0 y1 y2 y3
        have HXE := Lib.hid (blk_putV HI.out.b1 (.int .i64 t.kind) (.string t.text) (.slice none 0 0) (.slice (some ⟨w.heap.size + 1 + 1 + 1, 0, none⟩) t.kids.length t.kids.length))
        have HTC := Lib.hid (tc_putV (S := fun b => b = w.heap.size + 1) HI.out.b1 rfl (.int .i64 t.kind) (.string t.text) (.slice none 0 0) (.slice (some ⟨w.heap.size + 1 + 1 + 1, 0, none⟩) t.kids.length t.kids.length))
        have x0 := HXE.out.cell 0
        have x1 := HXE.out.cell 1
        have x2 := HXE.out.cell 2
        have x3 := HXE.out.cell 3
        simp at x0 x1 x2 x3
        go_wp2_with fail
        refine bodyPost_ret (v := .agg #[.int .i64 t.kind, .string t.text, .slice none 0 0, .slice (some ⟨w.heap.size + 1 + 1 + 1, 0, none⟩) t.kids.length t.kids.length]) (by simp [results, Try.results17, go_sem, x0, x1, x2, x3]) rfl ?_
        exact HI.out.done HKB.out H.out.kr HTC.out
end Go.Proofs.Ythaepakpeamajaa
