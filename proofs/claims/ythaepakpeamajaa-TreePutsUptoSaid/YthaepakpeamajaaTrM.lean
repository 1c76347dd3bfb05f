/-
  replica and At. No condition.
-/
import Derived.Test.YthaepakpeamajaaTrL
namespace Go.Proofs.Ythaepakpeamajaa
open Go.RowKit
set_option linter.unusedVariables false

/-- a tree of one's own -/
def OwnPost (w : World) (T : T) (e : Ending) (w' : World) : Prop := ∃ y : TX, e = .returned y.val ∧ y.plain = T ∧ Fr w' w.heap.size w'.heap.size y ∧ Below w.heap.size w w'

set_option maxRecDepth 100000 in
set_option maxHeartbeats 1600000 in
theorem replica_any (t : TX) (w : World) (h : Tr w w.heap.size t) : Calls Try.prog 31 #[t.val] w (OwnPost w t.plain) := by
  unfold TX.val
  have H := Lib.hid h
  obtain ⟨W, hW⟩ : ∃ W, (w.alloc (.cells #[.int .i64 t.kind, .string t.text, .slice t.lA t.leads.length t.lc, .slice t.kA t.kids.length t.kc] 25)).alloc (.cells #[.int .i64 0, .string ⟨#[]⟩, .slice none 0 0, .slice none 0 0] 25) = W := ⟨_, rfl⟩
  have HSZ : Hid (W.heap.size = w.heap.size + 1 + 1) := by subst hW; simp [Hid]
  have HBW : Hid (Below w.heap.size w W) := by subst hW; exact ((Below.refl _ w).alloc (Nat.le_refl _) _).alloc (by simp) _
  have HX : Hid (Blk W w.heap.size 25 t.arr) := by subst hW; exact (Blk.new w 25 _).alloc _
  have HZ : Hid (Blk W (w.heap.size + 1) 25 zeroArr) := by subst hW; exact Blk.new' 25 zeroArr (by simp)
  have d0 := HX.out.cell 0
  have d1 := HX.out.cell 1
  have d2 := HX.out.cell 2
  have d3 := HX.out.cell 3
  simp [TX.arr] at d0 d1 d2 d3
  have HC := Lib.hid (bare_any t W (h.up (Nat.le_refl _) HBW.out))
  unfold TX.val at HC
  clear h
  go_enter Try.func31, Try.ntmps31
  go_wp2_with fail
  refine (HC.out).mono ?_
  rintro e w1 ⟨r, rfl, hp, hf, hb⟩
  have hsz := HSZ.out
  have hbz := hb.size
  have HX1 := Lib.hid (HX.out.below hb HX.out.lt)
  have HZ1 := Lib.hid (HZ.out.below hb HZ.out.lt)
  obtain ⟨w2, hw2⟩ : ∃ w2, w1.alloc (.cells #[.int .i64 r.kind, .string r.text, .slice r.lA r.leads.length r.lc, .slice r.kA r.kids.length r.kc] 25) = w2 := ⟨_, rfl⟩
  have HS2 : Hid (w2.heap.size = w1.heap.size + 1) := by subst hw2; simp [Hid]
  have hb2 : Below w1.heap.size w1 w2 := by subst hw2; exact (Below.refl _ w1).alloc (Nat.le_refl _) _
  have HR2 : Hid (Blk w2 w1.heap.size 25 r.arr) := by subst hw2; exact Blk.new w1 25 _
  have HB2 : Hid (Below w.heap.size w w2) := HBW.out.trans ((hb.trans (hb2.mono hbz)).mono (by omega))
  have HX2 : Hid (Blk w2 w.heap.size 25 t.arr) := HX1.out.below hb2 HX1.out.lt
  have HZ2 : Hid (Blk w2 (w.heap.size + 1) 25 zeroArr) := HZ1.out.below hb2 HZ1.out.lt
  have e0 := HX2.out.cell 0
  have e1 := HX2.out.cell 1
  have e2 := HX2.out.cell 2
  have e3 := HX2.out.cell 3
  simp [TX.arr] at e0 e1 e2 e3
  have hs2 := HS2.out
  have HC2 := Lib.hid (restore_any t w2 w1.heap.size 0 W.heap.size w1.heap.size w.heap.size r.arr r ((H.out.low HB2.out)) (hf.tc (TC.of_below hb2 (fun _ => False)) (fun _ _ _ h => h)) hp HR2.out rfl rfl (by omega) (by omega) (by omega) (by omega) (by omega))
  unfold TX.val at HC2
  unfold TX.val
  clear hb hb2 hp hf hs2 hbz hsz
  go_wp2_with fail
  refine (HC2.out).mono ?_
  rintro e w3 ⟨rfl, y, hy1, ⟨s0, s1, s2, s3, s4⟩, hy3, hy4, hy5⟩
  have HY : Hid (Blk w3 w1.heap.size 25 #[.int .i64 y.kind, .string y.text, .slice y.lA y.leads.length y.lc, .slice y.kA y.kids.length y.kc]) := by unfold Hid; rw [s0, s1, s2, s3, s4]; exact hy4
  have HZ3 : Hid (Blk w3 (w.heap.size + 1) 25 #[.int .i64 0, .string ByteArray.empty, .slice none 0 0, .slice none 0 0]) := hy5.blk HZ2.out (by have := HSZ.out; have := HZ1.out.lt; omega)
  have HP := Lib.hid hy1
  have HF := Lib.hid hy3
  have HT := Lib.hid hy5
  clear hy1 hy3 hy4 hy5 s0 s1 s2 s3 s4
  have b0 := HY.out.cell 0
  have b1 := HY.out.cell 1
  have b2 := HY.out.cell 2
  have b3 := HY.out.cell 3
  simp at b0 b1 b2 b3
  have z0 := HZ3.out.frozen 0
  have z1 := HZ3.out.frozen 1
  have z2 := HZ3.out.frozen 2
  have z3 := HZ3.out.frozen 3
  have y0 := HZ3.out.cell 0
  have y1 := HZ3.out.cell 1
  have y2 := HZ3.out.cell 2
  have y3 := HZ3.out.cell 3
  simp at y0 y1 y2 y3
  have HXE := Lib.hid (blk_putV HZ3.out (.int .i64 y.kind) (.string y.text) (.slice y.lA y.leads.length y.lc) (.slice y.kA y.kids.length y.kc))
  have HTC := Lib.hid (tc_putV (S := fun b => b = w.heap.size + 1) HZ3.out rfl (.int .i64 y.kind) (.string y.text) (.slice y.lA y.leads.length y.lc) (.slice y.kA y.kids.length y.kc))
  have x0 := HXE.out.cell 0
  have x1 := HXE.out.cell 1
  have x2 := HXE.out.cell 2
  have x3 := HXE.out.cell 3
  simp at x0 x1 x2 x3
  go_wp2_with fail
  refine bodyPost_ret (v := .agg #[.int .i64 y.kind, .string y.text, .slice y.lA y.leads.length y.lc, .slice y.kA y.kids.length y.kc]) (by simp [results, Try.results31, go_sem, x0, x1, x2, x3]) rfl ?_
  have hsz := HSZ.out
  have hs2 := HS2.out
  have ht1 := HTC.out.size
  have ht2 := HT.out.size
  have hz1 := HZ1.out.lt
  have hb2 := HB2.out.size
  exact ⟨y, rfl, HP.out, (HF.out.tc HTC.out (fun b h1 h2 h3 => by omega)).wide (by omega) (by omega), (HB2.out.trans (HT.out.below (by omega) (fun b h => by omega))).trans (HTC.out.below (by omega) (fun b h => by omega))⟩

def AtPost (w : World) (o : Option TX) (e : Ending) (w' : World) : Prop :=
  Below w.heap.size w w' ∧ match o with
  | none => e = .returned (.tuple #[.agg zeroArr, .bool false])
  | some s => ∃ y : TX, e = .returned (.tuple #[y.val, .bool true]) ∧ y.plain = s.plain ∧ Fr w' w.heap.size w'.heap.size y
theorem AtPost.none_ {w w' : World} {o : Option TX} {e : Ending} (hb : Below w.heap.size w w') (ho : o = none) (he : e = .returned (.tuple #[.agg zeroArr, .bool false])) : AtPost w o e w' := by
  subst ho; exact ⟨hb, he⟩
theorem AtPost.some_ {w w' : World} {o : Option TX} {s y : TX} {e : Ending} (hb : Below w.heap.size w w') (ho : o = some s) (he : e = .returned (.tuple #[y.val, .bool true])) (hp : y.plain = s.plain) (hf : Fr w' w.heap.size w'.heap.size y) : AtPost w o e w' := by
  subst ho; exact ⟨hb, y, he, hp, hf⟩

set_option maxRecDepth 100000 in
set_option maxHeartbeats 1600000 in
theorem at_any (t : TX) (A : Option Addr) (c : Nat) (p : List Int) (w : World) (h : Tr w w.heap.size t) (hp : Reads w w.heap.size 1 A p.length (p.map (Value.int .i64))) (hl : p.length ≤ 140737488351232) (hb : ∀ x ∈ p, -9223372036854775808 ≤ x ∧ x ≤ 9223372036854775807) :
    Calls Try.prog 11 #[t.val, .slice A p.length c] w (AtPost w (t.find p)) := by
  obtain ⟨W, hW⟩ : ∃ W, (w.alloc (.cells #[.int .i64 t.kind, .string t.text, .slice t.lA t.leads.length t.lc, .slice t.kA t.kids.length t.kc] 25)).alloc (.cells #[.int .i64 0, .string ⟨#[]⟩, .slice none 0 0, .slice none 0 0] 25) = W := ⟨_, rfl⟩
  have HSZ : Hid (W.heap.size = w.heap.size + 1 + 1) := by subst hW; simp [Hid]
  have HBW : Hid (Below w.heap.size w W) := by subst hW; exact ((Below.refl _ w).alloc (Nat.le_refl _) _).alloc (by simp) _
  have HX : Hid (Blk W w.heap.size 25 t.arr) := by subst hW; exact (Blk.new w 25 _).alloc _
  have HZ : Hid (Blk W (w.heap.size + 1) 25 #[.int .i64 0, .string ByteArray.empty, .slice none 0 0, .slice none 0 0]) := by subst hW; exact Blk.new' 25 zeroArr (by simp)
  have d0 := HX.out.cell 0
  have d1 := HX.out.cell 1
  have d2 := HX.out.cell 2
  have d3 := HX.out.cell 3
  simp [TX.arr] at d0 d1 d2 d3
  have ht0 : Tr W W.heap.size t := h.up (Nat.le_refl _) HBW.out
  have hp0 : Reads W W.heap.size 1 A p.length (p.map (Value.int .i64)) := (hp.below HBW.out).more HBW.out.size
  cases hf : t.find p with
  | none =>
    have HC := Lib.hid (find_none (c := c) ht0 hp0 hl hb hf)
    unfold TX.val at HC
    unfold TX.val
    clear h hp hb ht0 hp0 hf
    go_enter Try.func11, Try.ntmps11
    go_wp2_with fail
    refine (HC.out).mono ?_
    rintro e w1 ⟨rfl, hb1⟩
    have HB1 := Lib.hid (HBW.out.trans (hb1.mono HBW.out.size))
    have HZ0 := Lib.hid (HZ.out.below hb1 HZ.out.lt)
    have hlt := HZ0.out.lt
    have z0 := HZ0.out.frozen 0
    have z1 := HZ0.out.frozen 1
    have z2 := HZ0.out.frozen 2
    have z3 := HZ0.out.frozen 3
    have y0 := HZ0.out.cell 0
    have y1 := HZ0.out.cell 1
    have y2 := HZ0.out.cell 2
    have y3 := HZ0.out.cell 3
    simp at y0 y1 y2 y3
    have HXE := Lib.hid ((blk_putV HZ0.out (.int .i64 0) (.string ⟨#[]⟩) (.slice none 0 0) (.slice none 0 0)).alloc (.cells #[.int .i64 0, .string ⟨#[]⟩, .slice none 0 0, .slice none 0 0] 25))
    have HTC := Lib.hid (tc_putV (S := fun b => b = w.heap.size + 1) HZ0.out rfl (.int .i64 0) (.string ⟨#[]⟩) (.slice none 0 0) (.slice none 0 0))
    clear hb1
    have e0 : zeroArr = #[.int .i64 0, .string ⟨#[]⟩, .slice none 0 0, .slice none 0 0] := rfl
    rw [e0]
    clear e0
    go_wp2_with fail
    have x0 := HXE.out.cell 0
    have x1 := HXE.out.cell 1
    have x2 := HXE.out.cell 2
    have x3 := HXE.out.cell 3
    refine bodyPost_ret (v := .tuple #[.agg zeroArr, .bool false]) (by simp [results, Try.results11, go_sem, x0, x1, x2, x3, zeroArr]; rfl) rfl ?_
    have hb5 := HB1.out.trans (HTC.out.below HB1.out.size (fun b h => by omega))
    exact ⟨hb5.alloc hb5.size _, rfl⟩
  | some s =>
    have HTS := Lib.hid (find_tr p t s h hf)
    have HC := Lib.hid (find_some (c := c) ht0 hp0 hl hb hf)
    unfold TX.val at HC
    unfold TX.val
    clear h hp hb ht0 hp0 hf
    go_enter Try.func11, Try.ntmps11
    go_wp2_with fail
    refine (HC.out).mono ?_
    rintro e w1 ⟨rfl, hb1⟩
    have HB1 := Lib.hid (HBW.out.trans (hb1.mono HBW.out.size))
    obtain ⟨w2, hw2⟩ : ∃ w2, w1.alloc (.cells #[.int .i64 s.kind, .string s.text, .slice s.lA s.leads.length s.lc, .slice s.kA s.kids.length s.kc] 25) = w2 := ⟨_, rfl⟩
    have HB2 : Hid (Below w.heap.size w w2) := by subst hw2; exact HB1.out.alloc HB1.out.size _
    have HS2 : Hid (Blk w2 w1.heap.size 25 #[.int .i64 s.kind, .string s.text, .slice s.lA s.leads.length s.lc, .slice s.kA s.kids.length s.kc]) := by subst hw2; exact Blk.new w1 25 _
    have HZ1 : Hid (Blk w2 (w.heap.size + 1) 25 #[.int .i64 0, .string ByteArray.empty, .slice none 0 0, .slice none 0 0]) := by subst hw2; exact (HZ.out.below hb1 HZ.out.lt).alloc _
    have s0 := HS2.out.cell 0
    have s1 := HS2.out.cell 1
    have s2 := HS2.out.cell 2
    have s3 := HS2.out.cell 3
    simp at s0 s1 s2 s3
    have HC2 := Lib.hid (replica_any s w2 (HTS.out.up (Nat.le_refl _) HB2.out))
    unfold TX.val at HC2
    clear hb1
    go_wp2_with fail
    refine (HC2.out).mono ?_
    rintro e w3 ⟨y, rfl, hy1, hy2, hb3⟩
    have HY1 := Lib.hid hy1
    have HY2 := Lib.hid hy2
    have HB3 := Lib.hid (HB2.out.trans (hb3.mono HB2.out.size))
    have HZ3 := Lib.hid (HZ1.out.below hb3 HZ1.out.lt)
    have HL := Lib.hid HZ1.out.lt
    clear hy1 hy2 hb3
    have z0 := HZ3.out.frozen 0
    have z1 := HZ3.out.frozen 1
    have z2 := HZ3.out.frozen 2
    have z3 := HZ3.out.frozen 3
    have y0 := HZ3.out.cell 0
    have y1 := HZ3.out.cell 1
    have y2 := HZ3.out.cell 2
    have y3 := HZ3.out.cell 3
    simp at y0 y1 y2 y3
    have HXE := Lib.hid (blk_putV HZ3.out (.int .i64 y.kind) (.string y.text) (.slice y.lA y.leads.length y.lc) (.slice y.kA y.kids.length y.kc))
    have HTC := Lib.hid (tc_putV (S := fun b => b = w.heap.size + 1) HZ3.out rfl (.int .i64 y.kind) (.string y.text) (.slice y.lA y.leads.length y.lc) (.slice y.kA y.kids.length y.kc))
    have x0 := HXE.out.cell 0
    have x1 := HXE.out.cell 1
    have x2 := HXE.out.cell 2
    have x3 := HXE.out.cell 3
    simp at x0 x1 x2 x3
    unfold TX.val
    go_wp2_with fail
    refine bodyPost_ret (v := .tuple #[y.val, .bool true]) (by simp [results, Try.results11, go_sem, x0, x1, x2, x3, TX.val]) rfl ?_
    have hl3 := HL.out
    have hsz := HTC.out.size
    exact ⟨HB3.out.trans (HTC.out.below HB3.out.size (fun b h => by omega)), y, rfl, HY1.out, (HY2.out.tc HTC.out (fun b h1 h2 h3 => by omega)).wide HB2.out.size (by omega)⟩
end Go.Proofs.Ythaepakpeamajaa
