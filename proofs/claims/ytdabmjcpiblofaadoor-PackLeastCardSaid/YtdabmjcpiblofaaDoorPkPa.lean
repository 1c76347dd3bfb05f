/-
  Paths of trees, the reference's. No condition.
-/
import Derived.Test.YtdabmjcpiblofaaDoorPkAd
import Derived.Test.YtdabmjcpiblofaaDoorPkSa
import Derived.WalkSmall
import Derived.Laws.EntriesVeiled
import Derived.Deep.RegionHeld3
namespace Go.Proofs.YtdabmjcpiblofaaDoor
open Go.RowKit
set_option linter.unusedVariables false


mutual
def T.paths : T → List Int → List (List Int)
  | .node _ _ _ ks, p => p :: T.pathss ks p 0
def T.pathss : List T → List Int → Nat → List (List Int)
  | [], _, _ => []
  | k :: ks, p, i => T.paths k (p ++ [(i : Int)]) ++ T.pathss ks p (i + 1)
end
theorem pathss_append : ∀ (a b : List T) (p : List Int) (i : Nat), T.pathss (a ++ b) p i = T.pathss a p i ++ T.pathss b p (i + a.length)
  | [], b, p, i => by rw [List.nil_append, T.pathss]; simp
  | k :: a, b, p, i => by
    rw [List.cons_append, T.pathss, T.pathss, pathss_append a b p (i + 1), List.append_assoc, List.length_cons, show i + 1 + a.length = i + (a.length + 1) by omega]
theorem paths_plain (t : TX) (p : List Int) : t.plain.paths p = p :: T.pathss (t.kids.map TX.plain) p 0 := by rw [TX.plain_eq, T.paths]
theorem pathss_succ {t k : TX} {j : Nat} (h : t.kids[j]? = some k) (p : List Int) : T.pathss ((t.kids.take (j + 1)).map TX.plain) p 0 = T.pathss ((t.kids.take j).map TX.plain) p 0 ++ k.plain.paths (p ++ [(j : Int)]) := by
  have hj := (List.getElem?_eq_some_iff.1 h).1
  rw [List.take_add_one, h]
  simp only [Option.toList, List.map_append, List.map_cons, List.map_nil]
  rw [pathss_append, T.pathss, T.pathss, List.append_nil, List.length_map, List.length_take]
  congr 3
  have : 0 + min j t.kids.length = j := by omega
  rw [this]
theorem paths_len (t : T) : ∀ p, (t.paths p).length = t.size := by
  refine T.rec (motive_1 := fun t => ∀ p, (t.paths p).length = t.size) (motive_2 := fun l => ∀ p i, (T.pathss l p i).length = T.sizes l) ?_ ?_ ?_ t
  · intro k s l ks ih p
    rw [T.paths, T.size, List.length_cons, ih]; omega
  · intro p i; rw [T.pathss, T.sizes]; rfl
  · intro k ks h1 h2 p i
    rw [T.pathss, T.sizes, List.length_append, h1, h2]
/-- a path in memory -/
structure PW where
  A : Option Addr
  c : Nat
  l : List Int
def PW.head (x : PW) : Value := .slice x.A x.l.length x.c
theorem head_one (xs : List PW) : ∀ u ∈ xs.map PW.head, u.oneCell' = true := fun u hu => by
  obtain ⟨x, -, rfl⟩ := List.mem_map.1 hu
  rfl
theorem ints_one (l : List Int) : ∀ u ∈ l.map (Value.int .i64), u.oneCell' = true := fun u hu => by
  obtain ⟨x, -, rfl⟩ := List.mem_map.1 hu
  rfl
theorem own_cap {w : World} {base : Nat} {e : TypeId} {size n c : Nat} {A : Option Addr} {xs : List Value} (h : w.ownsRow base e size (.slice A n c) n xs) : n ≤ c := by
  rcases h.2 with ⟨h1, -⟩ | ⟨g', cap', cur, h1, -, -, h2, -⟩
  · injection h1 with _ e2 e3; omega
  · injection h1 with _ _ e3; omega
theorem own_type {w : World} {base e size n : Nat} {v : Value} {xs : List Value} {g : Nat} (h : w.ownsRow base e size v n xs) (hg : v.ownBlock = some g) : ∃ cur, w.heap[g]? = some (.cells cur e (0, 0)) := by
  rcases h.2 with ⟨rfl, _⟩ | ⟨g', cap, cur, rfl, hb, hh, _⟩
  · simp [Value.ownBlock] at hg
  · have : g' = g := by simpa [Value.ownBlock] using hg
    subst this
    exact ⟨cur, hh⟩
theorem own_apart {w : World} {base base' e e' size size' n n' : Nat} {v v' : Value} {xs xs' : List Value} (h : w.ownsRow base e size v n xs) (h' : w.ownsRow base' e' size' v' n' xs') (hne : e ≠ e') : v.ownBlock = none ∨ v.ownBlock ≠ v'.ownBlock := by
  cases hv : v.ownBlock with
  | none => exact .inl rfl
  | some g =>
    refine .inr (fun e1 => ?_)
    obtain ⟨c1, h1⟩ := own_type h hv
    obtain ⟨c2, h2⟩ := own_type h' e1.symm
    rw [h1] at h2
    injection h2 with h2
    injection h2 with _ h2
    exact hne h2
theorem path_info : (Tryd.prog.info? 27).map (fun i => (i.zero, i.size, i.bytes)) = some (some (.slice none 0 0), 1, 24) := by kernel_rfl
theorem info3 {t : TypeId} {z : Value} {s b : Nat} (h : (Tryd.prog.info? t).map (fun i => (i.zero, i.size, i.bytes)) = some (some z, s, b)) : ∃ i, Tryd.prog.info? t = some i ∧ i.zero = some z ∧ i.size = s ∧ i.bytes = b := by
  obtain ⟨i, hi, hr⟩ := Option.map_eq_some_iff.1 h
  injection hr with h1 h2
  injection h2 with h2 h3
  exact ⟨i, hi, h1, h2, h3⟩
theorem szs_le {t k : TX} {j : Nat} (h : t.kids[j]? = some k) : 1 + szs t j + k.plain.size ≤ t.plain.size := by
  have h1 := szs_succ h
  have h2 := szs_all t t.kids.length (Nat.le_refl _)
  have h3 : szs t (j + 1) ≤ szs t t.kids.length := by
    unfold szs
    have hj := (List.getElem?_eq_some_iff.1 h).1
    have e : t.kids.take t.kids.length = t.kids.take (j + 1) ++ t.kids.drop (j + 1) := by rw [List.take_length, List.take_append_drop]
    rw [e, List.map_append, T.sizes_append]
    omega
  omega
theorem plain_pos (t : TX) : 1 ≤ t.plain.size := by rw [TX.plain_eq, T.size]; omega

theorem reads_zero {w : World} {B n : Nat} {A : Option Addr} {l : List Value} (h : Reads w B 1 A (0 + n) ([] ++ l)) : Reads w B 1 A n l := by simpa using h
theorem cap_zero {w : World} {base e n c : Nat} {A : Option Addr} {xs : List Value} (h : w.ownsRow base e 1 (.slice A (0 + n) c) (0 + n) xs) : n ≤ c := by have := own_cap h; omega
theorem undrew {W w9 : World} (h : Below W.drew.heap.size W.drew w9) : Below W.heap.size W w9 := ⟨h.os, h.tape, h.output, h.size, h.block⟩
theorem Blk.new' {w : World} {g : Nat} (t : TypeId) (cs : Array Value) (h : w.heap.size = g) : Blk (w.alloc (.cells cs t)) g t cs := h ▸ Blk.new w t cs

/-- a list of paths that can be read -/
def PR (w : World) (A : Option Addr) (xs : List PW) : Prop := Reads w w.heap.size 1 A xs.length (xs.map PW.head) ∧ ∀ x ∈ xs, Reads w w.heap.size 1 x.A x.l.length (x.l.map (Value.int .i64))
theorem PR.up {w w' : World} {A : Option Addr} {xs : List PW} (h : PR w A xs) (hb : Below w.heap.size w w') : PR w' A xs :=
  ⟨(h.1.below hb).more hb.size, fun x hx => ((h.2 x hx).below hb).more hb.size⟩
/-- the paths, each of which has room for itself -/
def PathsPostC (w : World) (L : List (List Int)) (e : Ending) (w' : World) : Prop := ∃ A c xs, e = .returned (.slice A xs.length c) ∧ PR w' A xs ∧ xs.map PW.l = L ∧ Below w.heap.size w w' ∧ ∀ x ∈ xs, x.l.length ≤ x.c
def PathsPost (w : World) (L : List (List Int)) (e : Ending) (w' : World) : Prop := ∃ A c xs, e = .returned (.slice A xs.length c) ∧ PR w' A xs ∧ xs.map PW.l = L ∧ Below w.heap.size w w'
/-- the paths, in new memory -/
def PathsPostN (w : World) (L : List (List Int)) (e : Ending) (w' : World) : Prop := ∃ A c xs, e = .returned (.slice A xs.length c) ∧ PR w' A xs ∧ xs.map PW.l = L ∧ Below w.heap.size w w' ∧ (∀ ad, A = some ad → w.heap.size ≤ ad.block) ∧ ∀ x ∈ xs, ∀ ad, x.A = some ad → 0 < x.l.length → w.heap.size ≤ ad.block

def POk (base : Nat) (w : World) (v : Value) (A : Option Addr) (P : List Int) : Prop := Reads w w.heap.size 1 A P.length (P.map (Value.int .i64)) ∧ ∀ ad, A = some ad → 0 < P.length → v.ownBlock ≠ some ad.block ∧ base ≤ ad.block
/-- a row of paths, each in blocks other than the row's -/
structure BS (w : World) (base : Nat) (v : Value) (xs : List PW) : Prop where
  row : w.ownsRow base 27 1 v xs.length (xs.map PW.head)
  lb : base ≤ w.heap.size
  each : ∀ x ∈ xs, POk base w v x.A x.l
section
variable {w w' : World} {base : Nat} {v v' : Value} {xs : List PW} {A : Option Addr} {P : List Int}
theorem POk.lt (h : POk base w v A P) : ∀ ad, A = some ad → 0 < P.length → ad.block < w.heap.size := fun ad e hn => by
  obtain ⟨ad', e', hb, -⟩ := h.1.2 hn
  rw [e] at e'; injection e' with e'; subst e'; exact hb
theorem POk.grows (h : POk base w v A P) (hg : Grows w w' v v') : POk base w' v' A P := by
  refine ⟨(h.1.keepS (S := fun b => v.ownBlock ≠ some b) (fun ad e hn => (h.2 ad e hn).1) (fun p hp hp2 => World.cell?_of_block (hg.grown.block p.block hp2 (fun e => hp e.symm)))).more hg.size, fun ad e hn => ⟨fun e2 => ?_, (h.2 ad e hn).2⟩⟩
  rcases hg.own _ e2 with h1 | h1
  · exact (h.2 ad e hn).1 h1
  · have := h.lt ad e hn; omega
theorem POk.up (h : POk base w v A P) (hb : Below w.heap.size w w') : POk base w' v A P := ⟨(h.1.below hb).more hb.size, h.2⟩
theorem BS.up (h : BS w base v xs) (hb : Below w.heap.size w w') : BS w' base v xs :=
  ⟨owns_below h.row hb (own_lt h.row), Nat.le_trans h.lb hb.size, fun x hx => POk.up (h.each x hx) hb⟩
theorem BS.push {x : PW} (h : BS w base v xs) (hx : POk base w v x.A x.l) (hg : Grows w w' v v') (ho : w'.ownsRow base 27 1 v' (xs.length + 1) (xs.map PW.head ++ [x.head])) : BS w' base v' (xs ++ [x]) :=
  ⟨by rw [List.length_append, List.map_append]; exact ho, Nat.le_trans h.lb hg.size, fun y hy => by
    rcases List.mem_append.1 hy with hy | hy
    · exact POk.grows (h.each y hy) hg
    · simp at hy; subst hy; exact POk.grows hx hg⟩
end
def BPost (w : World) (base : Nat) (v : Value) (xs : List PW) (t : TX) (P : List Int) (e : Ending) (w' : World) : Prop :=
  ∃ v' ys, e = .returned v' ∧ Grows w w' v v' ∧ BS w' base v' (xs ++ ys) ∧ ys.map PW.l = t.plain.paths P
theorem grows_drew {w w' : World} {v v' : Value} (h : Grows w w' v v') : Grows w w'.drew v v' := h.drew
/-- a new row beside: what it makes changes nothing of the other's -/
theorem grows_new {w w1 w2 : World} {v u u' : Value} (hb : Below w.heap.size w w1) (hg : Grows w1 w2 u u') (hu : ∀ g, u.ownBlock = some g → w.heap.size ≤ g) : Below w.heap.size w w2 :=
  hb.grown hg.grown hb.size hu

theorem own_zero {w : World} {base e n c : Nat} {A : Option Addr} {l : List Value} (h : w.ownsRow base e 1 (.slice A (0 + n) c) (0 + n) ([] ++ l)) : w.ownsRow base e 1 (.slice A n c) n l := by simpa using h
theorem le_alloc {w : World} {n : Nat} (h : n ≤ w.heap.size) (o : Obj) : n ≤ (w.alloc o).heap.size := by simp; omega
theorem one_int (x : Int) : ∀ u ∈ [Value.int .i64 x], u.oneCell' = true := fun u hu => by simp at hu; subst hu; rfl
theorem src_kept {w w' : World} {tx e' : TypeId} {gi : Nat} {x : Int} {v v' : Value} (hu : Tryd.prog.underlying tx = some (.slice e')) (hb : Blk w gi 3 [Value.int .i64 x].toArray) (hg : Grows w w' v v') (hne : v.ownBlock ≠ some gi) (h1 : ∀ u ∈ [Value.int .i64 x], u.oneCell' = true) : Src Tryd.prog 1 tx (.slice (some ⟨gi, 0, none⟩) 1 1) 1 [.int .i64 x] w' :=
  src_reads w' hu 1 (blk_reads (hg.blk hb hne) rfl) h1
theorem pok_new {base : Nat} {w w' : World} {v : Value} {A : Option Addr} {P : List Int} {j : Int} (hv : ∀ g, v.ownBlock = some g → g < w.heap.size) (hr : Reads w' w'.heap.size 1 A (P.length + 1) (P.map (Value.int .i64) ++ [.int .i64 j])) (hb : ∀ a, A = some a → w.heap.size ≤ a.block ∧ a.spot = none ∧ a.off = 0) (hz : base ≤ w.heap.size) : POk base w' v A (P ++ [j]) :=
  ⟨by rw [List.length_append, List.map_append]; exact hr, fun ad e hn => ⟨fun e2 => by have := hv _ e2; have := (hb ad e).1; omega, by have := (hb ad e).1; omega⟩⟩
theorem grows_keep {w w1 w2 : World} {v v' : Value} (hb : Below w.heap.size w w1) (hg : Grows w1 w2 v v') (hv : ∀ g, v.ownBlock = some g → g < w.heap.size) : w.heap.size ≤ w2.heap.size := Nat.le_trans hb.size hg.size
theorem pathss_len : ∀ (l : List T) (p : List Int) (i : Nat), (T.pathss l p i).length = T.sizes l
  | [], p, i => by rw [T.pathss, T.sizes]; rfl
  | a :: l, p, i => by rw [T.pathss, T.sizes, List.length_append, pathss_len l, paths_len]

set_option maxRecDepth 100000 in
set_option maxHeartbeats 3200000 in
theorem below_any (t : TX) : ∀ (w : World) (T0 base vc pc : Nat) (vA pA : Option Addr) (xs : List PW) (P : List Int), BS w base (.slice vA xs.length vc) xs → Tr w T0 t → T0 ≤ base → POk base w (.slice vA xs.length vc) pA P → xs.length + t.plain.size ≤ 1000000 → P.length + t.plain.size ≤ 1000000 →
    Calls Tryd.prog 47 #[.slice vA xs.length vc, t.val, .slice pA P.length pc] w (BPost w base (.slice vA xs.length vc) xs t P) := by
  induction t using TX.ind with
  | h t ih =>
  intro w T0 base vc pc vA pA xs P h ht h3 hp hn hpl
  unfold TX.val
  have hkb := ht.kb
  have hpos := plain_pos t
  obtain ⟨W, hW⟩ : ∃ W, w.alloc (.cells #[.int .i64 t.kind, .string t.text, .slice t.lA t.leads.length t.lc, .slice t.kA t.kids.length t.kc] 42) = W := ⟨_, rfl⟩
  have HBW : Hid (Below w.heap.size w W) := by subst hW; exact (Below.refl _ w).alloc (Nat.le_refl _) _
  have HX : Hid (Blk W w.heap.size 42 t.arr) := by subst hW; exact Blk.new w 42 _
  obtain ⟨W1, hW1⟩ : ∃ W1, W.alloc (.cells #[.slice pA P.length pc] 27) = W1 := ⟨_, rfl⟩
  have HB1 : Hid (Below W.heap.size W W1) := by subst hW1; exact (Below.refl _ W).alloc (Nat.le_refl _) _
  have HBW1 := Lib.hid (HBW.out.trans (HB1.out.mono HBW.out.size))
  have HX1 := Lib.hid (HX.out.below HB1.out HX.out.lt)
  have HS1 := Lib.hid (h.up HBW1.out)
  have HP1 := Lib.hid (hp.up HBW1.out)
  have HIH := Lib.hid ih
  have HT := Lib.hid ht
  have HOL := Lib.hid (own_lt h.row)
  have HOF := Lib.hid (own_from h.row)
  have HLO := Lib.hid h.lb
  obtain ⟨i3, a1, a2, a3, a4⟩ := info3 int_info
  obtain ⟨i26, b1, b2, b3, b4⟩ := info3 path_info
  have HI3 := Lib.hid a1
  have HI3z := Lib.hid a2
  have HI3s := Lib.hid a3
  have HI3b := Lib.hid a4
  have HP0 := Lib.hid b1
  have HP0z := Lib.hid b2
  have HP0s := Lib.hid b3
  have HP0b := Lib.hid b4
  have HSN : Hid (Src Tryd.prog 1 38 (.slice (some ⟨W.heap.size, 0, none⟩) 1 1) 1 [.slice pA P.length pc] W1) := by subst hW1; exact src_new W Tryd.underlying38 [.slice pA P.length pc] 1 1 1 27 rfl (by intro u hu; simp at hu; subst hu; rfl)
  have HL3 : Hid (xs.length + 1 ≤ maxLen) := by unfold Hid maxLen; omega
  have HL4 : Hid ((xs.length + 1) * 24 ≤ 140737488355328) := by unfold Hid; omega
  have HLB := Lib.hid HS1.out.lb
  clear h ih ht hp a1 a2 a3 a4 b1 b2 b3 b4
  go_enter Tryd.func47, Tryd.ntmps47
  go_wp2_with (at_builtin; refine wpList_append_row _ rfl (.tmp 8) (.tmp 10) 38 38 rfl base 27 i26 (.slice none 0 0) 1 24 Tryd.underlying38 HP0.out HP0z.out HP0s.out HP0b.out rfl (by decide) (.slice vA xs.length vc) xs.length (xs.map PW.head) rfl HS1.out.row (.slice (some ⟨W.heap.size, 0, none⟩) 1 1) 1 [.slice pA P.length pc] rfl HSN.out HL3.out HL4.out HLB.out ?_)
  intro v2 w2 hown2 hg2
  obtain ⟨A2, c2, rfl, -, -⟩ := reads_of_owns hown2
  have HG2 : Hid (Grows w w2 (.slice vA xs.length vc) (.slice A2 (xs.length + 1) c2)) := (Grows.of_below _ HBW1.out).trans hg2
  have HS2 : Hid (BS w2 base (.slice A2 (xs.length + 1) c2) (xs ++ [⟨pA, pc, P⟩])) := HS1.out.push (x := ⟨pA, pc, P⟩) HP1.out hg2 hown2
  have HP2 : Hid (POk base w2 (.slice A2 (xs.length + 1) c2) pA P) := HP1.out.grows hg2
  have HX2 : Hid (Blk w2 w.heap.size 42 t.arr) := hg2.blk HX1.out (fun e => by have := HOL.out _ e; omega)
  have HY0 : Hid (([⟨pA, pc, P⟩] : List PW).map PW.l = P :: T.pathss ((t.kids.take 0).map TX.plain) P 0) := by unfold Hid; rw [List.take_zero, List.map_nil, T.pathss, List.map_cons, List.map_nil]
  have HWW := Lib.hid (And.intro hW hW1)
  clear hown2 hg2 hW hW1
  obtain ⟨kA, hkA⟩ : ∃ a, t.kA = a := ⟨_, rfl⟩
  have HKA := Lib.hid hkA
  clear hkA
  go_wp2_with fail
  go_loopw [0, 7] (fun l i wr => ∃ (j n c : Nat) (A : Option Addr) (ys : List PW), j ≤ t.kids.length ∧ i = .int .i64 (j : Int) ∧ l = .slice A n c ∧ n = (xs ++ ys).length ∧ Hid (Grows w wr (.slice vA xs.length vc) (.slice A n c)) ∧ Hid (BS wr base (.slice A n c) (xs ++ ys)) ∧ Hid (POk base wr (.slice A n c) pA P) ∧ Hid (Blk wr w.heap.size 42 t.arr) ∧ Hid (ys.map PW.l = P :: T.pathss ((t.kids.take j).map TX.plain) P 0)) (fun _ i _ => t.kids.length - (intOf i).toNat)
  case atStart => exact ⟨0, _, c2, A2, [⟨pA, pc, P⟩], by omega, rfl, rfl, by simp, HG2, HS2, HP2, HX2, HY0⟩
  case round =>
    obtain ⟨j, n, c, A, ys, hj, rfl, rfl, hnl, HG3, HS3, HP3, HX3, HY⟩ := hrel
    have HNL := Lib.hid hnl
    clear hnl
    have d3 := HX3.out.cell 3
    simp [TX.arr] at d3
    rw [HKA.out] at d3
    by_cases hlt : j < t.kids.length
    · obtain ⟨k, hk⟩ : ∃ k, t.kids[j]? = some k := ⟨_, List.getElem?_eq_getElem hlt⟩
      have hlb3 := HS3.out.lb
      have HBT : Hid (Below T0 w wr) := HG3.out.below (by have := HG3.out.size; have := HBW.out.size; have := HLO.out; omega) (fun g e => by have := HOF.out g e; omega)
      obtain ⟨ab, ao, hA, hab, e0, e1, e2, e3⟩ := (HT.out.low HBT.out).at_ hk
      obtain rfl : kA = some ⟨ab, ao, none⟩ := HKA.out.symm.trans hA
      have hszk := szs_le hk
      have hlen : ys.length = 1 + szs t j := by
        have := congrArg List.length HY.out
        rw [List.length_map, List.length_cons, pathss_len] at this
        rw [this]
        unfold szs
        omega
      have hnl := HNL.out
      rw [List.length_append] at hnl
      have HOL3 := Lib.hid (own_lt HS3.out.row)
      have HBZ : Hid (base ≤ wr.heap.size) := HS3.out.lb
      have HM1 : Hid (P.length + 1 ≤ maxLen) := by unfold Hid maxLen; omega
      have HM2 : Hid ((P.length + 1) * 8 ≤ 140737488355328) := by unfold Hid; omega
      have HM3 : Hid (0 + P.length ≤ maxLen) := by unfold Hid maxLen; omega
      have HM4 : Hid ((0 + P.length) * 8 ≤ 140737488355328) := by unfold Hid; omega
      have HSK : Hid (∀ w' : World, Below wr.heap.size wr w' → w'.cell? ⟨w.heap.size, 3, none⟩ = some (.slice (some ⟨ab, ao, none⟩) t.kids.length t.kc) ∧ w'.cell? ⟨ab, ao + j * 4, none⟩ = some (.int .i64 k.kind) ∧ w'.cell? ⟨ab, ao + j * 4 + 1, none⟩ = some (.string k.text) ∧ w'.cell? ⟨ab, ao + j * 4 + 2, none⟩ = some (.slice k.lA k.leads.length k.lc) ∧ w'.cell? ⟨ab, ao + j * 4 + 3, none⟩ = some (.slice k.kA k.kids.length k.kc)) := fun w' hw => by
        have r1 := HX3.out.below hw HX3.out.lt
        have r3 := ((HT.out.low HBT.out).low (hw.mono (Nat.le_trans h3 hlb3))).c4 hk HKA.out
        exact ⟨by rw [r1.cell]; show some (Value.slice t.kA _ _) = _; rw [HKA.out], r3.1, r3.2.1, r3.2.2.1, r3.2.2.2⟩
      have HNB : Hid ((Value.slice A n c).ownBlock ≠ some w.heap.size) := own_blk_ne HS3.out.row HX3.out (by decide)
      have HOF3 := Lib.hid (own_from HS3.out.row)
      have HXG : Hid (∀ (w30 w' : World) (v' : Value), Below wr.heap.size wr w30 → Grows w30 w' (.slice A n c) v' → Blk w' w.heap.size 42 t.arr) := fun w30 w' v' hw hg => hg.blk (HX3.out.below hw HX3.out.lt) HNB.out
      have HSG : Hid (∀ (w30 w' : World) (v' : Value), Below wr.heap.size wr w30 → Grows w30 w' (.slice A n c) v' → w'.cell? ⟨w.heap.size, 3, none⟩ = some (.slice (some ⟨ab, ao, none⟩) t.kids.length t.kc) ∧ w'.cell? ⟨ab, ao + j * 4, none⟩ = some (.int .i64 k.kind) ∧ w'.cell? ⟨ab, ao + j * 4 + 1, none⟩ = some (.string k.text) ∧ w'.cell? ⟨ab, ao + j * 4 + 2, none⟩ = some (.slice k.lA k.leads.length k.lc) ∧ w'.cell? ⟨ab, ao + j * 4 + 3, none⟩ = some (.slice k.kA k.kids.length k.kc)) := fun w30 w' v' hw hg => by
        have r1 := HXG.out w30 w' v' hw hg
        have r2 : Below T0 w30 w' := hg.below (Nat.le_trans (Nat.le_trans h3 hlb3) hw.size) (fun g e => by have := HOF3.out g e; omega)
        have r3 := (((HT.out.low HBT.out).low (hw.mono (Nat.le_trans h3 hlb3))).low r2).c4 hk HKA.out
        exact ⟨by rw [r1.cell]; show some (Value.slice t.kA _ _) = _; rw [HKA.out], r3.1, r3.2.1, r3.2.2.1, r3.2.2.2⟩
      have HD : Hid (Below wr.heap.size wr wr.drew) := below_drewN (Below.refl _ _) 1
      have HDa : Hid (Below wr.heap.size wr (wr.drew.alloc (.cells #[] 3))) := HD.out.alloc HD.out.size _
      have HDi : Hid (Below wr.heap.size wr (wr.drew.alloc (.cells #[.int .i64 (j : Int)] 3))) := HD.out.alloc HD.out.size _
      have HDai : Hid (Below wr.heap.size wr ((wr.drew.alloc (.cells #[] 3)).alloc (.cells #[.int .i64 (j : Int)] 3))) := HDa.out.alloc HDa.out.size _
      have HDia : Hid (Below wr.heap.size wr ((wr.drew.alloc (.cells #[.int .i64 (j : Int)] 3)).alloc (.cells #[] 3))) := HDi.out.alloc HDi.out.size _
      have HOa : Hid ((wr.drew.alloc (.cells #[] 3)).ownsRow wr.heap.size 3 1 (.slice (some ⟨wr.heap.size, 0, none⟩) 0 0) 0 []) := ⟨rfl, .inr ⟨wr.heap.size, 0, #[], rfl, Nat.le_refl _, Blk.new wr.drew 3 #[], Nat.le_refl _, Nat.zero_le _, rfl, rfl⟩⟩
      have HOb : Hid (((wr.drew.alloc (.cells #[] 3)).alloc (.cells #[.int .i64 (j : Int)] 3)).ownsRow wr.heap.size 3 1 (.slice (some ⟨wr.heap.size, 0, none⟩) 0 0) 0 []) := HOa.out.alloc _
      have HOc : Hid (((wr.drew.alloc (.cells #[.int .i64 (j : Int)] 3)).alloc (.cells #[] 3)).ownsRow wr.heap.size 3 1 (.slice (some ⟨wr.heap.size + 1, 0, none⟩) 0 0) 0 []) := ⟨rfl, .inr ⟨wr.heap.size + 1, 0, #[], rfl, Nat.le_succ _, Blk.new' 3 #[] (by simp), Nat.le_refl _, Nat.zero_le _, rfl, rfl⟩⟩
      have HKb : Hid (Blk ((wr.drew.alloc (.cells #[] 3)).alloc (.cells #[.int .i64 (j : Int)] 3)) (wr.heap.size + 1) 3 [Value.int .i64 (j : Int)].toArray) := Blk.new' 3 _ (by simp)
      have HKc : Hid (Blk ((wr.drew.alloc (.cells #[.int .i64 (j : Int)] 3)).alloc (.cells #[] 3)) wr.heap.size 3 [Value.int .i64 (j : Int)].toArray) := (Blk.new wr.drew 3 _).alloc _
      have HSW : Hid (∀ w' : World, Below wr.heap.size wr w' → Src Tryd.prog 1 27 (.slice pA P.length pc) P.length (P.map (Value.int .i64)) w') := fun w' hw => src_reads w' Tryd.underlying27 pc (HP3.out.1.below hw) (ints_one P)
      have HSa := Lib.hid (HSW.out _ HDa.out)
      have HSb := Lib.hid (HSW.out _ HDai.out)
      have HSc := Lib.hid (HSW.out _ HDia.out)
      have HZ0 : Hid (∀ n : Nat, wr.heap.size ≤ wr.heap.size + n) := fun n => Nat.le_add_right _ _
      have HCW : Hid (∀ (w' : World) (A' : Option Addr) (c' : Nat), Below wr.heap.size wr w' → POk base w' (.slice A n c) A' (P ++ [(j : Int)]) → Calls Tryd.prog 47 #[.slice A n c, .agg #[.int .i64 k.kind, .string k.text, .slice k.lA k.leads.length k.lc, .slice k.kA k.kids.length k.kc], .slice A' (P.length + 1) c'] w' (BPost w' base (.slice A n c) (xs ++ ys) k (P ++ [(j : Int)]))) := fun w' A' c' hw hpk => by
        have hn0 := HNL.out
        subst hn0
        have := HIH.out k (List.mem_of_getElem? hk) w' T0 base c c' A A' (xs ++ ys) (P ++ [(j : Int)]) (HS3.out.up hw) (((HT.out.sub k (List.mem_of_getElem? hk)).low HBT.out).low (hw.mono (Nat.le_trans h3 hlb3))) h3 hpk (by omega) (by rw [List.length_append, List.length_cons, List.length_nil]; omega)
        have e5 : (P ++ [(j : Int)]).length = P.length + 1 := by simp
        rw [e5] at this
        exact this
      have i0' : (0 : Int) ≤ (j : Int) := by omega
      have i1' : (j : Int) < (t.kids.length : Int) := by omega
      have HK := Lib.hid hk
      clear hA hk hnl hlen hszk
      go_wp2_with fail
      go_region_held3 (fun w' => w'.cell? ⟨w.heap.size, 3, none⟩ = some (.slice (some ⟨ab, ao, none⟩) t.kids.length t.kc) ∧ w'.cell? ⟨ab, ao + j * 4, none⟩ = some (.int .i64 k.kind) ∧ w'.cell? ⟨ab, ao + j * 4 + 1, none⟩ = some (.string k.text) ∧ w'.cell? ⟨ab, ao + j * 4 + 2, none⟩ = some (.slice k.lA k.leads.length k.lc) ∧ w'.cell? ⟨ab, ao + j * 4 + 3, none⟩ = some (.slice k.kA k.kids.length k.kc)) (first | exact HSK.out _ HD.out | exact HSK.out _ HDa.out | exact HSK.out _ HDi.out | exact HSK.out _ HDai.out | exact HSK.out _ HDia.out | exact HSG.out _ _ _ HB30.out HG31.out | exact HSK.out _ HB30.out | exact HSK.out _ HB27.out | exact HSK.out _ (HB27.out.alloc HB27.out.size _)) (first
        | (go_at_call 47; refine (HCW.out _ _ _ HB30.out HR30.out).mono ?_; rintro e w31 ⟨v31, zs, rfl, hg31, hs31, hz31⟩; obtain ⟨A31, c31, rfl, -, -⟩ := reads_of_owns hs31.row; have HG31 := Lib.hid hg31; have HS31 := Lib.hid hs31; have HZ31 := Lib.hid hz31; clear hg31 hs31 hz31)
        | (refine step_append_row _ rfl (.tmp 27) (.tmp 29) 27 27 rfl wr.heap.size 3 i3 (.int .i64 0) 1 8 Tryd.underlying27 HI3.out HI3z.out HI3s.out HI3b.out rfl (by decide) (.slice A27 P.length c27) P.length (P.map (Value.int .i64)) (by simp [Act.eval]) HO27.out _ 1 [.int .i64 (j : Int)] (by simp [Act.eval]) HSI.out HM1.out HM2.out HZ27.out ?_; intro v30 w30 hown30 hg30; obtain ⟨A30, c30, rfl, hr30, hb30⟩ := reads_of_owns hown30; have HB30 := Lib.hid (grows_new (v := .slice none 0 0) HB27.out hg30 (own_from HO27.out)); have HR30 := Lib.hid (pok_new HOL3.out hr30 hb30 HBZ.out); clear hown30 hg30 hr30 hb30)
        | (refine step_append_row _ rfl (.tmp 27) (.tmp 29) 27 27 rfl wr.heap.size 3 i3 (.int .i64 0) 1 8 Tryd.underlying27 HI3.out HI3z.out HI3s.out HI3b.out rfl (by decide) (.slice A27 P.length c27) P.length (P.map (Value.int .i64)) (by simp [Act.eval]) (HO27.out.alloc (.cells #[.int .i64 (j : Int)] 3)) (.slice (some ⟨w27.heap.size, 0, none⟩) 1 1) 1 [.int .i64 (j : Int)] (by simp [Act.eval]) (src_new w27 Tryd.underlying27 [.int .i64 (j : Int)] 1 1 1 3 rfl (one_int _)) HM1.out HM2.out HZ27'.out ?_; intro v30 w30 hown30 hg30; obtain ⟨A30, c30, rfl, hr30, hb30⟩ := reads_of_owns hown30; have HB30 := Lib.hid (grows_new (v := .slice none 0 0) (HB27.out.alloc HB27.out.size (.cells #[.int .i64 (j : Int)] 3)) hg30 (own_from (HO27.out.alloc (.cells #[.int .i64 (j : Int)] 3)))); have HR30 := Lib.hid (pok_new HOL3.out hr30 hb30 HBZ.out); clear hown30 hg30 hr30 hb30)
        | (refine step_append_row _ rfl (.tmp 25) (.tmp 26) 27 27 rfl wr.heap.size 3 i3 (.int .i64 0) 1 8 Tryd.underlying27 HI3.out HI3z.out HI3s.out HI3b.out rfl (by decide) (.slice (some ⟨wr.heap.size, 0, none⟩) 0 0) 0 [] (by simp [Act.eval]) HOb.out (.slice pA P.length pc) P.length (P.map (Value.int .i64)) (by simp [Act.eval]) HSb.out HM3.out HM4.out HDai.out.size ?_; intro v27 w27 hown27 hg27; obtain ⟨A27, c27, rfl, -, -⟩ := reads_of_owns hown27; have HB27 := Lib.hid (grows_new (v := .slice none 0 0) HDai.out hg27 (own_from HOb.out)); have HSI := Lib.hid (src_kept Tryd.underlying27 HKb.out hg27 (by simp [Value.ownBlock]) (one_int _)); have HO27 := Lib.hid (own_zero hown27); have HZ27 := Lib.hid HB27.out.size; have HZ27' := Lib.hid (le_alloc HB27.out.size (.cells #[.int .i64 (j : Int)] 3)); clear hown27 hg27)
        | (refine step_append_row _ rfl (.tmp 25) (.tmp 26) 27 27 rfl wr.heap.size 3 i3 (.int .i64 0) 1 8 Tryd.underlying27 HI3.out HI3z.out HI3s.out HI3b.out rfl (by decide) (.slice (some ⟨wr.heap.size + 1, 0, none⟩) 0 0) 0 [] (by simp [Act.eval]) HOc.out (.slice pA P.length pc) P.length (P.map (Value.int .i64)) (by simp [Act.eval]) HSc.out HM3.out HM4.out HDia.out.size ?_; intro v27 w27 hown27 hg27; obtain ⟨A27, c27, rfl, -, -⟩ := reads_of_owns hown27; have HB27 := Lib.hid (grows_new (v := .slice none 0 0) HDia.out hg27 (own_from HOc.out)); have HSI := Lib.hid (src_kept Tryd.underlying27 HKc.out hg27 (by simp [Value.ownBlock]) (one_int _)); have HO27 := Lib.hid (own_zero hown27); have HZ27 := Lib.hid HB27.out.size; have HZ27' := Lib.hid (le_alloc HB27.out.size (.cells #[.int .i64 (j : Int)] 3)); clear hown27 hg27)
        | (refine step_append_row _ rfl (.tmp 25) (.tmp 26) 27 27 rfl wr.heap.size 3 i3 (.int .i64 0) 1 8 Tryd.underlying27 HI3.out HI3z.out HI3s.out HI3b.out rfl (by decide) (.slice (some ⟨wr.heap.size, 0, none⟩) 0 0) 0 [] (by simp [Act.eval]) HOa.out (.slice pA P.length pc) P.length (P.map (Value.int .i64)) (by simp [Act.eval]) HSa.out HM3.out HM4.out HDa.out.size ?_; intro v27 w27 hown27 hg27; obtain ⟨A27, c27, rfl, -, -⟩ := reads_of_owns hown27; have HB27 := Lib.hid (grows_new (v := .slice none 0 0) HDa.out hg27 (own_from HOa.out)); have HO27 := Lib.hid (own_zero hown27); have HZ27 := Lib.hid HB27.out.size; have HZ27' := Lib.hid (le_alloc HB27.out.size (.cells #[.int .i64 (j : Int)] 3)); clear hown27 hg27))
      all_goals
        have HG4 : Hid (Grows w w31 (.slice vA xs.length vc) (.slice A31 (xs ++ ys ++ zs).length c31)) := HG3.out.trans ((Grows.of_below _ HB30.out).trans HG31.out)
        have HP4 := Lib.hid ((HP3.out.up HB30.out).grows HG31.out)
        have HX4 := Lib.hid (HXG.out _ _ _ HB30.out HG31.out)
        have HY4 : Hid ((ys ++ zs).map PW.l = P :: T.pathss ((t.kids.take (j + 1)).map TX.plain) P 0) := by
          unfold Hid
          rw [List.map_append, HY.out, HZ31.out, pathss_succ HK.out, List.cons_append]
        have HS4 := HS31
        rw [List.append_assoc] at HG4 HS4 HP4
        go_wp2_with fail
        go_roundw
        case rel => exact ⟨j + 1, _, c31, A31, ys ++ zs, by omega, by go_num, by simp, rfl, HG4, HS4, HP4, HX4, HY4⟩
        case measure => simp [intOf]; omega
    · obtain rfl : j = t.kids.length := by omega
      have HE : Hid (BPost w base (.slice vA xs.length vc) xs t P (.returned (.slice A n c)) wr) := ⟨_, ys, rfl, HG3.out, HS3.out, by rw [HY.out, paths_plain, List.take_length]⟩
      go_wp2_with fail
      go_ret
      exact HE.out

set_option maxRecDepth 100000 in
set_option maxHeartbeats 1600000 in
theorem rpaths_any (t : TX) (w : World) (h : Tr w w.heap.size t) (hs : t.plain.size ≤ 1000000) : Calls Tryd.prog 23 #[t.val] w (PathsPostN w (t.plain.paths [])) := by
  unfold TX.val
  obtain ⟨W, hW⟩ : ∃ W, w.alloc (.cells #[.int .i64 t.kind, .string t.text, .slice t.lA t.leads.length t.lc, .slice t.kA t.kids.length t.kc] 42) = W := ⟨_, rfl⟩
  have HBW : Hid (Below w.heap.size w W) := by subst hW; exact (Below.refl _ w).alloc (Nat.le_refl _) _
  have HX : Hid (Blk W w.heap.size 42 t.arr) := by subst hW; exact Blk.new w 42 _
  have d0 := HX.out.cell 0
  have d1 := HX.out.cell 1
  have d2 := HX.out.cell 2
  have d3 := HX.out.cell 3
  simp [TX.arr] at d0 d1 d2 d3
  have HC := Lib.hid (below_any t W w.heap.size W.heap.size 0 0 none none [] [] ⟨⟨rfl, .inl ⟨rfl, rfl⟩⟩, Nat.le_refl _, fun x hx => by cases hx⟩ (h.low HBW.out) HBW.out.size ⟨Reads.none_, fun ad e => by cases e⟩ (by simpa using hs) (by simpa using hs))
  unfold TX.val at HC
  simp only [List.length_nil] at HC
  clear h
  go_enter Tryd.func23, Tryd.ntmps23
  go_wp2_with fail
  refine (HC.out).mono ?_
  rintro e w1 ⟨v', ys, rfl, hg, hs1, hy⟩
  obtain ⟨A, c, rfl, hr, hA⟩ := reads_of_owns hs1.row
  rw [List.nil_append] at hs1 hr
  have hzW := HBW.out.size
  have HP : Hid (PathsPostN w (t.plain.paths []) (.returned (.slice A ys.length c)) w1) := ⟨A, c, ys, rfl, ⟨hr, fun x hx => (hs1.each x hx).1⟩, hy, HBW.out.trans (hg.below_new.mono HBW.out.size), fun ad e => by have := (hA ad e).1; omega, fun x hx ad e hn => by have := ((hs1.each x hx).2 ad e hn).2; omega⟩
  rw [List.nil_append]
  clear hg hs1 hr hy hA
  go_wp2_with fail
  go_ret
  exact HP.out

end Go.Proofs.YtdabmjcpiblofaaDoor
