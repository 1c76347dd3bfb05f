/-
  PackDeep: for every input the law returns true, and its arguments are as they were. No condition beside the given statement's own.
-/
import Derived.Test.YtdabmjcpiblofaaDoorPkLaws
import Derived.Test.YtdabmjcpiblofaaDoorPkKr
namespace Go.Proofs.YtdabmjcpiblofaaDoor.packDeep
open Go.ChangeShapes Go.WideShapes Go.ChangeAt Go.RowKit
open Go.ChangeMaps (open_string shut_string)
set_option linter.unusedVariables false

/-- a pack in the making: its box first -/
structure DR (w wr : World) (lv : Value) (ps : List PX) (R : Nat → Prop) (rv : Value) (rs : List Int) : Prop where
  nr : NR wr w.heap.size lv ps R
  roots : wr.ownsRow w.heap.size 3 1 rv rs.length (rs.map (Value.int .i64))
  rvR : ∀ g, rv.ownBlock = some g → ¬ R g
  l0 : ∀ i, R i → w.heap.size + 1 ≤ i
  bel : Below w.heap.size w wr
  b1 : Blk wr w.heap.size 29 #[lv, rv]
  rr : ∀ r ∈ rs, i64 r
section
variable {w wr wk w6 : World} {lv rv v6 : Value} {ps : List PX} {R : Nat → Prop} {rs : List Int} {p : PX} {o : Obj} {k : Int}
theorem DR.start (w : World) : DR w (w.alloc (.cells #[.slice none 0 0, .slice none 0 0] 29)) (.slice none 0 0) [] (fun _ => False) (.slice none 0 0) [] :=
  ⟨NR.nil _ _ (by simp), ⟨rfl, .inl ⟨rfl, rfl⟩⟩, (fun g hg h => h), (fun i h => h.elim), bal (Below.refl _ _) _, Blk.new _ _ _, (fun r hr => by cases hr)⟩
theorem DR.node (h : DR w wr lv ps R rv rs) (hb : Below wr.heap.size wr wk) (hkv : wk.ownsRow w.heap.size 3 1 (.slice p.kA p.kids.length p.kc) p.kids.length (p.kids.map (Value.int .i64))) (hkn : ∀ g, (Value.slice p.kA p.kids.length p.kc).ownBlock = some g → wr.heap.size ≤ g) (hl : Reads wk w.heap.size 1 p.lA p.leads.length (p.leads.map Value.string)) (hgd : goodP p.plain)
    (ho : w6.ownsRow w.heap.size 48 4 v6 (ps.length + 1) (ps.flatMap PX.cells ++ p.cells)) (hg : Grows (wk.alloc o) w6 lv v6) :
    DR w (w6.setCell ⟨w.heap.size, 0, none⟩ v6) v6 (ps ++ [p]) (fun i => R i ∨ (Value.slice p.kA p.kids.length p.kc).ownBlock = some i) rv rs := by
  have hz := hb.size
  have hl1 := h.b1.lt
  have hrl := own_lt h.roots
  have hng := own_from h.nr.row
  have hRl := fun i hi => (h.nr.apart i hi).2.2
  have hnk := (h.nr.below hb)
  have hp := hnk.push (ks := []) (kv := none) (kA := none) (kc := 0) (lc := 0) hkv hl (fun g hg' hR => by have := hkn g hg'; have := hRl g hR; omega) hgd ho hg
  have hsz : (wk.alloc o).heap.size = wk.heap.size + 1 := by simp
  have hgs := hg.size
  have hbo : Below w.heap.size w (wk.alloc o) := bal (h.bel.trans (hb.mono h.bel.size)) _
  have hrn := own_types h.roots h.nr.row (by decide)
  have rb1 : rv.ownBlock ≠ some w.heap.size := own_blk_ne h.roots h.b1 (by decide)
  have lb1 : lv.ownBlock ≠ some w.heap.size := own_blk_ne h.nr.row h.b1 (by decide)
  have hr6 : w6.ownsRow w.heap.size 3 1 rv rs.length (rs.map (Value.int .i64)) := ((owns_below h.roots hb hrl).alloc o).kept hg.grown (by
    cases hq : rv.ownBlock with
    | none => exact .inl rfl
    | some g => exact .inr (fun e => hrn g hq e.symm))
  have hbx : Blk w6 w.heap.size 29 #[lv, rv] := hg.blk ((h.b1.below hb h.b1.lt).alloc o) lb1
  have v6b : v6.ownBlock ≠ some w.heap.size := own_blk_ne ho hbx (by decide)
  have hc : Chg w6 (w6.setCell ⟨w.heap.size, 0, none⟩ v6) (fun i => i = w.heap.size) := (Chg.refl w6 (fun i => i = w.heap.size)).setCell (p := ⟨w.heap.size, 0, none⟩) (.inl rfl) v6
  have hl0 : ∀ i, (R i ∨ (Value.slice p.kA p.kids.length p.kc).ownBlock = some i) → w.heap.size + 1 ≤ i := fun i hi => by
    rcases hi with hi | hi
    · exact h.l0 i hi
    · have := hkn i hi; omega
  refine ⟨hp.chg hc (fun g hg' e => v6b (by rw [hg', e])) (fun i hi e => by have := hl0 i hi; omega) (fun i hi => by omega), owns_chg hr6 hc (fun g hg' e => rb1 (by rw [hg', e])), fun g hg' hx => ?_, hl0, (hbo.grown hg.grown hbo.size (fun g hg' => by have := hng g hg'; omega)).setCell (p := ⟨w.heap.size, 0, none⟩) (Nat.le_refl _) v6, hbx.set_ 0 v6, h.rr⟩
  rcases hx with hx | hx
  · exact h.rvR g hg' hx
  · have := hkn g hx; have := hrl g hg'; omega
theorem DR.root (h : DR w wr lv ps R rv rs) (hk : i64 k) (ho : w6.ownsRow w.heap.size 3 1 v6 (rs.length + 1) (rs.map (Value.int .i64) ++ [.int .i64 k])) (hg : Grows (wr.alloc o) w6 rv v6) :
    DR w (w6.setCell ⟨w.heap.size, 1, none⟩ v6) lv ps R v6 (rs ++ [k]) := by
  have hz := hg.size
  have hsz : (wr.alloc o).heap.size = wr.heap.size + 1 := by simp
  have l1 := h.b1.lt
  have rb1 : rv.ownBlock ≠ some w.heap.size := own_blk_ne h.roots h.b1 (by decide)
  have rn := own_types h.roots h.nr.row (by decide)
  have hRl := fun i hi => (h.nr.apart i hi).2.2
  have hc6 : Chg wr w6 (fun i => rv.ownBlock = some i) := (Chg.of_new (bal (Below.refl _ wr) o) _).trans (Chg.of_grown hg.grown (fun g e => e)) (fun i _ e => e)
  have hc : Chg wr (w6.setCell ⟨w.heap.size, 1, none⟩ v6) (fun i => rv.ownBlock = some i ∨ i = w.heap.size) := (hc6.mono (fun i e => .inl e)).setCell (p := ⟨w.heap.size, 1, none⟩) (.inl (.inr rfl)) v6
  have lb1 : lv.ownBlock ≠ some w.heap.size := own_blk_ne h.nr.row h.b1 (by decide)
  have rge := own_from h.roots
  have hb16 := h.b1.chg hc6 rb1
  have v6b1 : v6.ownBlock ≠ some w.heap.size := own_blk_ne ho hb16 (by decide)
  have hc2 : Chg w6 (w6.setCell ⟨w.heap.size, 1, none⟩ v6) (fun i => i = w.heap.size) := (Chg.refl w6 (fun i => i = w.heap.size)).setCell (p := ⟨w.heap.size, 1, none⟩) (.inl rfl) v6
  refine ⟨h.nr.chg hc (fun g hg' e => ?_) (fun i hi e => ?_) (fun i hi => ?_), ?_, fun g hg' hx => ?_, h.l0, h.bel.trans (hc.below h.bel.size (fun i hi => ?_)), hb16.set_ 1 v6, fun r hr => ?_⟩
  · rcases e with e | e
    · exact rn g e hg'
    · exact lb1 (by rw [hg', e])
  · rcases e with e | e
    · exact h.rvR i e hi
    · have := h.l0 i hi; omega
  · rcases hi with hi | hi
    · exact rge i hi
    · omega
  · rw [List.length_append, List.length_singleton, List.map_append]
    exact owns_chg ho hc2 (fun g hg' e => v6b1 (by rw [hg', e]))
  · rcases hg.own g hg' with h2 | h2
    · exact h.rvR g h2 hx
    · have := hRl g hx; omega
  · rcases hi with hi | hi
    · exact rge i hi
    · omega
  · rcases List.mem_append.1 hr with hr | hr
    · exact h.rr r hr
    · simp at hr; subst hr; exact hk
theorem owns_new {w : World} {e : TypeId} {xs : List Value} {n base : Nat} (hn : xs.length = n) (hm : n ≤ maxLen) (hb : base ≤ w.heap.size) : (w.alloc (.cells xs.toArray e)).ownsRow base e 1 (.slice (some ⟨w.heap.size, 0, none⟩) n n) n xs := by
  refine ⟨by omega, .inr ⟨w.heap.size, n, xs.toArray, rfl, hb, Blk.new w e xs.toArray, Nat.le_refl _, hm, by simp [hn], ?_⟩⟩
  simp [← hn]
theorem DR.setRoot (h : DR w wr lv ps R (.slice none 0 0) []) (hk : i64 k) :
    DR w ((wr.alloc (.cells #[.int .i64 k] 3)).setCell ⟨w.heap.size, 1, none⟩ (.slice (some ⟨wr.heap.size, 0, none⟩) 1 1)) lv ps R (.slice (some ⟨wr.heap.size, 0, none⟩) 1 1) [k] := by
  have l1 := h.b1.lt
  have hz := h.bel.size
  have ho := owns_new (w := wr) (e := 3) (xs := [.int .i64 k]) (n := 1) (base := w.heap.size) rfl (by unfold maxLen; omega) hz
  have hb16 := h.b1.alloc (.cells #[.int .i64 k] 3)
  have lb1 : lv.ownBlock ≠ some w.heap.size := own_blk_ne h.nr.row h.b1 (by decide)
  have hRl := fun i hi => (h.nr.apart i hi).2.2
  have hc2 : Chg (wr.alloc (.cells #[.int .i64 k] 3)) ((wr.alloc (.cells #[.int .i64 k] 3)).setCell ⟨w.heap.size, 1, none⟩ (.slice (some ⟨wr.heap.size, 0, none⟩) 1 1)) (fun i => i = w.heap.size) := (Chg.refl _ (fun i => i = w.heap.size)).setCell (p := ⟨w.heap.size, 1, none⟩) (.inl rfl) _
  refine ⟨(h.nr.below (bal (Below.refl _ _) _)).chg hc2 (fun g hg' e => lb1 (by rw [hg', e])) (fun i hi e => by have := h.l0 i hi; omega) (fun i hi => by omega), owns_chg ho hc2 (fun g hg' e => ?_), fun g hg' hx => ?_, h.l0, (bal h.bel _).setCell (p := ⟨w.heap.size, 1, none⟩) (Nat.le_refl _) _, hb16.set_ 1 _, fun r hr => ?_⟩
  · simp [Value.ownBlock] at hg'
    omega
  · simp [Value.ownBlock] at hg'
    have := hRl g hx; omega
  · simp at hr; subst hr; exact hk
theorem DR.ok {lA rA : Option Addr} {lc rc : Nat} (h : DR w wr (.slice lA ps.length lc) ps R (.slice rA rs.length rc) rs) (h1 : ps.length ≤ 1000000) (h2 : rs.length ≤ 1000000) : (⟨lA, ps, lc, rA, rs, rc⟩ : PkV).ok wr wr.heap.size :=
  ⟨Reads.of_own h.nr.row, Reads.of_own h.roots, h.nr.ok, h1, h2, h.rr⟩
end

set_option maxRecDepth 100000 in
set_option maxHeartbeats 3200000 in
theorem walk (a b : Int) (ha : i64 a) (hb : i64 b) (w : World) (ht : Tab w) :
    Calls Tryd.prog 6 #[.int .i64 a, .int .i64 b] w fun e w' => e = .returned (.bool true) ∧ Below w.heap.size w w' := by
  obtain ⟨x, hx⟩ : ∃ x : Nat, a % 8 = (x : Int) := ⟨(a % 8).toNat, by have := Int.emod_nonneg a (show (8 : Int) ≠ 0 by decide); omega⟩
  have hx8 : x < 8 := by have := Int.emod_lt_of_pos a (show (0 : Int) < 8 by decide); omega
  obtain ⟨y, hy⟩ : ∃ y : Nat, b % 3 = (y : Int) := ⟨(b % 3).toNat, by have := Int.emod_nonneg b (show (3 : Int) ≠ 0 by decide); omega⟩
  have hy3 : y < 3 := by have := Int.emod_lt_of_pos b (show (0 : Int) < 3 by decide); omega
  have HMA : Hid (∀ w', Calls Tryd.prog 26 #[.int .i64 a, .int .i64 8] w' fun e w2 => e = .returned (.int .i64 (x : Int)) ∧ w' = w2) := fun w' => by
    have := mod_any a 8 w' (by omega) (by omega) ha.1 ha.2
    rwa [hx] at this
  have HMB : Hid (∀ w', Calls Tryd.prog 26 #[.int .i64 b, .int .i64 3] w' fun e w2 => e = .returned (.int .i64 (y : Int)) ∧ w' = w2) := fun w' => by
    have := mod_any b 3 w' (by omega) (by omega) hb.1 hb.2
    rwa [hy] at this
  have HT := Lib.hid ht
  obtain ⟨i0, hi0, hz0, hz1, hz2⟩ := info_parts node_info'
  have HI0 := Lib.hid hi0
  have HZ0 := Lib.hid hz0
  have HZ1 := Lib.hid hz1
  have HZ2 := Lib.hid hz2
  obtain ⟨j0, hj0, gz0, gz1, gz2⟩ := info_parts int_info
  have HJ0 := Lib.hid hj0
  have HG0 := Lib.hid gz0
  have HG1 := Lib.hid gz1
  have HG2 := Lib.hid gz2
  have HD0 := Lib.hid (DR.start w)
  clear ht hx hy hi0 hz0 hz1 hz2 hj0 gz0 gz1 gz2
  go_enter Tryd.func6, Tryd.ntmps6
  go_wp2_with fail
  go_loopw [6] (fun i wr => ∃ (j : Nat) (lA : Option Addr) (lc : Nat) (ps : List PX) (R : Nat → Prop), j ≤ 10 + x ∧ i = .int .i64 (j : Int) ∧ Hid (ps.length = j) ∧ Hid (DR w wr (.slice lA j lc) ps R (.slice none 0 0) [])) (fun i _ => 10 + x - (intOf i).toNat)
  case atStart => exact ⟨0, none, 0, [], _, by omega, rfl, rfl, HD0⟩
  case round =>
    obtain ⟨j, lA, lc, ps, R, hj, rfl, HLN, HR⟩ := hrel
    go_wp2_with fail
    refine (HMA.out _).mono ?_
    rintro e w2 ⟨rfl, rfl⟩
    have hwr := HR.out.b1.lt
    by_cases hlt : j < 10 + x
    · have dlt : decide ((j : Int) < 10 + (x : Int)) = true := decide_eq_true (by omega)
      by_cases hj0 : j = 0
      · subst hj0
        have dz : decide ((0 : Int) < ((0 : Nat) : Int)) = false := by decide
        have HBK : Hid (Below wr.heap.size wr (wr.alloc (.cells #[.int .i64 0, .string ⟨#[]⟩, .slice none 0 0, .slice none 0 0] 48))) := by exact bal (Below.refl _ _) _
        have HXB : Hid (Blk (wr.alloc (.cells #[.int .i64 0, .string ⟨#[]⟩, .slice none 0 0, .slice none 0 0] 48)) wr.heap.size 48 #[.int .i64 0, .string ⟨#[]⟩, .slice none 0 0, .slice none 0 0]) := by exact Blk.new wr _ _
        have HKV : Hid ((wr.alloc (.cells #[.int .i64 0, .string ⟨#[]⟩, .slice none 0 0, .slice none 0 0] 48)).ownsRow w.heap.size 3 1 (.slice none 0 0) 0 []) := ⟨rfl, .inl ⟨rfl, rfl⟩⟩
        have HKN : Hid (∀ g, (Value.slice none 0 0).ownBlock = some g → wr.heap.size ≤ g) := fun g hg => by cases hg
        have HGD : Hid (goodP ((0 : Int), (⟨#[]⟩ : ByteArray), ([] : List ByteArray), ([] : List Int))) := ⟨⟨(by show (-9223372036854775808 : Int) ≤ 0 ∧ (0 : Int) ≤ 9223372036854775807; omega), (by decide), (by show (leadsK []).length ≤ _; simp [leadsK]), (by show 0 * 16 ≤ _; omega)⟩, (by simp), (fun k hk => by cases hk)⟩
        have HBX : Hid (Blk (wr.alloc (.cells #[.int .i64 0, .string ⟨#[]⟩, .slice none 0 0, .slice none 0 0] 48)) w.heap.size 29 #[.slice lA 0 lc, .slice none 0 0]) := HR.out.b1.below HBK.out HR.out.b1.lt
        have HOK : Hid ((wr.alloc (.cells #[.int .i64 0, .string ⟨#[]⟩, .slice none 0 0, .slice none 0 0] 48)).ownsRow w.heap.size 48 4 (.slice lA 0 lc) 0 (ps.flatMap PX.cells)) := by have := owns_below HR.out.nr.row HBK.out (own_lt HR.out.nr.row); rw [HLN.out] at this; exact this
        have HCK : Hid (∀ o w6 v6, Grows ((wr.alloc (.cells #[.int .i64 0, .string ⟨#[]⟩, .slice none 0 0, .slice none 0 0] 48)).alloc o) w6 (.slice lA 0 lc) v6 → w6.frozen? ⟨w.heap.size, 0, none⟩ = false ∧ w6.cell? ⟨w.heap.size, 0, none⟩ = some (.slice lA 0 lc)) := fun o w6 v6 hg => by
          have h1 := hg.blk (HBX.out.alloc o) (own_blk_ne HOK.out HBX.out (by decide))
          exact ⟨h1.frozen 0, by rw [h1.cell]; rfl⟩
        have ck := HR.out.b1.cell 0
        simp at ck
        have hzk := HBK.out.size
        have hl1 := HR.out.b1.lt
        go_wp2_with (at_builtin; refine wpList_append_row _ rfl (.tmp 35) (.tmp 37) 26 26 rfl w.heap.size 48 i0 (.agg #[.int .i64 0, .string ⟨#[]⟩, .slice none 0 0, .slice none 0 0]) 4 72 Tryd.underlying26 HI0.out HZ0.out HZ1.out HZ2.out rfl (by decide) (.slice lA 0 lc) 0 (ps.flatMap PX.cells) rfl (HOK.out.alloc _) (.slice (some ⟨wr.heap.size + 1, 0, none⟩) 1 1) 1 [.int .i64 0, .string ⟨#[]⟩, .slice none 0 0, .slice none 0 0] rfl (src_newB _ Tryd.underlying26 [.int .i64 0, .string ⟨#[]⟩, .slice none 0 0, .slice none 0 0] 4 1 1 (wr.heap.size + 1) 48 (by simp) rfl (RNPost.cells ⟨0, ⟨#[]⟩, none, [], 0, none, [], 0⟩)) ?c1 ?c2 ?c3 ?_)
        case c1 => unfold maxLen; omega
        case c2 => omega
        case c3 => simp; omega
        intro v6 w6 hown6 hg6
        obtain ⟨A6, c6, rfl, -, -⟩ := reads_of_owns hown6
        obtain ⟨fz6, cz6⟩ := HCK.out _ _ _ hg6
        have hown7 : w6.ownsRow w.heap.size 48 4 (.slice A6 (0 + 1) c6) (ps.length + 1) (ps.flatMap PX.cells ++ (⟨0, ⟨#[]⟩, none, [], 0, none, [], 0⟩ : PX).cells) := by rw [HLN.out]; exact hown6
        have hR6 := HR.out.node (p := ⟨0, ⟨#[]⟩, none, [], 0, none, [], 0⟩) HBK.out HKV.out HKN.out Reads.none_ HGD.out hown7 hg6
        have HR6 := Lib.hid hR6
        have HLN6 : Hid ((ps ++ [(⟨0, ⟨#[]⟩, none, [], 0, none, [], 0⟩ : PX)]).length = 0 + 1) := by unfold Hid; rw [List.length_append, HLN.out]; rfl
        clear hown6 hg6 hown7 hR6 ck
        go_wp2_with fail
        go_roundw
        case rel => exact ⟨0 + 1, A6, c6, _, _, by omega, by go_num, HLN6, HR6⟩
        case measure => simp [intOf] <;> omega
      · have dz : decide ((0 : Int) < (j : Int)) = true := decide_eq_true (by omega)
        obtain ⟨wk, hwk⟩ : ∃ wk, (wr.alloc (.cells #[.int .i64 (j : Int), .string ⟨#[]⟩, .slice none 0 0, .slice (some ⟨wr.heap.size + 1, 0, none⟩) 2 2] 48)).alloc (.cells #[.int .i64 ((j : Int) - 1), .int .i64 ((j : Int) - 1)] 3) = wk := ⟨_, rfl⟩
        have HBK : Hid (Below wr.heap.size wr wk) := by subst hwk; exact bal (bal (Below.refl _ _) _) _
        have HXB : Hid (Blk wk wr.heap.size 48 #[.int .i64 (j : Int), .string ⟨#[]⟩, .slice none 0 0, .slice (some ⟨wr.heap.size + 1, 0, none⟩) 2 2]) := by subst hwk; exact (Blk.new wr _ _).alloc _
        have HKV : Hid (wk.ownsRow w.heap.size 3 1 (.slice (some ⟨wr.heap.size + 1, 0, none⟩) 2 2) 2 [.int .i64 ((j : Int) - 1), .int .i64 ((j : Int) - 1)]) := by
          subst hwk
          have e : (wr.alloc (.cells #[.int .i64 (j : Int), .string ⟨#[]⟩, .slice none 0 0, .slice (some ⟨wr.heap.size + 1, 0, none⟩) 2 2] 48)).heap.size = wr.heap.size + 1 := by simp
          have := owns_new (w := wr.alloc (.cells #[.int .i64 (j : Int), .string ⟨#[]⟩, .slice none 0 0, .slice (some ⟨wr.heap.size + 1, 0, none⟩) 2 2] 48)) (e := 3) (xs := [.int .i64 ((j : Int) - 1), .int .i64 ((j : Int) - 1)]) (n := 2) (base := w.heap.size) rfl (by unfold maxLen; omega) (by rw [e]; omega)
          rw [e] at this
          exact this
        have HKN : Hid (∀ g, (Value.slice (some ⟨wr.heap.size + 1, 0, none⟩) 2 2).ownBlock = some g → wr.heap.size ≤ g) := fun g hg => by simp [Value.ownBlock] at hg; omega
        have HGD : Hid (goodP ((j : Int), (⟨#[]⟩ : ByteArray), ([] : List ByteArray), [(j : Int) - 1, (j : Int) - 1])) := ⟨⟨(by show (-9223372036854775808 : Int) ≤ (j : Int) ∧ (j : Int) ≤ 9223372036854775807; omega), (by show (0 : Nat) ≤ _; omega), (by show (leadsK []).length ≤ _; simp [leadsK]), (by show 0 * 16 ≤ _; omega)⟩, (by simp), (fun k hk => by simp at hk; unfold i64; omega)⟩
        have HBX : Hid (Blk wk w.heap.size 29 #[.slice lA j lc, .slice none 0 0]) := HR.out.b1.below HBK.out HR.out.b1.lt
        have HOK : Hid (wk.ownsRow w.heap.size 48 4 (.slice lA j lc) j (ps.flatMap PX.cells)) := by have := owns_below HR.out.nr.row HBK.out (own_lt HR.out.nr.row); rw [HLN.out] at this; exact this
        have HCK : Hid (∀ o w6 v6, Grows (wk.alloc o) w6 (.slice lA j lc) v6 → w6.frozen? ⟨w.heap.size, 0, none⟩ = false ∧ w6.cell? ⟨w.heap.size, 0, none⟩ = some (.slice lA j lc)) := fun o w6 v6 hg => by
          have h1 := hg.blk (HBX.out.alloc o) (own_blk_ne HOK.out HBX.out (by decide))
          exact ⟨h1.frozen 0, by rw [h1.cell]; rfl⟩
        have f0 := HXB.out.cell 0
        have f1 := HXB.out.cell 1
        have f2 := HXB.out.cell 2
        have f3 := HXB.out.cell 3
        have ck := HBX.out.cell 0
        simp at f0 f1 f2 f3 ck
        have hzk := HBK.out.size
        have hl1 := HR.out.b1.lt
        go_wp2_with (at_builtin; refine wpList_append_row _ rfl (.tmp 35) (.tmp 37) 26 26 rfl w.heap.size 48 i0 (.agg #[.int .i64 0, .string ⟨#[]⟩, .slice none 0 0, .slice none 0 0]) 4 72 Tryd.underlying26 HI0.out HZ0.out HZ1.out HZ2.out rfl (by decide) (.slice lA j lc) j (ps.flatMap PX.cells) rfl (HOK.out.alloc _) (.slice (some ⟨wk.heap.size, 0, none⟩) 1 1) 1 [.int .i64 (j : Int), .string ⟨#[]⟩, .slice none 0 0, .slice (some ⟨wr.heap.size + 1, 0, none⟩) 2 2] rfl (src_new wk Tryd.underlying26 [.int .i64 (j : Int), .string ⟨#[]⟩, .slice none 0 0, .slice (some ⟨wr.heap.size + 1, 0, none⟩) 2 2] 4 1 1 48 rfl (RNPost.cells ⟨(j : Int), ⟨#[]⟩, none, [], 0, (some ⟨wr.heap.size + 1, 0, none⟩), [(j : Int) - 1, (j : Int) - 1], 2⟩)) ?c1 ?c2 ?c3 ?_)
        case c1 => unfold maxLen; omega
        case c2 => omega
        case c3 => simp; omega
        intro v6 w6 hown6 hg6
        obtain ⟨A6, c6, rfl, -, -⟩ := reads_of_owns hown6
        obtain ⟨fz6, cz6⟩ := HCK.out _ _ _ hg6
        have hown7 : w6.ownsRow w.heap.size 48 4 (.slice A6 (j + 1) c6) (ps.length + 1) (ps.flatMap PX.cells ++ (⟨(j : Int), ⟨#[]⟩, none, [], 0, (some ⟨wr.heap.size + 1, 0, none⟩), [(j : Int) - 1, (j : Int) - 1], 2⟩ : PX).cells) := by rw [HLN.out]; exact hown6
        have hR6 := HR.out.node (p := ⟨(j : Int), ⟨#[]⟩, none, [], 0, (some ⟨wr.heap.size + 1, 0, none⟩), [(j : Int) - 1, (j : Int) - 1], 2⟩) HBK.out HKV.out HKN.out Reads.none_ HGD.out hown7 hg6
        have HR6 := Lib.hid hR6
        have HLN6 : Hid ((ps ++ [(⟨(j : Int), ⟨#[]⟩, none, [], 0, (some ⟨wr.heap.size + 1, 0, none⟩), [(j : Int) - 1, (j : Int) - 1], 2⟩ : PX)]).length = j + 1) := by unfold Hid; rw [List.length_append, HLN.out]; rfl
        have HWK := Lib.hid hwk
        clear hown6 hg6 hown7 hR6 hwk f0 f1 f2 f3 ck
        go_wp2_with fail
        go_roundw
        case rel => exact ⟨j + 1, A6, c6, _, _, by omega, by go_num, HLN6, HR6⟩
        case measure => simp [intOf] <;> omega
    · have dlt : decide ((j : Int) < 10 + (x : Int)) = false := decide_eq_false (by omega)
      have hj10 : 10 ≤ j := by omega
      have hj18 : j ≤ 17 := by omega
      have b0 := HR.out.b1.cell 0
      have b1 := HR.out.b1.cell 1
      have g1 := HR.out.b1.frozen 1
      simp at b0 b1
      have HS := Lib.hid (HR.out.setRoot (k := (j : Int) - 1) (by unfold i64; omega))
      obtain ⟨wb, hwb⟩ : ∃ wb, (wr.alloc (.cells #[.int .i64 ((j : Int) - 1)] 3)).setCell ⟨w.heap.size, 1, none⟩ (.slice (some ⟨wr.heap.size, 0, none⟩) 1 1) = wb := ⟨_, rfl⟩
      rw [hwb] at HS
      go_wp2_with fail
      clear b0 b1 g1 hwb
      go_loopw [8] (fun i wr => ∃ (k : Nat) (rA : Option Addr) (rc : Nat) (rs : List Int), k ≤ y ∧ i = .int .i64 (k : Int) ∧ Hid (rs.length = 1 + k) ∧ Hid (DR w wr (.slice lA j lc) ps R (.slice rA (1 + k) rc) rs)) (fun i _ => y - (intOf i).toNat)
      case atStart => exact ⟨0, _, _, [(j : Int) - 1], by omega, rfl, rfl, HS⟩
      case round =>
        obtain ⟨k, rA, rc, rs, hk, rfl, HRL, HQ⟩ := hrel
        go_wp2_with fail
        refine (HMB.out _).mono ?_
        rintro e w2 ⟨rfl, rfl⟩
        have b0 := HQ.out.b1.cell 0
        have b1 := HQ.out.b1.cell 1
        simp at b0 b1
        have hwq := HQ.out.b1.lt
        by_cases hlk : k < y
        · have hHRL := HRL.out
          have HOW : Hid (wr.ownsRow w.heap.size 3 1 (.slice rA (1 + k) rc) (1 + k) (rs.map (Value.int .i64))) := by have := HQ.out.roots; rw [HRL.out] at this; exact this
          have HCK : Hid (∀ o w6 v6, Grows (wr.alloc o) w6 (.slice rA (1 + k) rc) v6 → w6.frozen? ⟨w.heap.size, 1, none⟩ = false ∧ w6.cell? ⟨w.heap.size, 1, none⟩ = some (.slice rA (1 + k) rc)) := fun o w6 v6 hg => by
            have h1 := hg.blk (HQ.out.b1.alloc o) (own_blk_ne HOW.out HQ.out.b1 (by decide))
            exact ⟨h1.frozen 1, by rw [h1.cell]; rfl⟩
          have dlk : decide ((k : Int) < (y : Int)) = true := decide_eq_true (by omega)
          clear hHRL
          go_wp2_with (at_builtin; refine wpList_append_row _ rfl (.tmp 53) (.tmp 60) 27 27 rfl w.heap.size 3 j0 (.int .i64 0) 1 8 Tryd.underlying27 HJ0.out HG0.out HG1.out HG2.out rfl (by decide) (.slice rA (1 + k) rc) (1 + k) (rs.map (Value.int .i64)) rfl (HOW.out.alloc _) (.slice (some ⟨wr.heap.size, 0, none⟩) 1 1) 1 [.int .i64 ((j : Int) - 1 - (k : Int))] rfl (src_new wr Tryd.underlying27 [.int .i64 ((j : Int) - 1 - (k : Int))] 1 1 1 3 rfl ?c4) ?c1 ?c2 ?c3 ?_)
          case c4 => first | rfl | (intro u hu; simp at hu; subst hu; rfl)
          case c1 => unfold maxLen; omega
          case c2 => omega
          case c3 => simp; omega
          intro v6 w6 hown6 hg6
          obtain ⟨A6, c6, rfl, -, -⟩ := reads_of_owns hown6
          obtain ⟨fz6, cz6⟩ := HCK.out _ _ _ hg6
          have hR6 := HQ.out.root (k := (j : Int) - 1 - (k : Int)) (by unfold i64; omega) (by rw [HRL.out]; exact hown6) hg6
          have HR6 := Lib.hid hR6
          have HRL6 : Hid ((rs ++ [(j : Int) - 1 - (k : Int)]).length = 1 + (k + 1)) := by unfold Hid; rw [List.length_append, HRL.out]; simp; omega
          clear hown6 hg6 hR6 b0 b1
          go_wp2_with fail
          go_roundw
          case rel => exact ⟨k + 1, A6, c6, _, by omega, by go_num, HRL6, HR6⟩
          case measure => simp [intOf] <;> omega
        · have dlk : decide ((k : Int) < (y : Int)) = false := decide_eq_false (by omega)
          obtain ⟨v, hv⟩ : ∃ v : PkV, v = ⟨lA, ps, lc, rA, rs, rc⟩ := ⟨_, rfl⟩
          have hok : v.ok wr wr.heap.size := by
            subst hv
            have h1 := HQ.out
            have e1 := HLN.out
            have e2 := HRL.out
            have h2 : DR w wr (.slice lA ps.length lc) ps R (.slice rA rs.length rc) rs := by rw [e1, e2]; exact h1
            exact h2.ok (by omega) (by omega)
          have hval : v.val = .agg #[.slice lA j lc, .slice rA (1 + k) rc] := by subst hv; unfold PkV.val; rw [show ps.length = j from HLN.out, show rs.length = 1 + k from HRL.out]
          obtain ⟨er, her⟩ : ∃ er, errP v.ns v.rs = er := ⟨_, rfl⟩
          have HER := Lib.hid her
          obtain ⟨ek, hek⟩ : ∃ ek, keepE v.ns v.rs [0, 0, 0] = ek := ⟨_, rfl⟩
          have HEK := Lib.hid hek
          clear her hek
          have HV := Lib.hid hval
          have HOK := Lib.hid hok
          have HBQ : Hid (Below w.heap.size w wr) := HQ.out.bel
          have HBXQ : Hid (Blk wr w.heap.size 29 #[.slice lA j lc, .slice rA (1 + k) rc]) := HQ.out.b1
          have H1 := Lib.hid (trees_any v wr hok)
          rw [hval] at H1
          clear hv hok hval
          go_wp2_with fail
          refine (H1.out).mono ?_
          rintro e w3 ⟨A3, c3, t3, rfl, -, -, -, hb3⟩
          rw [HER.out]
          have HX3 := Lib.hid (HBXQ.out.below hb3 HBXQ.out.lt)
          have HO3 : Hid (v.ok w3 w3.heap.size) := HOK.out.up (Nat.le_refl _) hb3
          have HB3 : Hid (Below w.heap.size w w3) := HBQ.out.trans (hb3.mono HBQ.out.size)
          have H2 := Lib.hid (rtrees_any v w3 HO3.out)
          rw [HV.out] at H2
          have b30 := HX3.out.cell 0
          have b31 := HX3.out.cell 1
          simp at b30 b31
          clear hb3 H1 b0 b1
          go_wp2_with fail
          refine (H2.out).mono ?_
          rintro e w4 ⟨A4, c4, t4, rfl, -, -, -, hb4⟩
          rw [HER.out]
          obtain ⟨W4, hW4⟩ : ∃ W, w4.alloc (.cells #[.int .i64 0, .int .i64 0, .int .i64 0] 3) = W := ⟨_, rfl⟩
          have hbW4 : Below w4.heap.size w4 W4 := by subst hW4; exact bal (Below.refl _ _) _
          have HX4 := Lib.hid ((HX3.out.below hb4 HX3.out.lt).below hbW4 (by have := hb4.size; have := HX3.out.lt; omega))
          have HX4' := Lib.hid (HX3.out.below hb4 HX3.out.lt)
          have HO4 : Hid (v.ok W4 W4.heap.size) := (HO3.out.up (Nat.le_refl _) hb4).up (Nat.le_refl _) hbW4
          have HB4 : Hid (Below w.heap.size w W4) := HB3.out.trans ((hb4.trans (hbW4.mono hb4.size)).mono HB3.out.size)
          have hr4 : Reads W4 W4.heap.size 1 (some ⟨w4.heap.size, 0, none⟩) 3 [.int .i64 0, .int .i64 0, .int .i64 0] := by
            subst hW4
            exact blk_reads (xs := [.int .i64 0, .int .i64 0, .int .i64 0]) (Blk.new w4 _ _) rfl
          have H3 := Lib.hid (keep_any v (some ⟨w4.heap.size, 0, none⟩) 3 [0, 0, 0] W4 HO4.out (HT.out.below HB4.out) hr4 (by simp) (fun k hk => by simp at hk; subst hk; unfold i64; omega))
          rw [HV.out] at H3
          have b40 := HX4'.out.cell 0
          have b41 := HX4'.out.cell 1
          simp at b40 b41
          clear hb4 H2 b30 b31 hbW4 hr4
          go_wp2_with fail
          refine (H3.out).mono ?_
          rintro e w5 ⟨u, rfl, -, huk, hb5⟩
          rw [HEK.out]
          have HW4 := Lib.hid hW4
          clear hW4
          obtain ⟨W5, hW5⟩ : ∃ W, w5.alloc (.cells #[.slice u.nA u.ps.length u.nc, .slice u.rA u.rs.length u.rc] 29) = W := ⟨_, rfl⟩
          obtain ⟨W6, hW6⟩ : ∃ W, W5.alloc (.cells #[.int .i64 0, .int .i64 0, .int .i64 0] 3) = W := ⟨_, rfl⟩
          have hb6 : Below w5.heap.size w5 W6 := by subst hW6 hW5; exact bal (bal (Below.refl _ _) _) _
          have hb56 : Below w5.heap.size w5 W5 := by subst hW5; exact bal (Below.refl _ _) _
          have HX5 := Lib.hid ((HX4.out.below hb5 HX4.out.lt).below hb56 (by have := hb5.size; have := HX4.out.lt; omega))
          have HO6 : Hid (v.ok W6 W6.heap.size) := (HO4.out.up (Nat.le_refl _) hb5).up (Nat.le_refl _) hb6
          have HB6 : Hid (Below w.heap.size w W6) := HB4.out.trans ((hb5.trans (hb6.mono hb5.size)).mono HB4.out.size)
          have hr6 : Reads W6 W6.heap.size 1 (some ⟨W5.heap.size, 0, none⟩) 3 [.int .i64 0, .int .i64 0, .int .i64 0] := by
            subst hW6
            exact blk_reads (xs := [.int .i64 0, .int .i64 0, .int .i64 0]) (Blk.new W5 _ _) rfl
          have H4 := Lib.hid (rkeep_any v (some ⟨W5.heap.size, 0, none⟩) 3 [0, 0, 0] W6 HO6.out hr6 (by simp) (fun k hk => by simp at hk; subst hk; unfold i64; omega))
          rw [HV.out] at H4
          have b50 := HX5.out.cell 0
          have b51 := HX5.out.cell 1
          simp at b50 b51
          have hs5 : W5.heap.size = w5.heap.size + 1 := by subst hW5; simp
          rw [hs5] at H4
          unfold PkV.val
          clear hb5 H3 b40 b41 hb6 hb56 hr6 huk
          go_wp2_with fail
          refine (H4.out).mono ?_
          rintro e w7 ⟨kp, rfl, -, huk7, hb7⟩
          have HW5 := Lib.hid hW5
          have HW6 := Lib.hid hW6
          clear hW5 hW6 hs5
          rw [HEK.out]
          have HB7 : Hid (Below w.heap.size w w7) := HB6.out.trans (hb7.mono HB6.out.size)
          have HB8 : Hid (∀ o, Below w.heap.size w (w7.alloc o)) := fun o => bal HB7.out o
          have d1 : (er == er) = true := by simp
          have d2 : (ek == ek) = true := by simp
          have H5 := Lib.hid (awake_any (w7.alloc (.cells #[.slice kp.nA kp.ps.length kp.nc, .slice kp.rA kp.rs.length kp.rc] 29)) (HT.out.below (HB8.out _)))
          unfold PkV.val
          clear hb7 H4 b50 b51 huk7
          go_wp2_with fail
          refine (H5.out).mono ?_
          rintro e w8 ⟨rfl, hb8⟩
          have HB9 : Hid (Below w.heap.size w w8) := (HB8.out _).trans (hb8.mono (HB8.out _).size)
          clear hb8 H5
          go_wp2_with fail
          go_ret
          exact ⟨rfl, HB9.out⟩
theorem own : ownKnob Tryd.prog.godebug = none := by kernel_rfl
theorem laidOut : laidOutB Tryd.prog = true := by kernel_rfl
theorem specN (H : Type) (ds : List (DataW H)) (h : ds.length = 2) : Rows.packDeepSpec.fn H (ds ++ []) = { results := [.lit (.bool true)], args := ds } := by
  match ds, h with
  | [_, _], _ => rfl
theorem reads (os : Os) {H : Type} (enc : TypeId × Value → H) : ∃ places, DataW.whole enc Tryd.prog ((laidWorld os).forCall (fun _ _ => 0) ⟨#[], #[.int .i64 0, .int .i64 0], []⟩).memory Tryd.f6.params.toList Rows.packDeepSpec.vars false (#[.int .i64 0, .int .i64 0] : Array Value).toList 8 = some ([.lit (.int .i64 0), .lit (.int .i64 0)], [], places) :=
  ⟨[], by kernel_rfl⟩

set_option maxRecDepth 100000 in
theorem lifted (os : Os) (started : os.Started) (H : Type) (enc : TypeId × Value → H) (F : Stop.Interp) :
    ReturnsInHanded {} Tryd.checked os 6 .any ((OpenSpec.ofChange Rows.packDeepSpec).preRow enc Tryd.prog Tryd.f6 Rows.packDeepRow.domain false Rows.packDeepRow.laid) (((OpenSpec.ofChange Rows.packDeepSpec).at F).post enc Tryd.prog Tryd.f6 false true false false) := by
  obtain ⟨places, hx⟩ := reads os enc
  refine law_of_walk_laid (C := Tryd.checked) own started (by kernel_rfl) Tryd.func6 rfl rfl Tryd.underlying4 laidOut (by kernel_rfl) (fun ds h => specN H ds (h.trans (by kernel_rfl)))
    (witness_row_at (enc := enc) (C := Tryd.checked) false (laidWorld os) #[.int .i64 0, .int .i64 0] rfl (by kernel_rfl) (by kernel_rfl) (by kernel_rfl)
      (OpenSpec.preRow_of_cond 8 hx (by kernel_rfl) (fun k hk => by cases hk) (by kernel_rfl) (laid_met os #[.int .i64 0, .int .i64 0]))) ?_
  intro W base args ds p hval hA hsz hL
  have hval' : ∀ (j : Nat) t v, Tryd.f6.params[j]? = some t → args[j]? = some v → Value.okWide Tryd.prog W .any base t v := hval
  rw [Tryd.params6] at hval' hA hsz
  obtain ⟨v0, vs0, d0, ds0, p0, q0, hargs, rfl, rfl, h0, r0⟩ := trodAll_cons hA
  obtain ⟨v1, vs1, d1, ds1, p1, q1, rfl, rfl, rfl, h1, r1⟩ := trodAll_cons r0
  obtain ⟨rfl, rfl, rfl⟩ := trodAll_nil r1
  obtain rfl : args = #[v0, v1] := by cases args; simp_all
  obtain ⟨a0, rfl, rfl, rfl, w0⟩ := open_int Tryd.underlying3 (hval' 0 3 v0 rfl rfl) h0
  obtain ⟨a1, rfl, rfl, rfl, w1⟩ := open_int Tryd.underlying3 (hval' 1 3 v1 rfl rfl) h1
  exact walk a0 a1 (wf_i64 w0) (wf_i64 w1) W (tab_of_laid hL)

theorem said : Rows.PackDeepSaid :=
  OpenClaim.holds_of_cond 6 Tryd.f6 rfl rfl rfl rfl rfl rfl rfl ⟨rfl, rfl, rfl, rfl, rfl⟩ rfl rfl rfl rfl rfl (by kernel_rfl) Tryd.func6 (by kernel_rfl)
    (of_decide_eq_true (by kernel_rfl)) (by unfold Func.isWrapper; first | (rw [if_pos (by decide +kernel)]; kernel_rfl) | (rw [if_neg (by decide +kernel)]; exact ⟨rfl, rfl⟩))
    (fun os started H enc _ F => by rw [OpenClaim.pre_eq_preRow]; exact lifted os started H enc F)

theorem plain (f : FuncId) (fn : Func) (hf : Tryd.pinned.checked.prog.funcNamed Rows.packDeepRow.func = some f) (hfn : Tryd.pinned.checked.prog.funcs[f]? = some fn) :
    false = Tryd.pinned.checked.prog.looks [] ∧ ∀ (j : Nat) t, fn.params[j]? = some t → Tryd.pinned.checked.prog.wantsStandIn t = false := by
  obtain rfl : f = 6 := Option.some.inj ((show Tryd.prog.funcNamed Rows.packDeepRow.func = some 6 by kernel_rfl).symm.trans hf) |>.symm
  obtain rfl : fn = Tryd.f6 := (Option.some.inj (Tryd.func6.symm.trans hfn)).symm
  refine ⟨by kernel_rfl, fun j t ht => ?_⟩
  have hall : Tryd.f6.params.toList.all (fun t => Tryd.prog.wantsStandIn t == false) = true := by kernel_rfl
  have hm := List.all_eq_true.1 hall t (by rw [Array.mem_toList_iff]; exact Array.mem_of_getElem? ht)
  have hm' : Tryd.prog.wantsStandIn t = false := by simpa using hm
  exact hm'

theorem proved : Rows.PackDeepCardSaid :=
  Claim7.holds_tied_plain_at .later [] _ _ _ _ said (fun _ h => by cases h) (by kernel_rfl) (fun _ h => by cases h) packDeep_row_tie rfl ⟨rfl, rfl⟩ (by kernel_rfl) rfl plain (by kernel_rfl)
end Go.Proofs.YtdabmjcpiblofaaDoor.packDeep
