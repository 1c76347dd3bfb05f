/-
  slices.Concat of two rows of numbers. No condition.
-/
import Derived.Test.YtgmhinmakomabaaAsY
import Derived.Lib.AppendZerosOnto
namespace Go.Proofs.Ytgmhinmakomabaa
open Go.RowKit
set_option linter.unusedVariables false

theorem wpList_append_run {P : Program} {w : World} {ops : Array Oper} {rest : List Oper} {o : Oper} {a : Act} {Q : Exit → Act → World → Prop} (hgd : o.guard = none) (s x : Operand) (t tx : TypeId)
    (ho : o.op = .call { callee := .builtin .append, args := #[s, x], argTypes := #[t, tx] }) (v y : Value) (hs : a.eval s = v) (hx : a.eval x = y) (v' : Value) (w' : World) (hrun : (Builtin.append_ #[t, tx] o.type #[v, y]).run P w = .ok v' w')
    (h : wpList P ops Q rest (a.put o.dst v') w') : wpList P ops Q (o :: rest) a w :=
  wpList_plain hgd fun K hK => by
    unfold Oper.wp execOp
    simp only [ho, resolve, invoke, builtin, Sem.run_bind, Sem.run_pure, Result.andThen_ok, List.map_toArray, List.map_cons, List.map_nil, hs, hx, hrun]
    exact hK _ _ h
def GrowPost (w : World) (e : Ending) (w' : World) : Prop := ∃ v, e = .returned v ∧ w'.ownsRow w.heap.size 3 1 v 0 [] ∧ Below w.heap.size w w' ∧ (∀ g, v.ownBlock = some g → w.heap.size ≤ g)
set_option maxRecDepth 100000 in
set_option maxHeartbeats 1000000 in
theorem grow_nil (w : World) (n : Nat) (hn : n ≤ 1000) : Calls Try.prog 36 #[.slice none 0 0, .int .i64 (n : Int)] w (GrowPost w) := by
  rcases Nat.eq_zero_or_pos n with h0 | h0
  · subst h0
    go_enter Try.func36, Try.ntmps36
    go_wp2_with fail
    go_ret
    exact ⟨_, rfl, owns_nil _ _ _, Below.refl _ _, fun g hg => by simp [Value.ownBlock] at hg⟩
  · obtain ⟨i0, hi, hz0, hz1, hz2⟩ := info_parts i64_info
    have hcap := grownCap_ge w (0 + n) 0 3
    have hcap2 := grownCap_le_maxLen w (0 + n) 0 3 (by unfold maxLen; omega)
    have happ := Go.Lib.run_append_grow_zeros (P := Try.prog) w 25 3 25 3 i0 (.int .i64 0) .i64 .i64 Try.underlying25 Try.underlying3 hi hz0 none 0 0 [] (run_firstCells_none w.drew i0.size 0 0 0) n h0 (by rw [hz1]; decide) (by omega) (by omega) (by rw [hz2]; omega)
      (growslice_fits (by omega) (by rw [hz2]; omega))
    obtain ⟨C, hC⟩ : ∃ C, C = grownCap w (0 + n) 0 3 := ⟨_, rfl⟩
    rw [← hC] at happ hcap hcap2
    obtain ⟨cs, hcs⟩ : ∃ cs, cs = (([] : List Value).toArray ++ Builtin.zeroCells (Value.cells (.int .i64 0)) n ++ Builtin.zeroCells (Value.cells (.int .i64 0)) (C - (0 + n))) := ⟨_, rfl⟩
    rw [← hcs] at happ
    have hsz : cs.size = C := by
      rw [hcs]
      simp [size_zeroCells, Value.cells]
      omega
    have HG : Hid (GrowPost w (.returned (.slice (some ⟨w.heap.size, 0, none⟩) 0 C)) (w.drew.alloc (.cells cs 3))) :=
      ⟨_, rfl, ⟨rfl, .inr ⟨w.heap.size, C, cs, rfl, Nat.le_refl _, heap_alloc_new w.drew _, Nat.zero_le _, hcap2, by rw [hsz, Nat.mul_one], by simp⟩⟩, (below_drewN (Below.refl _ w) 1).alloc (Nat.le_refl _) _, fun g hg => by simp [Value.ownBlock] at hg; omega⟩
    have hn0 : (0 : Int) < (n : Int) := by omega
    rw [Nat.zero_add] at happ hcap
    have HAP := Lib.hid happ
    have HC := Lib.hid hC
    have HCS := Lib.hid hcs
    clear happ hi hz0 hz1 hz2 hC hcs hsz
    go_enter Try.func36, Try.ntmps36
    go_wp2_with (at_builtin; refine wpList_append_run rfl (.tmp 20) (.tmp 21) 25 3 rfl (.slice none 0 0) (.int .i64 (n : Int)) rfl rfl _ _ HAP.out ?_)
    go_ret
    exact HG.out

theorem Fn.reads {w : World} {B n : Nat} {A : Option Addr} {f : Nat → Int} (h : Fn w B A n f) : Ints w B A n ((List.range n).map f) := by
  refine ⟨by simp, fun hn => ?_⟩
  obtain ⟨b, off, rfl, hb, _⟩ := h 0 hn
  refine ⟨_, rfl, hb, fun j u hu => ?_⟩
  have hj := (List.getElem?_eq_some_iff.1 hu).1
  simp at hj
  obtain ⟨b', off', e, _, hc⟩ := h j hj
  injection e with e
  injection e with e1 e2
  subst e1 e2
  rw [Addr.add_lit, hc]
  rw [List.map_map, List.getElem?_map, List.getElem?_range hj] at hu
  simpa using hu
/-- one row behind the other -/
def catF (n : Nat) (u v : Nat → Int) (i : Nat) : Int := if i < n then u i else v (i - n)
def CatPost (w : World) (n : Nat) (u v : Nat → Int) (e : Ending) (w' : World) : Prop :=
  ∃ A c, e = .returned (.slice A (n + n) c) ∧ Fn w' w'.heap.size A (n + n) (catF n u v) ∧ Below w.heap.size w w'
/-- the rows before j are there -/
def catL (n : Nat) (u v : Nat → Int) : Nat → List Int
  | 0 => []
  | 1 => (List.range n).map u
  | _ => (List.range n).map u ++ (List.range n).map v
theorem cat_fn {w : World} {base c n : Nat} {A : Option Addr} {u v : Nat → Int} (h : Reads w base 1 A (n + n) ((catL n u v 2).map (Value.int .i64))) : Fn w base A (n + n) (catF n u v) := by
  have := Ints.fn (l := catL n u v 2) h
  intro i hi
  obtain ⟨b, off, e, hb, hc⟩ := this i hi
  refine ⟨b, off, e, hb, ?_⟩
  rw [hc]
  simp only [catL, catF, List.getD]
  by_cases h1 : i < n
  · rw [List.getElem?_append_left (by simpa using h1)]; simp [h1]
  · rw [List.getElem?_append_right (by simpa using h1)]
    simp only [List.length_map, List.length_range, List.getElem?_map, List.getElem?_range (show i - n < n by omega)]
    simp [h1]
/-- while rows are appended -/
def CatSt (w : World) (n : Nat) (u v : Nat → Int) (j : Nat) (x : Value) (wr : World) : Prop := wr.ownsRow w.heap.size 3 1 x (j * n) ((catL n u v j).map (Value.int .i64)) ∧ Below w.heap.size w wr

set_option maxRecDepth 100000 in
set_option maxHeartbeats 1000000 in
theorem concat_any (w : World) (g n cu cv : Nat) (Au Av : Option Addr) (u v : Nat → Int) (hn : n ≤ 100) (h0 : w.cell? ⟨g, 0, none⟩ = some (.slice Au n cu)) (h1 : w.cell? ⟨g, 1, none⟩ = some (.slice Av n cv)) (hu : Fn w w.heap.size Au n u) (hv : Fn w w.heap.size Av n v) :
    Calls Try.prog 30 #[.slice (some ⟨g, 0, none⟩) 2 2] w (CatPost w n u v) := by
  obtain ⟨i0, hi, hz0, hz1, hz2⟩ := info_parts i64_info
  have HG := Lib.hid (grow_nil w (2 * n) (by omega))
  have HU := Lib.hid hu.reads
  have HV := Lib.hid hv.reads
  have hlt := World.block_lt_of_cell? w _ h0
  simp only at hlt
  have HI := Lib.hid hi
  have HZ0 := Lib.hid hz0
  have HZ1 := Lib.hid hz1
  have HZ2 := Lib.hid hz2
  clear hu hv hi hz0 hz1 hz2
  go_enter Try.func30, Try.ntmps30
  go_wp2_with fail
  go_loop [3, 11] (fun s i => ∃ j : Nat, j ≤ 2 ∧ i = .int .i64 (j : Int) ∧ s = .int .i64 ((j * n : Nat) : Int)) (fun _ i => 2 - (intOf i).toNat)
  case atStart => exact ⟨0, by omega, rfl, by simp⟩
  case round =>
    obtain ⟨j, hj, rfl, rfl⟩ := hrel
    have hc : j = 0 ∨ j = 1 ∨ j = 2 := by omega
    rcases hc with rfl | rfl | rfl
    · simp only [Nat.zero_mul]
      go_wp2_with fail
      go_round
      case rel => exact ⟨1, by omega, by go_num, by simp⟩
      case measure => simp [intOf]
    · simp only [Nat.one_mul]
      go_wp2_with fail
      go_round
      case rel => exact ⟨2, by omega, by go_num, by go_num⟩
      case measure => simp [intOf]
    · go_wp2_with fail
      refine (HG.out).mono ?_
      rintro e w1 ⟨x, rfl, hx, hb, _⟩
      have HS : Hid (CatSt w n u v 0 x w1) := ⟨by simpa [catL] using hx, hb⟩
      clear hx hb HG
      go_wp2_with fail
      go_loopw [6, 27] (fun z i wr => ∃ (q : Nat) (y : Value), q ≤ 2 ∧ i = .int .i64 (q : Int) ∧ z = y ∧ Hid (CatSt w n u v q y wr)) (fun _ i _ => 2 - (intOf i).toNat)
      case atStart => exact ⟨0, x, by omega, rfl, rfl, HS⟩
      case round =>
        clear HS
        obtain ⟨w2, rfl⟩ : ∃ w1 : World, w1 = wr := ⟨_, rfl⟩
        obtain ⟨q, y, hq, rfl, hy, HS⟩ := hrel
        subst hy
        have e0 : w2.cell? ⟨g, 0, none⟩ = some (.slice Au n cu) := (HS.out.2.cell (p := ⟨g, 0, none⟩) hlt).trans h0
        have e1 : w2.cell? ⟨g, 1, none⟩ = some (.slice Av n cv) := (HS.out.2.cell (p := ⟨g, 1, none⟩) hlt).trans h1
        have hc : q = 0 ∨ q = 1 ∨ q = 2 := by omega
        rcases hc with rfl | rfl | rfl
        · have HSR := Lib.hid (src_reads (P := Try.prog) (e' := 3) (tx := 25) w2 Try.underlying25 cu (HU.out.below HS.out.2) (int_one _))
          have HO := Lib.hid HS.out.1
          have HB := Lib.hid HS.out.2
          clear HS
          go_wp2_with (at_builtin; refine wpList_append_row _ rfl (.tmp 31) (.tmp 32) 25 25 rfl w.heap.size 3 i0 (.int .i64 0) 1 8 Try.underlying25 HI.out HZ0.out HZ1.out HZ2.out rfl (by decide) _ _ _ rfl HO.out _ n ((List.range n).map u |>.map (Value.int .i64)) rfl HSR.out ?c1 ?c2 ?c3 ?_)
          case c1 => unfold maxLen; omega
          case c2 => omega
          case c3 => exact HB.out.size
          intro y1 w3 hown hg
          have HN : Hid (CatSt w n u v 1 y1 w3) := ⟨by simpa [catL] using hown, HB.out.trans (hg.below HB.out.size (fun g hg => own_from HO.out g hg))⟩
          clear hown hg HO HB HSR
          go_wp2_with fail
          go_roundw
          case rel => exact ⟨1, y1, by omega, by go_num, rfl, HN⟩
          case measure => simp [intOf]
        · have HSR := Lib.hid (src_reads (P := Try.prog) (e' := 3) (tx := 25) w2 Try.underlying25 cv (HV.out.below HS.out.2) (int_one _))
          have HO := Lib.hid HS.out.1
          have HB := Lib.hid HS.out.2
          clear HS
          go_wp2_with (at_builtin; refine wpList_append_row _ rfl (.tmp 31) (.tmp 32) 25 25 rfl w.heap.size 3 i0 (.int .i64 0) 1 8 Try.underlying25 HI.out HZ0.out HZ1.out HZ2.out rfl (by decide) _ _ _ rfl HO.out _ n ((List.range n).map v |>.map (Value.int .i64)) rfl HSR.out ?c4 ?c5 ?c6 ?_)
          case c4 => unfold maxLen; omega
          case c5 => omega
          case c6 => exact HB.out.size
          intro y1 w3 hown hg
          have HN : Hid (CatSt w n u v 2 y1 w3) := ⟨by
            have e : n + n = 2 * n := by omega
            rw [e] at hown
            simpa [catL] using hown, HB.out.trans (hg.below HB.out.size (fun g hg => own_from HO.out g hg))⟩
          clear hown hg HO HB HSR
          go_wp2_with fail
          go_roundw
          case rel => exact ⟨2, y1, by omega, by go_num, rfl, HN⟩
          case measure => simp [intOf]
        · have HE : Hid (CatPost w n u v (.returned u6) w2) := by
            obtain ⟨A, c, rfl, hr, _⟩ := reads_of_owns HS.out.1
            have e : 2 * n = n + n := by omega
            rw [e] at hr ⊢
            exact ⟨A, c, rfl, cat_fn (c := c) hr, HS.out.2⟩
          clear HS
          go_wp2_with fail
          go_ret
          exact HE.out
end Go.Proofs.Ytgmhinmakomabaa
