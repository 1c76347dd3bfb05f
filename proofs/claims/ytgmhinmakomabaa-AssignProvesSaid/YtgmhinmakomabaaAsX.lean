/-
  Mod, Light, the dice; which matrices are small, which are proper; taken, Total, SameInts. No condition.
-/
import Derived.Test.YtgmhinmakomabaaAsW
namespace Go.Proofs.Ytgmhinmakomabaa
open Go.RowKit
set_option linter.unusedVariables false

theorem mod_spelt (z m : Int) (h0 : 0 < m) : (z % m = if z.tmod m < 0 then z.tmod m + m else z.tmod m) ∧ -m < z.tmod m ∧ z.tmod m < m := by
  have hne : ¬ m = 0 := by omega
  have h1 := Int.tmod_eq_emod (a := z) (b := m)
  have h2 := Int.emod_nonneg z hne
  have h3 := Int.emod_lt_of_pos z h0
  have h5 : ∀ q : Int, (0 ≤ z ∨ m ∣ z) ∨ ¬ (0 ≤ z ∨ m ∣ z) := fun _ => Classical.em _
  rcases h5 0 with h | h
  · rw [if_pos h] at h1
    refine ⟨?_, by omega, by omega⟩
    rw [if_neg (by omega)]; omega
  · rw [if_neg h] at h1
    have h6 : z % m ≠ 0 := fun e => h (.inr (Int.dvd_of_emod_eq_zero e))
    refine ⟨?_, by omega, by omega⟩
    rw [if_pos (by omega)]; omega

set_option maxRecDepth 100000 in
set_option maxHeartbeats 400000 in
theorem mod_any (z m : Int) (w : World) (h0 : 0 < m) (hm : m ≤ 1000000000) (hz1 : -9223372036854775808 ≤ z) (hz2 : z ≤ 9223372036854775807) :
    Calls Try.prog 16 #[.int .i64 z, .int .i64 m] w fun e w' => e = .returned (.int .i64 (z % m)) ∧ w = w' := by
  have hne : ¬ m = 0 := by omega
  have hne' : (m == 0) = false := by simpa using hne
  obtain ⟨ht, hr1, hr2⟩ := mod_spelt z m h0
  obtain ⟨r, hr⟩ : ∃ r, z % m = r := ⟨_, rfl⟩
  obtain ⟨q, hq⟩ : ∃ q, z.tmod m = q := ⟨_, rfl⟩
  rw [hr] at ht ⊢
  rw [hq] at ht hr1 hr2
  clear hr
  by_cases hneg : q < 0
  · rw [if_pos hneg] at ht
    subst ht
    go_enter Try.func16, Try.ntmps16
    go_wp2_with fail
    go_ret
    simp
  · rw [if_neg hneg] at ht
    subst ht
    go_enter Try.func16, Try.ntmps16
    go_wp2_with fail
    go_ret
    simp
set_option maxRecDepth 100000 in
set_option maxHeartbeats 400000 in
theorem llight_any (A : Option Addr) (n c : Nat) (w : World) (hn : n ≤ maxLen) :
    Calls Try.prog 14 #[.slice A n c] w fun e w' => e = .returned (.bool (decide (n ≤ 120))) ∧ w = w' := by
  unfold maxLen at hn
  by_cases h : n ≤ 120
  all_goals
    go_enter Try.func14, Try.ntmps14
    go_wp2_with fail
    go_ret
    simp [h]
    try omega

theorem i64_info : (Try.prog.info? 3).map (fun i => (i.zero, i.size, i.bytes)) = some (some (.int .i64 0), 1, 8) := by kernel_rfl
def inI64 (x : Int) : Prop := -9223372036854775808 ≤ x ∧ x ≤ 9223372036854775807
theorem int_one (l : List Int) : ∀ u ∈ l.map (Value.int .i64), u.oneCell' = true := fun u hu => by
  obtain ⟨_, _, rfl⟩ := List.mem_map.1 hu
  rfl
theorem owns_empty (w : World) (e : TypeId) : (w.alloc (.cells #[] e)).ownsRow w.heap.size e 1 (.slice (some ⟨w.heap.size, 0, none⟩) 0 0) 0 [] :=
  World.ownsRow_made w #[] 0 (Nat.le_refl _) (by unfold maxLen; omega) (by simp)

/-- dice at block d -/
def Dice (w : World) (d : Nat) : Prop :=
  ∃ A n c k l, Blk w d 64 #[.slice A n c, .int .i64 ((k : Nat) : Int)] ∧ Ints w d A n l ∧ k ≤ n ∧ n ≤ 1000 ∧ ∀ x ∈ l, inI64 x
def RollPost (w : World) (e : Ending) (w' : World) : Prop :=
  ∃ d, e = .returned (.pointer (some ⟨d, 0, none⟩)) ∧ Dice w' d ∧ w.heap.size ≤ d ∧ d < w'.heap.size ∧ Below w.heap.size w w'

set_option maxRecDepth 100000 in
set_option maxHeartbeats 400000 in
theorem roll_any (A : Option Addr) (n c : Nat) (l : List Int) (w : World) (hn : n ≤ 1000) (hr : Ints w w.heap.size A n l) (hl : ∀ x ∈ l, inI64 x) :
    Calls Try.prog 28 #[.slice A n c] w (RollPost w) := by
  obtain ⟨i0, hi, hi0, hi1, hi2⟩ := info_parts i64_info
  have HS := Lib.hid (src_reads (P := Try.prog) _ Try.underlying25 c (hr.alloc (Nat.le_refl _) (.cells #[] 3)) (int_one l))
  have HL := Lib.hid hl
  clear hr hl
  go_enter Try.func28, Try.ntmps28
  go_wp2_with (at_builtin; refine wpList_append_row _ rfl (.tmp 3) (.tmp 4) 25 25 rfl w.heap.size 3 i0 (.int .i64 0) 1 8 Try.underlying25 hi hi0 hi1 hi2 rfl (by decide) _ _ _ rfl (owns_empty w 3) _ n (l.map (Value.int .i64)) rfl HS.out ?c1 ?c2 ?c3 ?_)
  case c1 => unfold maxLen; omega
  case c2 => omega
  case c3 => simp
  intro v1 w1 hown1 hg1
  have hB : Below w.heap.size w w1 := ((Below.refl _ w).alloc (Nat.le_refl _) _).trans (hg1.below (by simp) (fun g hg => by simp [Value.ownBlock] at hg; omega))
  obtain ⟨A', c', rfl, hrd, hat⟩ := reads_of_owns hown1
  have HR : Hid (Ints w1 w1.heap.size A' n l) := hrd
  have HB := Lib.hid hB
  have hs := hB.size
  clear hown1 hg1 hrd hB hat
  go_wp2_with fail
  go_ret
  refine ⟨w1.heap.size, rfl, ⟨A', n, c', 0, l, ?_, HR.out.alloc (Nat.le_refl _) _, by omega, hn, HL.out⟩, hs, by simp, HB.out.alloc hs _⟩
  simpa using Blk.new w1 64 _

def NextPost (w : World) (d : Nat) (m : Int) (e : Ending) (w' : World) : Prop :=
  ∃ v : Int, e = .returned (.int .i64 v) ∧ 0 ≤ v ∧ v < m ∧ Dice w' d ∧ w.grownBy w' (some d) ∧ w'.heap.size = w.heap.size
theorem NextPost.mk0 {w : World} {d : Nat} {m : Int} (h0 : 0 < m) (h : Dice w d) (k : Nat) : NextPost w d m (.returned (.int .i64 0)) (w.drewN k) :=
  ⟨0, rfl, by omega, h0, h, only_drewN (World.grownBy.refl w _) _, rfl⟩

set_option maxRecDepth 100000 in
set_option maxHeartbeats 400000 in
theorem next_any (d : Nat) (m : Int) (w : World) (h : Dice w d) (h0 : 0 < m) (hm : m ≤ 1000000000) :
    Calls Try.prog 29 #[.pointer (some ⟨d, 0, none⟩), .int .i64 m] w (NextPost w d m) := by
  have HD := Lib.hid (NextPost.mk0 h0 h)
  obtain ⟨A, n, c, k, l, hb, hr, hk, hn, hl⟩ := h
  have c0 := hb.cell 0
  have c1 := hb.cell 1
  have f1 := hb.frozen 1
  simp at c0 c1
  by_cases hlt : k < n
  · obtain ⟨b, off, x, rfl, hbd, hx, hcell⟩ := Ints.at_ hr hlt
    have hxi := hl x (List.mem_of_getElem? hx)
    have HM := Lib.hid (fun w => mod_any x m w h0 hm hxi.1 hxi.2)
    have y1 := Int.emod_nonneg x (show m ≠ 0 by omega)
    have y2 := Int.emod_lt_of_pos x h0
    obtain ⟨y, hy⟩ : ∃ y, x % m = y := ⟨_, rfl⟩
    rw [hy] at HM y1 y2
    have hd : decide (n ≤ k) = false := by simpa using hlt
    have hd2 : decide ((n : Int) ≤ (k : Int)) = false := by simpa using hlt
    have hbne : ¬ b = d := by omega
    have HB := Lib.hid hb
    have HR := Lib.hid hr
    have HL := Lib.hid hl
    clear hb hr hxi hx hy hl HD
    go_enter Try.func29, Try.ntmps29
    go_wp2_with fail
    go_quiet (fail)
    go_wp2_with fail
    generalize hw2 : World.setCell (w.drewN nq) { block := d, off := 1 } (Value.int IntKind.i64 ((k : Int) + 1)) = w2
    have hb2 : Blk w2 d 64 #[.slice (some ⟨b, off, none⟩) n c, .int .i64 ((k : Int) + 1)] := by rw [← hw2]; exact (HB.out.drewN _).set_ 1 _
    have hg2 : w.grownBy w2 (some d) := by rw [← hw2]; exact only_setCell (only_drewN (World.grownBy.refl w _) _) (.inl rfl) _
    have hsz : w2.heap.size = w.heap.size := by rw [← hw2]; simp [World.setCell]
    have e0 := hb2.cell 0
    have e1 := hb2.cell 1
    simp at e0 e1
    have hcell2 : w2.cell? ⟨b, off + k, none⟩ = some (.int .i64 x) := hg2.cell hcell (fun e => hbne (by injection e))
    have HB2 := Lib.hid hb2
    have HG2 := Lib.hid hg2
    have HR2 := Lib.hid (HR.out.grown hg2 (Nat.le_of_lt HB.out.lt) (fun g hg => by injection hg with hg; omega))
    have HSZ := Lib.hid hsz
    clear hw2 hb2 hg2 c0 c1 hcell hsz
    go_quiet (exact quiet_left (HM.out _))
    go_wp2_with fail
    go_ret
    exact ⟨y, rfl, y1, y2, ⟨some ⟨b, off, none⟩, n, c, k + 1, l, by rw [Int.natCast_add]; exact HB2.out, HR2.out, hlt, hn, HL.out⟩, only_drewN HG2.out _, HSZ.out⟩
  · have hd : decide (n ≤ k) = true := by simpa using hlt
    have hd2 : decide ((n : Int) ≤ (k : Int)) = true := by simpa using hlt
    clear hb hr hl
    go_enter Try.func29, Try.ntmps29
    go_wp2_with fail
    go_quiet (fail)
    go_wp2_with fail
    go_ret
    exact HD.out _

/-- numbers in memory, as a function of the index -/
def Fn (w : World) (B : Nat) (A : Option Addr) (n : Nat) (f : Nat → Int) : Prop :=
  ∀ i, i < n → ∃ b off, A = some ⟨b, off, none⟩ ∧ b < B ∧ w.cell? ⟨b, off + i, none⟩ = some (.int .i64 (f i))
theorem Ints.fn {w : World} {B n : Nat} {A : Option Addr} {l : List Int} (h : Ints w B A n l) : Fn w B A n (fun i => l.getD i 0) := fun i hi => by
  obtain ⟨b, off, x, e, hb, hx, hc⟩ := Ints.at_ h hi
  exact ⟨b, off, e, hb, by rw [hc]; simp [List.getD, hx]⟩
theorem Fn.keep {w w' : World} {B n : Nat} {A : Option Addr} {f : Nat → Int} (h : Fn w B A n f) (hk : ∀ p : Addr, p.block < B → w'.cell? p = w.cell? p) : Fn w' B A n f := fun i hi => by
  obtain ⟨b, off, e, hb, hc⟩ := h i hi
  exact ⟨b, off, e, hb, (hk _ hb).trans hc⟩
theorem Fn.more {w : World} {B B' n : Nat} {A : Option Addr} {f : Nat → Int} (h : Fn w B A n f) (hB : B ≤ B') : Fn w B' A n f := fun i hi => by
  obtain ⟨b, off, e, hb, hc⟩ := h i hi
  exact ⟨b, off, e, by omega, hc⟩
theorem Fn.below {w w' : World} {B n : Nat} {A : Option Addr} {f : Nat → Int} (h : Fn w B A n f) (hb : Below B w w') : Fn w' B A n f := h.keep fun _ hp => hb.cell hp
theorem Fn.drewN {w : World} {B n : Nat} {A : Option Addr} {f : Nat → Int} (h : Fn w B A n f) (k : Nat) : Fn (w.drewN k) B A n f := h
theorem Fn.cut {w : World} {B n m : Nat} {A : Option Addr} {f : Nat → Int} (h : Fn w B A n f) (hm : m ≤ n) : Fn w B A m f := fun i hi => h i (by omega)
theorem IVec.fn {w : World} {b n : Nat} {f : Nat → Int} (h : IVec w b n f) : Fn w w.heap.size (some ⟨b, 0, none⟩) n f := fun i hi => ⟨b, 0, rfl, Vec.lt h, by rw [Nat.zero_add]; exact IVec.at_ h hi⟩

/-- is one of the first n numbers x? -/
def tkB (f : Nat → Int) (x : Int) : Nat → Bool
  | 0 => false
  | k + 1 => tkB f x k || decide (f k = x)
theorem tkB_iff (f : Nat → Int) (x : Int) : ∀ n, tkB f x n = true ↔ ∃ i, i < n ∧ f i = x
  | 0 => by simp [tkB]
  | n + 1 => by
    rw [tkB, Bool.or_eq_true, tkB_iff f x n, decide_eq_true_eq]
    constructor
    · rintro (⟨i, hi, e⟩ | e)
      · exact ⟨i, by omega, e⟩
      · exact ⟨n, by omega, e⟩
    · rintro ⟨i, hi, e⟩
      rcases Nat.lt_or_ge i n with h | h
      · exact .inl ⟨i, h, e⟩
      · obtain rfl : i = n := by omega
        exact .inr e

set_option maxRecDepth 100000 in
set_option maxHeartbeats 400000 in
theorem taken_any (A : Option Addr) (n c B : Nat) (f : Nat → Int) (x : Int) (w : World) (hf : Fn w B A n f) (hn : n ≤ maxLen) :
    Calls Try.prog 26 #[.slice A n c, .int .i64 x] w fun e w' => e = .returned (.bool (tkB f x n)) ∧ w = w' := by
  unfold maxLen at hn
  have HF := Lib.hid hf
  obtain ⟨res, hres⟩ : ∃ b, tkB f x n = b := ⟨_, rfl⟩
  rw [hres]
  have HE := Lib.hid hres
  clear hf hres
  go_enter Try.func26, Try.ntmps26
  go_wp2_with fail
  go_loop [5] (fun i => ∃ j : Nat, j ≤ n ∧ i = .int .i64 (j : Int) ∧ Hid (tkB f x j = false)) (fun i => n - (intOf i).toNat)
  case atStart => exact ⟨0, by omega, rfl, rfl⟩
  case round =>
    obtain ⟨j, hj, rfl, HA⟩ := hrel
    by_cases hlt : j < n
    · obtain ⟨b, off, rfl, hb, hcell⟩ := HF.out j hlt
      obtain ⟨y, hy⟩ : ∃ y, f j = y := ⟨_, rfl⟩
      rw [hy] at hcell
      have HY := Lib.hid hy
      clear hb hy
      by_cases h1 : y = x
      · have hfe : Hid (res = true) := by
          show res = true
          rw [← HE.out]
          exact (tkB_iff f x n).2 ⟨j, hlt, by rw [HY.out, h1]⟩
        have h1' : (y == x) = true := by simpa using h1
        clear h1
        go_wp2_with fail
        go_ret
        exact ⟨by rw [hfe.out]; rfl, rfl⟩
      · have h1' : (y == x) = false := by simpa using h1
        have HS : Hid (tkB f x (j + 1) = false) := by show tkB f x (j + 1) = false; rw [tkB, HA.out, HY.out]; simpa using h1
        clear h1
        go_wp2_with fail
        go_round
        case rel => exact ⟨j + 1, by omega, by go_num, HS⟩
        case measure => simp [intOf]; omega
    · obtain rfl : j = n := by omega
      have hfe : Hid (res = false) := by show res = false; rw [← HE.out]; exact HA.out
      go_wp2_with fail
      go_ret
      exact ⟨by rw [hfe.out]; rfl, rfl⟩

def QuietP (w : World) (v : Value) (e : Ending) (w' : World) : Prop := e = .returned v ∧ ∃ m, w' = w.drewN m

set_option maxRecDepth 100000 in
set_option maxHeartbeats 1000000 in
/-- the cost of a choice -/
theorem total_any (A : Option Addr) (n c B : Nat) (C : Nat → Nat → Int) (A2 : Option Addr) (m c2 B2 : Nat) (t : Nat → Nat) (w : World) (hs : Sq w B A n C) (hb : CB n C) (hf : Fn w B2 A2 m (fun i => (t i : Int))) (hm : m ≤ n) (hn : n ≤ 1000) (ht : ∀ i, i < m → t i < n) :
    Calls Try.prog 19 #[.slice A n c, .slice A2 m c2] w (QuietP w (.int .i64 (costOf C t m))) := by
  have HS := Lib.hid hs
  have HF := Lib.hid hf
  have HB := Lib.hid hb
  have HT := Lib.hid ht
  obtain ⟨res, hres⟩ : ∃ b, costOf C t m = b := ⟨_, rfl⟩
  rw [hres]
  have HE := Lib.hid hres
  clear hs hf hb ht hres
  go_enter Try.func19, Try.ntmps19
  go_wp2_with fail
  go_loopw [5, 6] (fun s i wr => ∃ (j d : Nat) (x : Int), j ≤ m ∧ i = .int .i64 (j : Int) ∧ s = .int .i64 x ∧ wr = w.drewN d ∧ Hid (x = costOf C t j) ∧ 0 ≤ x ∧ x ≤ 1048576 * j) (fun _ i _ => m - (intOf i).toNat)
  case atStart => exact ⟨0, 0, 0, by omega, rfl, rfl, rfl, rfl, by omega, by omega⟩
  case round =>
    obtain ⟨j, d, x, hj, rfl, rfl, rfl, HX, hx0, hx1⟩ := hrel
    by_cases hlt : j < m
    · obtain ⟨b, off, rfl, hbb, hcell⟩ := HF.out j hlt
      have htj := HT.out j hlt
      obtain ⟨b1, o1, b2, o2, c', rfl, h1, h2, h3, h4⟩ := HS.out j (by omega)
      have h5 := h4 (t j) htj
      have hb2 := HB.out j (t j) (by omega) htj
      have HX2 : Hid (x + C j (t j) = costOf C t (j + 1)) := by show _ = _; rw [HX.out]; rfl
      obtain ⟨y, hy⟩ : ∃ y, C j (t j) = y := ⟨_, rfl⟩
      obtain ⟨q, hq⟩ : ∃ q, t j = q := ⟨_, rfl⟩
      simp only at hcell
      rw [hq] at hcell htj hy h5 hb2 HX2
      rw [hy] at h5 hb2 HX2
      obtain ⟨hy0, hy1⟩ := hb2
      clear hbb h1 h2 h4 hy hq HX
      go_wp2_with fail
      go_quiet (fail)
      go_wp2_with fail
      go_roundw
      case rel => exact ⟨j + 1, _, x + y, by omega, by go_num, by go_num, (by first | rfl | exact World.drewN_drewN _ _ _), HX2, by omega, by omega⟩
      case measure => simp [intOf] <;> omega
    · obtain rfl : j = m := by omega
      go_wp2_with fail
      go_ret
      exact ⟨by rw [HX.out, HE.out]; rfl, _, rfl⟩

/-- equal lists of numbers -/
def eqB (f g : Nat → Int) (n m : Nat) : Bool := decide (n = m) && (List.range n).all fun i => decide (f i = g i)
set_option maxRecDepth 100000 in
set_option maxHeartbeats 1000000 in
theorem sameInts_eq (A : Option Addr) (n c B : Nat) (A' : Option Addr) (c' B' : Nat) (f g : Nat → Int) (w : World) (hf : Fn w B A n f) (hg : Fn w B' A' n g) (hn : n ≤ 1000) (he : ∀ i, i < n → g i = f i) :
    Calls Try.prog 12 #[.slice A n c, .slice A' n c'] w (QuietP w (.bool true)) := by
  have HF := Lib.hid hf
  have HG := Lib.hid hg
  have HE := Lib.hid he
  clear hf hg he
  go_enter Try.func12, Try.ntmps12
  go_wp2_with fail
  go_loopw [5] (fun i wr => ∃ (j d : Nat), j ≤ n ∧ i = .int .i64 (j : Int) ∧ wr = w.drewN d) (fun i _ => n - (intOf i).toNat)
  case atStart => exact ⟨0, 0, by omega, rfl, rfl⟩
  case round =>
    obtain ⟨j, d, hj, rfl, rfl⟩ := hrel
    by_cases hlt : j < n
    · obtain ⟨b, off, rfl, hb, h1⟩ := HF.out j hlt
      obtain ⟨b', off', rfl, hb', h2⟩ := HG.out j hlt
      rw [HE.out j hlt] at h2
      obtain ⟨y, hy⟩ : ∃ y, f j = y := ⟨_, rfl⟩
      rw [hy] at h1 h2
      clear hb hb' hy
      go_wp2_with fail
      go_quiet (fail)
      go_wp2_with fail
      go_roundw
      case rel => exact ⟨j + 1, _, by omega, by go_num, (by first | rfl | exact World.drewN_drewN _ _ _)⟩
      case measure => simp [intOf] <;> omega
    · go_wp2_with fail
      go_ret
      exact ⟨rfl, _, rfl⟩
end Go.Proofs.Ytgmhinmakomabaa
