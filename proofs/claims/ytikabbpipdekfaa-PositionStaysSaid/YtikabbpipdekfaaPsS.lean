/-
  The keys of a new list: Spread of both. No condition.
-/
import Derived.Test.YtikabbpipdekfaaPsH
namespace Go.Proofs.Ytikabbpipdekfaa
open Go.RowKit
set_option linter.unusedVariables false

def two (x : Nat) : ByteArray := ⟨#[UInt8.ofNat (97 + x / 25), UInt8.ofNat (98 + x % 25)]⟩
def spread (n : Nat) : List ByteArray := (List.range n).map fun i => two ((i + 1) * (650 / (n + 1)))
theorem spread_bd {n i d : Nat} (hi : i < n) (hd : 650 / (n + 1) = d) : (i + 1) * d ≤ 649 := by
  have h1 : (i + 1) * d ≤ n * d := Nat.mul_le_mul_right _ hi
  have h2 : (n + 1) * d ≤ 650 := by rw [← hd]; exact Nat.mul_div_le 650 (n + 1)
  rw [Nat.add_mul n, Nat.one_mul] at h2
  by_cases h0 : d = 0
  · rw [h0]; simp
  · omega
theorem spread_take {m k d : Nat} (h : k < m) (hd : 650 / (m + 1) = d) : (spread m).take (k + 1) = (spread m).take k ++ [two ((k + 1) * d)] := by
  have hl : (spread m).length = m := by simp [spread]
  rw [List.take_succ_eq_append_getElem (by rw [hl]; exact h)]
  simp [spread, hd]
theorem own_cap {w : World} {base : Nat} {e : TypeId} {size n c : Nat} {A : Option Addr} {xs : List Value} (h : w.ownsRow base e size (.slice A n c) n xs) : n ≤ c := by
  rcases h.2 with ⟨h1, -⟩ | ⟨g', cap', cur, h1, -, -, h2, -⟩
  · injection h1 with _ e2 e3; omega
  · injection h1 with _ _ e3; omega
theorem two_run (w : World) {x : Nat} (hx : x ≤ 649) (a b : Int) (ha : a = ((97 + x / 25 : Nat) : Int)) (hb : b = ((98 + x % 25 : Nat) : Int)) :
    (convert 41 9 (.slice (some ⟨w.heap.size, 0, none⟩) 2 2)).run Try.prog (w.alloc (.cells #[.int .u8 a, .int .u8 b] 5)) = .ok (.string (two x)) (w.alloc (.cells #[.int .u8 a, .int .u8 b] 5)) := by
  have hk := Blk.new w 5 #[.int .u8 a, .int .u8 b]
  have := run_convert_bytes_back (P := Try.prog) (w.alloc (.cells #[.int .u8 a, .int .u8 b] 5)) 41 9 5 ⟨w.heap.size, 0, none⟩ 2 [UInt8.ofNat (97 + x / 25), UInt8.ofNat (98 + x % 25)] Try.underlying41 Try.underlying5 Try.underlying9 (fun j hj => by
    rw [Addr.add_lit, Nat.zero_add, hk.cell]
    have : j = 0 ∨ j = 1 := by simp at hj; omega
    rcases this with rfl | rfl
    · show some (Value.int .u8 a) = some (Value.int .u8 ((UInt8.ofNat (97 + x / 25)).toNat : Int))
      rw [UInt8.toNat_ofNat_of_lt' (by show _ < 256; omega), ha]
    · show some (Value.int .u8 b) = some (Value.int .u8 ((UInt8.ofNat (98 + x % 25)).toNat : Int))
      rw [UInt8.toNat_ofNat_of_lt' (by show _ < 256; omega), hb])
  exact this
def StrsPost (w : World) (l : List ByteArray) (e : Ending) (w' : World) : Prop := Below w.heap.size w w' ∧ ∃ A c, e = .returned (.slice A l.length c) ∧ l.length ≤ c ∧ Reads w' w'.heap.size 1 A l.length (l.map Value.string)

set_option maxRecDepth 100000 in
set_option maxHeartbeats 1600000 in
theorem spread_any (n : Int) (w : World) (hn : -9223372036854775808 ≤ n ∧ n ≤ 9223372036854775807) : Calls Try.prog 16 #[.int .i64 n] w (StrsPost w (if n < 0 ∨ 400 < n then [] else spread n.toNat)) := by
  by_cases h1 : n < 0
  · rw [if_pos (.inl h1)]
    have d1 : decide (n < 0) = true := decide_eq_true h1
    go_enter Try.func16, Try.ntmps16
    go_wp2_with fail
    go_ret
    exact ⟨Below.refl _ _, none, 0, rfl, Nat.le_refl _, Reads.none_⟩
  have d1 : decide (n < 0) = false := decide_eq_false h1
  by_cases h2 : 400 < n
  · rw [if_pos (.inr h2)]
    have d2 : decide (400 < n) = true := decide_eq_true h2
    go_enter Try.func16, Try.ntmps16
    go_wp2_with fail
    go_ret
    exact ⟨Below.refl _ _, none, 0, rfl, Nat.le_refl _, Reads.none_⟩
  have d2 : decide (400 < n) = false := decide_eq_false h2
  rw [if_neg (by omega)]
  obtain ⟨m, rfl⟩ : ∃ m : Nat, n = m := ⟨n.toNat, by omega⟩
  rw [Int.toNat_natCast]
  obtain ⟨i9, a1, a2, a3, a4⟩ := info3 str_info
  have HI := Lib.hid a1
  have HIz := Lib.hid a2
  have HIs := Lib.hid a3
  have HIb := Lib.hid a4
  have hm : m ≤ 400 := by omega
  have hd0 : (650 : Int) / ((m : Int) + 1) = ((650 / (m + 1) : Nat) : Int) := (Int.natCast_ediv 650 (m + 1)).symm
  obtain ⟨d, hd⟩ : ∃ d, 650 / (m + 1) = d := ⟨_, rfl⟩
  rw [hd] at hd0
  have hd6 : d ≤ 650 := by rw [← hd]; exact Nat.div_le_self _ _
  have HDD := Lib.hid hd
  have z0 : (((m : Int) + 1) == 0) = false := by rw [beq_eq_false_iff_ne]; omega
  have z1 : ((m : Int) + 1 = 0) = False := by simp; omega
  have hmi : (m : Int) ≤ 400 := by omega
  clear a1 a2 a3 a4 hd hn h1 h2
  go_enter Try.func16, Try.ntmps16
  go_wp2_with fail
  rw [hd0]
  clear hd0
  go_loopw [4, 17] (fun l i wr => ∃ (k c : Nat) (A : Option Addr), k ≤ m ∧ i = .int .i64 (k : Int) ∧ l = .slice A k c ∧ Hid (wr.ownsRow w.heap.size 9 1 (.slice A k c) k (((spread m).take k).map Value.string)) ∧ Hid (Below w.heap.size w wr)) (fun _ i _ => m - (intOf i).toNat)
  case atStart => exact ⟨0, 0, none, by omega, rfl, rfl, owns_nil w w.heap.size 9, Below.refl _ _⟩
  case round =>
    obtain ⟨k, c, A, hk, rfl, rfl, HO, HB⟩ := hrel
    by_cases hlt : k < m
    · obtain ⟨x, hx⟩ : ∃ x, (k + 1) * d = x := ⟨_, rfl⟩
      have hx6 : x ≤ 649 := by rw [← hx]; exact spread_bd hlt HDD.out
      have hxi : ((k : Int) + 1) * (d : Int) = (x : Int) := by rw [← hx]; push_cast; rfl
      have HX := Lib.hid hx
      have b1 : (x : Int) ≤ 649 := by omega
      have b0 : 0 ≤ (x : Int) := by omega
      have q1 : (x : Int) / 25 ≤ 25 := by omega
      have q0 : 0 ≤ (x : Int) / 25 := by omega
      have r1 : (x : Int) % 25 ≤ 24 := by omega
      have r0 : 0 ≤ (x : Int) % 25 := by omega
      have hst := two_run wr hx6 (97 + (x : Int) / 25) (97 + (1 + (x : Int) % 25)) (by omega) (by omega)
      obtain ⟨o5, ho5⟩ : ∃ o, (.cells #[.int .u8 (97 + (x : Int) / 25), .int .u8 (97 + (1 + (x : Int) % 25))] 5 : Obj) = o := ⟨_, rfl⟩
      have HOA : Hid (((wr.alloc o5).alloc (.cells #[.string (two x)] 9)).ownsRow w.heap.size 9 1 (.slice A k c) k (((spread m).take k).map Value.string)) := (HO.out.alloc _).alloc _
      have HSR : Hid (Src Try.prog 1 28 (.slice (some ⟨wr.heap.size + 1, 0, none⟩) 1 1) 1 [.string (two x)] ((wr.alloc o5).alloc (.cells #[.string (two x)] 9))) := by
        have := src_new (wr.alloc o5) Try.underlying28 [.string (two x)] 1 1 1 9 rfl (strs_one [two x])
        rw [show (wr.alloc o5).heap.size = wr.heap.size + 1 by simp] at this
        exact this
      have HL1 : Hid (k + 1 ≤ maxLen) := by unfold Hid maxLen; omega
      have HL2 : Hid ((k + 1) * 16 ≤ 140737488355328) := by unfold Hid; omega
      have HL3 : Hid (w.heap.size ≤ ((wr.alloc o5).alloc (.cells #[.string (two x)] 9)).heap.size) := by have := HB.out.size; unfold Hid; simp; omega
      have HB5 : Hid (Below w.heap.size w ((wr.alloc o5).alloc (.cells #[.string (two x)] 9))) := (HB.out.alloc HB.out.size _).alloc (by have := HB.out.size; simp; omega) _
      subst ho5
      clear hx
      go_wp2_with (at_builtin; refine wpList_append_row _ rfl (.tmp 24) (.tmp 36) 28 28 rfl w.heap.size 9 i9 (.string ByteArray.empty) 1 16 Try.underlying28 HI.out HIz.out HIs.out HIb.out rfl (by decide) (.slice A k c) k (((spread m).take k).map Value.string) rfl HOA.out (.slice (some ⟨wr.heap.size + 1, 0, none⟩) 1 1) 1 [.string (two x)] rfl HSR.out HL1.out HL2.out HL3.out ?_)
      intro v3 w3 hown3 hg3
      obtain ⟨A3, c3, rfl, -, -⟩ := reads_of_owns hown3
      have HO3 : Hid (w3.ownsRow w.heap.size 9 1 (.slice A3 (k + 1) c3) (k + 1) (((spread m).take (k + 1)).map Value.string)) := by
        rw [spread_take hlt HDD.out, HX.out, List.map_append, List.map_take]; exact hown3
      have HB3 : Hid (Below w.heap.size w w3) := HB5.out.grown hg3.grown HL3.out (fun g e => own_from HOA.out g e)
      clear hown3 hg3 hst
      go_wp2_with fail
      go_roundw
      case rel => exact ⟨k + 1, c3, A3, by omega, by go_num, rfl, HO3, HB3⟩
      case measure => simp [intOf]; omega
    · obtain rfl : k = m := by omega
      have hl : (spread k).length = k := by simp [spread]
      have HE : Hid (StrsPost w (spread k) (.returned (.slice A k c)) wr) := by
        have ho := HO.out
        rw [List.take_of_length_le (by rw [hl]; omega)] at ho
        have hcap := own_cap ho
        obtain ⟨A', c', e, hr, -⟩ := reads_of_owns ho
        injection e with e1 e2 e3
        subst e1 e3
        refine ⟨HB.out, A, c, by rw [hl], by rw [hl]; exact hcap, by rw [hl]; exact hr⟩
      go_wp2_with fail
      go_ret
      exact HE.out

set_option maxRecDepth 100000 in
set_option maxHeartbeats 1600000 in
theorem rspread_any (n : Int) (w : World) (hn : -9223372036854775808 ≤ n ∧ n ≤ 9223372036854775807) : Calls Try.prog 18 #[.int .i64 n] w (StrsPost w (if n < 0 ∨ 400 < n then [] else spread n.toNat)) := by
  by_cases h1 : n < 0
  · rw [if_pos (.inl h1)]
    have d1 : decide (n < 0) = true := decide_eq_true h1
    go_enter Try.func18, Try.ntmps18
    go_wp2_with fail
    go_ret
    exact ⟨Below.refl _ _, none, 0, rfl, Nat.le_refl _, Reads.none_⟩
  have d1 : decide (n < 0) = false := decide_eq_false h1
  by_cases h2 : 400 < n
  · rw [if_pos (.inr h2)]
    have d2 : decide (400 < n) = true := decide_eq_true h2
    go_enter Try.func18, Try.ntmps18
    go_wp2_with fail
    go_ret
    exact ⟨Below.refl _ _, none, 0, rfl, Nat.le_refl _, Reads.none_⟩
  have d2 : decide (400 < n) = false := decide_eq_false h2
  rw [if_neg (by omega)]
  obtain ⟨m, rfl⟩ : ∃ m : Nat, n = m := ⟨n.toNat, by omega⟩
  rw [Int.toNat_natCast]
  obtain ⟨i9, a1, a2, a3, a4⟩ := info3 str_info
  have HI := Lib.hid a1
  have HIz := Lib.hid a2
  have HIs := Lib.hid a3
  have HIb := Lib.hid a4
  have hm : m ≤ 400 := by omega
  have hd0 : (650 : Int) / ((m : Int) + 1) = ((650 / (m + 1) : Nat) : Int) := (Int.natCast_ediv 650 (m + 1)).symm
  obtain ⟨d, hd⟩ : ∃ d, 650 / (m + 1) = d := ⟨_, rfl⟩
  rw [hd] at hd0
  have hd6 : d ≤ 650 := by rw [← hd]; exact Nat.div_le_self _ _
  have HDD := Lib.hid hd
  have z0 : (((m : Int) + 1) == 0) = false := by rw [beq_eq_false_iff_ne]; omega
  have z1 : ((m : Int) + 1 = 0) = False := by simp; omega
  have hmi : (m : Int) ≤ 400 := by omega
  clear a1 a2 a3 a4 hd hn h1 h2
  go_enter Try.func18, Try.ntmps18
  go_wp2_with fail
  rw [hd0]
  clear hd0
  go_loopw [3, 5] (fun l i wr => ∃ (k c : Nat) (A : Option Addr), k ≤ m ∧ i = .int .i64 ((k : Int) + 1) ∧ l = .slice A k c ∧ Hid (wr.ownsRow w.heap.size 9 1 (.slice A k c) k (((spread m).take k).map Value.string)) ∧ Hid (Below w.heap.size w wr)) (fun _ i _ => m + 1 - (intOf i).toNat)
  case atStart => exact ⟨0, 0, none, by omega, by go_num, rfl, owns_nil w w.heap.size 9, Below.refl _ _⟩
  case round =>
    obtain ⟨k, c, A, hk, rfl, rfl, HO, HB⟩ := hrel
    by_cases hlt : k < m
    · obtain ⟨x, hx⟩ : ∃ x, (k + 1) * d = x := ⟨_, rfl⟩
      have hx6 : x ≤ 649 := by rw [← hx]; exact spread_bd hlt HDD.out
      have hxi : ((k : Int) + 1) * (d : Int) = (x : Int) := by rw [← hx]; push_cast; rfl
      have HX := Lib.hid hx
      have b1 : (x : Int) ≤ 649 := by omega
      have b0 : 0 ≤ (x : Int) := by omega
      have q1 : (x : Int) / 25 ≤ 25 := by omega
      have q0 : 0 ≤ (x : Int) / 25 := by omega
      have r1 : (x : Int) % 25 ≤ 24 := by omega
      have r0 : 0 ≤ (x : Int) % 25 := by omega
      have hst := two_run wr hx6 (97 + (x : Int) / 25) (98 + (x : Int) % 25) (by omega) (by omega)
      obtain ⟨o5, ho5⟩ : ∃ o, (.cells #[.int .u8 (97 + (x : Int) / 25), .int .u8 (98 + (x : Int) % 25)] 5 : Obj) = o := ⟨_, rfl⟩
      have HOA : Hid (((wr.alloc o5).alloc (.cells #[.string (two x)] 9)).ownsRow w.heap.size 9 1 (.slice A k c) k (((spread m).take k).map Value.string)) := (HO.out.alloc _).alloc _
      have HSR : Hid (Src Try.prog 1 28 (.slice (some ⟨wr.heap.size + 1, 0, none⟩) 1 1) 1 [.string (two x)] ((wr.alloc o5).alloc (.cells #[.string (two x)] 9))) := by
        have := src_new (wr.alloc o5) Try.underlying28 [.string (two x)] 1 1 1 9 rfl (strs_one [two x])
        rw [show (wr.alloc o5).heap.size = wr.heap.size + 1 by simp] at this
        exact this
      have HL1 : Hid (k + 1 ≤ maxLen) := by unfold Hid maxLen; omega
      have HL2 : Hid ((k + 1) * 16 ≤ 140737488355328) := by unfold Hid; omega
      have HL3 : Hid (w.heap.size ≤ ((wr.alloc o5).alloc (.cells #[.string (two x)] 9)).heap.size) := by have := HB.out.size; unfold Hid; simp; omega
      have HB5 : Hid (Below w.heap.size w ((wr.alloc o5).alloc (.cells #[.string (two x)] 9))) := (HB.out.alloc HB.out.size _).alloc (by have := HB.out.size; simp; omega) _
      subst ho5
      clear hx
      go_wp2_with (at_builtin; refine wpList_append_row _ rfl (.tmp 20) (.tmp 35) 28 28 rfl w.heap.size 9 i9 (.string ByteArray.empty) 1 16 Try.underlying28 HI.out HIz.out HIs.out HIb.out rfl (by decide) (.slice A k c) k (((spread m).take k).map Value.string) rfl HOA.out (.slice (some ⟨wr.heap.size + 1, 0, none⟩) 1 1) 1 [.string (two x)] rfl HSR.out HL1.out HL2.out HL3.out ?_)
      intro v3 w3 hown3 hg3
      obtain ⟨A3, c3, rfl, -, -⟩ := reads_of_owns hown3
      have HO3 : Hid (w3.ownsRow w.heap.size 9 1 (.slice A3 (k + 1) c3) (k + 1) (((spread m).take (k + 1)).map Value.string)) := by
        rw [spread_take hlt HDD.out, HX.out, List.map_append, List.map_take]; exact hown3
      have HB3 : Hid (Below w.heap.size w w3) := HB5.out.grown hg3.grown HL3.out (fun g e => own_from HOA.out g e)
      clear hown3 hg3 hst
      go_wp2_with fail
      go_roundw
      case rel => exact ⟨k + 1, c3, A3, by omega, by go_num, rfl, HO3, HB3⟩
      case measure => simp [intOf]; omega
    · obtain rfl : k = m := by omega
      have hl : (spread k).length = k := by simp [spread]
      have HE : Hid (StrsPost w (spread k) (.returned (.slice A k c)) wr) := by
        have ho := HO.out
        rw [List.take_of_length_le (by rw [hl]; omega)] at ho
        have hcap := own_cap ho
        obtain ⟨A', c', e, hr, -⟩ := reads_of_owns ho
        injection e with e1 e2 e3
        subst e1 e3
        refine ⟨HB.out, A, c, by rw [hl], by rw [hl]; exact hcap, by rw [hl]; exact hr⟩
      go_wp2_with fail
      go_ret
      exact HE.out
end Go.Proofs.Ytikabbpipdekfaa
