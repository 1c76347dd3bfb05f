/-
  The log's length and store. No condition.
-/
import Derived.Test.YtnjafhlpnoikcaaLgB
namespace Go.Proofs.Ytnjafhlpnoikcaa
open Go.RowKit
set_option linter.unusedVariables false

theorem be4_cells {n : Nat} (hn : n ≤ 1000000000) : (be4 n).map byt = [.int .u8 ((n : Int) / 16777216), .int .u8 ((n : Int) / 65536 % 256), .int .u8 ((n : Int) / 256 % 256), .int .u8 ((n : Int) % 256)] := by
  have h : n / 16777216 % 256 = n / 16777216 := by omega
  unfold be4 byt
  rw [h]
  simp
set_option maxRecDepth 100000 in
set_option maxHeartbeats 1000000 in
theorem length_any (base k : Nat) (v : Value) (xs : List Value) (n : Nat) (w : World) (hown : w.ownsRow base 5 1 v k xs) (hbase : base ≤ w.heap.size) (hk : k ≤ 1000000000) (hn : n ≤ 1000000000) :
    Calls Try.prog 56 #[v, .int .i64 (n : Int)] w fun e w' => ∃ v', e = .returned v' ∧ w'.ownsRow base 5 1 v' (k + 4) (xs ++ (be4 n).map byt) ∧ Grows w w' v v' := by
  obtain ⟨i0, hi, hz0, hz1, hz2⟩ := info_parts byte_info
  have HO := Lib.hid hown
  have HB := Lib.hid (be4_cells hn)
  clear hown
  go_enter Try.func56, Try.ntmps56
  go_wp2_with (at_builtin; refine wpList_append_row _ rfl (.tmp 5) (.tmp 17) 32 32 rfl base 5 i0 (.int .u8 0) 1 1 Try.underlying32 hi hz0 hz1 hz2 rfl (by decide) v k _ rfl ((HO.out).alloc _) _ 4 _ rfl (src_new _ Try.underlying32 [.int .u8 ((n : Int) / 16777216), .int .u8 ((n : Int) / 65536 % 256), .int .u8 ((n : Int) / 256 % 256), .int .u8 ((n : Int) % 256)] 1 4 4 5 rfl (fun u hu => by simp at hu; rcases hu with rfl | rfl | rfl | rfl <;> rfl)) (by unfold maxLen; omega) (by omega) (by simp; omega) ?_)
  intro v2 w2 hown2 hg2
  rw [← HB.out] at hown2
  have HO2 := Lib.hid hown2
  have HG := Lib.hid ((Grows.of_below v ((Below.refl _ w).alloc (Nat.le_refl _) _)).trans hg2)
  clear hown2 hg2 HO HB
  go_wp2_with fail
  go_ret
  exact ⟨_, rfl, HO2.out, HG.out⟩

/-- what a call on a log's disk leaves: the disk in a new state -/
def StPost (w : World) (d : Nat) (r : Int × DS) (F : Nat → Prop) (e : Ending) (w' : World) : Prop := e = .returned (.int .i64 r.1) ∧ OpPost w d r.2 F w'
theorem OpPost.trans {w w1 w2 : World} {d : Nat} {s1 s2 : DS} {F F1 : Nat → Prop} (h1 : Mine w1 d s1 F1) (hc : Chg w w1 F) (hF : ∀ b, F1 b → F b ∨ w.heap.size ≤ b) (h2 : OpPost w1 d s2 F1 w2) : OpPost w d s2 F w2 := by
  obtain ⟨F2, m2, c2, f2⟩ := h2
  refine ⟨F2, m2, ⟨c2.os.trans hc.os, c2.tape.trans hc.tape, c2.output.trans hc.output, Nat.le_trans hc.size c2.size, fun i hi hn => ?_⟩, fun b hb => ?_⟩
  · refine (c2.block i (Nat.lt_of_lt_of_le hi hc.size) (fun hf => ?_)).trans (hc.block i hi hn)
    rcases hF i hf with h | h
    · exact hn h
    · omega
  · rcases f2 b hb with h | h
    · exact hF b h
    · have := hc.size
      exact .inr (by omega)

set_option maxRecDepth 100000 in
set_option maxHeartbeats 1000000 in
theorem store_any {w : World} {g d : Nat} {l : LS} {s : DS} {F K : Nat → Prop} (a : Int) (A : Option Addr) (c : Nat) (b : List Nat) (hm : Mine w d s F) (h : LogAt w g d l K) (hFK : ∀ i, F i → ¬ K i) (hb : ∀ x ∈ b, x < 256) (hbl : b.length ≤ 1000000000) (hr : Reads w w.heap.size 1 A b.length (b.map byt)) (hA : 0 < b.length → ∀ ad, A = some ad → ¬ F ad.block) :
    Calls Try.prog 55 #[.pointer (some ⟨g, 0, none⟩), .int .i64 a, .slice A b.length c] w (StPost w d (storeS s a b) F) := by
  obtain ⟨v, rs, hx⟩ := h
  have c0 := hx.blk.cell 0
  simp at c0
  have HX := Lib.hid hx
  have hW := write_m d s F a A c b w hm hb hbl hr hA
  have hst : storeS s a b = if (writeS s a b).1 = 0 then syncS (writeS s a b).2 else writeS s a b := rfl
  generalize writeS s a b = r at hW hst
  obtain ⟨x, s1⟩ := r
  simp only at hst hW
  have HW := Lib.hid hW
  have HFK := Lib.hid hFK
  clear hx hr hb hW hFK
  by_cases h0 : x = 0
  · subst h0
    rw [if_pos rfl] at hst
    replace hst := Lib.hid hst
    go_enter Try.func55, Try.ntmps55
    go_wp2_with fail
    refine (HW.out).mono ?_
    rintro e w1 ⟨rfl, F1, m1, k1, f1⟩
    have X1 := Lib.hid ((HX.out).chg k1 (fun b hK hF => HFK.out b hF hK))
    have c01 := (X1.out).blk.cell 0
    simp at c01
    have HY := Lib.hid (sync_m d s1 F1 w1 m1)
    have M1 := Lib.hid m1
    have K1 := Lib.hid k1
    have F1' := Lib.hid f1
    clear c0 m1 k1 f1 HW
    go_wp2_with fail
    refine (HY.out).mono ?_
    rintro e w2 ⟨rfl, ho⟩
    have HO := Lib.hid ho
    clear ho HY
    go_wp2_with fail
    go_ret
    unfold StPost
    rw [hst.out]
    exact ⟨rfl, OpPost.trans (M1.out) (K1.out) (F1'.out) (HO.out)⟩
  · rw [if_neg h0] at hst
    have d0 : (x != 0) = true := by simpa using h0
    replace hst := Lib.hid hst
    go_enter Try.func55, Try.ntmps55
    go_wp2_with fail
    refine (HW.out).mono ?_
    rintro e w1 ⟨rfl, ho⟩
    have HO := Lib.hid ho
    clear ho HW
    go_wp2_with fail
    go_ret
    unfold StPost
    rw [hst.out]
    exact ⟨rfl, HO.out⟩
end Go.Proofs.Ytnjafhlpnoikcaa
