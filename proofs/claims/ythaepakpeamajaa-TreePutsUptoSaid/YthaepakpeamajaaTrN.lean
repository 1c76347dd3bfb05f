/-
  What the laws share: leaf, awake, light. No condition.
-/
import Derived.Test.YthaepakpeamajaaTrM
namespace Go.Proofs.Ythaepakpeamajaa
open Go.RowKit
set_option linter.unusedVariables false

def TreePost (w : World) (T : T) (e : Ending) (w' : World) : Prop := ∃ y : TX, e = .returned y.val ∧ y.plain = T ∧ Tr w' w'.heap.size y ∧ Below w.heap.size w w'

set_option maxRecDepth 100000 in
set_option maxHeartbeats 1600000 in
theorem leaf_any (s : ByteArray) (w : World) : Calls Try.prog 29 #[.string s] w (TreePost w (.node 10 s [⟨#[32]⟩] [])) := by
  have HP : Hid (TreePost w (.node 10 s [⟨#[32]⟩] []) (.returned (.agg #[.int .i64 10, .string s, .slice (some ⟨w.heap.size + 1, 0, none⟩) 1 1, .slice none 0 0])) ((w.alloc (.cells #[.int .i64 10, .string s, .slice (some ⟨w.heap.size + 1, 0, none⟩) 1 1, .slice none 0 0] 25)).alloc (.cells #[.string ⟨#[32]⟩] 9))) := by
    have hb : Blk ((w.alloc (.cells #[.int .i64 10, .string s, .slice (some ⟨w.heap.size + 1, 0, none⟩) 1 1, .slice none 0 0] 25)).alloc (.cells #[.string ⟨#[32]⟩] 9)) (w.heap.size + 1) 9 [Value.string ⟨#[32]⟩].toArray := Blk.new' 9 _ (by simp)
    exact ⟨.node 10 s (some ⟨w.heap.size + 1, 0, none⟩) [⟨#[32]⟩] 1 none [] 0, rfl, by rw [TX.plain_eq]; rfl, .mk _ Reads.none_ (blk_reads hb rfl) (by simp [TX.kids]) (by simp [TX.kids, TX.kc]) (by simp [TX.leads]) (by simp [TX.kind]) (fun k hk => (by simp [TX.kids] at hk)), ((Below.refl _ w).alloc (Nat.le_refl _) _).alloc (by simp) _⟩
  go_enter Try.func29, Try.ntmps29
  go_wp2_with fail
  refine bodyPost_ret (v := .agg #[.int .i64 10, .string s, .slice (some ⟨w.heap.size + 1, 0, none⟩) 1 1, .slice none 0 0]) (by simp [results, Try.results29, go_sem]) rfl ?_
  exact HP.out

theorem two_tree {w : World} {a b : TX} {g : Nat} (ha : Tr w w.heap.size a) (hb : Tr w w.heap.size b) (hg : Blk w g 25 ([a, b].flatMap TX.cells).toArray) : Tr w w.heap.size (.node 21 ⟨#[43]⟩ none [] 0 (some ⟨g, 0, none⟩) [a, b] 2) :=
  .mk _ (blk_reads hg rfl) Reads.none_ (by simp [TX.kids]) (by simp [TX.kids, TX.kc]) (by simp [TX.leads]) (by simp [TX.kind]) (fun k hk => by
    rcases (by simpa [TX.kids] using hk : k = a ∨ k = b) with rfl | rfl
    · exact ha
    · exact hb)
theorem two_size {a b : TX} {s : ByteArray} {A : Option Addr} (ha : a.plain = .node 10 ⟨#[49]⟩ [s] []) (hb : b.plain = .node 10 ⟨#[50]⟩ [s] []) : wrap64 ((TX.node 21 ⟨#[43]⟩ none [] 0 A [a, b] 2).plain.size : Int) = 3 := by
  rw [TX.plain_eq]
  simp [TX.kids, ha, hb, T.size, T.sizes]
  exact IntWalk.wrap64_in 3 (by simp)
theorem two_depth {a b : TX} {s : ByteArray} {A : Option Addr} (ha : a.plain = .node 10 ⟨#[49]⟩ [s] []) (hb : b.plain = .node 10 ⟨#[50]⟩ [s] []) : (TX.node 21 ⟨#[43]⟩ none [] 0 A [a, b] 2).plain.dW = 2 := by
  have h1 : wrap64 (1 : Int) = 1 := IntWalk.wrap64_in 1 (by simp)
  have h2 : wrap64 (2 : Int) = 2 := IntWalk.wrap64_in 2 (by simp)
  rw [TX.plain_eq]
  simp [TX.kids, ha, hb, T.dW, T.dWs, h1]
  exact h2
theorem two_find {a b : TX} {A : Option Addr} : (TX.node 21 ⟨#[43]⟩ none [] 0 A [a, b] 2).find [1] = some b := by
  simp [TX.find, TX.kids]
theorem two_num {a b : TX} {s : ByteArray} {A : Option Addr} (ha : a.plain = .node 10 ⟨#[49]⟩ [s] []) : (TX.node 21 ⟨#[43]⟩ none [] 0 A [a, b] 2).numW [1] = 2 := by
  rw [numW_some two_find]
  have h2 : wrap64 (2 : Int) = 2 := IntWalk.wrap64_in 2 (by simp)
  simp [TX.num, TX.kids, szs, ha, T.size, T.sizes]
  exact h2

set_option maxRecDepth 100000 in
set_option maxHeartbeats 1600000 in
theorem light_any (t : TX) (A : Option Addr) (n c : Nat) (w : World) (h : Tr w w.heap.size t) (hn : n ≤ 140737488351232) : Calls Try.prog 9 #[t.val, .slice A n c] w (Ret w (.bool (decide (wrap64 (t.plain.size : Int) ≤ 300) && decide (n ≤ 100)))) := by
  obtain ⟨W, hW⟩ : ∃ W, w.alloc (.cells #[.int .i64 t.kind, .string t.text, .slice t.lA t.leads.length t.lc, .slice t.kA t.kids.length t.kc] 25) = W := ⟨_, rfl⟩
  have HBW : Hid (Below w.heap.size w W) := by subst hW; exact (Below.refl _ w).alloc (Nat.le_refl _) _
  have HX : Hid (Blk W w.heap.size 25 t.arr) := by subst hW; exact Blk.new w 25 _
  have d0 := HX.out.cell 0
  have d1 := HX.out.cell 1
  have d2 := HX.out.cell 2
  have d3 := HX.out.cell 3
  simp [TX.arr] at d0 d1 d2 d3
  have HC := Lib.hid (rsize_any t W (h.up (Nat.le_refl _) HBW.out))
  unfold SizeAt TX.val at HC
  unfold TX.val
  obtain ⟨m, hm⟩ : ∃ m, wrap64 (t.plain.size : Int) = m := ⟨_, rfl⟩
  rw [hm] at HC ⊢
  have HM := Lib.hid hm
  clear h hm
  by_cases h1 : m ≤ 300
  · have e1 : decide (m ≤ 300) = true := by simpa using h1
    by_cases h2 : n ≤ 100
    · have e2 : decide (n ≤ 100) = true := by simpa using h2
      have e3 : decide ((n : Int) ≤ 100) = true := by simp; omega
      go_enter Try.func9, Try.ntmps9
      go_wp2_with fail
      refine (HC.out).mono ?_
      rintro e w1 ⟨rfl, hb1⟩
      have HB1 := Lib.hid (HBW.out.trans (hb1.mono HBW.out.size))
      clear hb1
      go_wp2_with fail
      go_ret
      exact ⟨by rw [e1, e2]; rfl, HB1.out⟩
    · have e2 : decide (n ≤ 100) = false := by simpa using h2
      have e3 : decide ((n : Int) ≤ 100) = false := by simp; omega
      go_enter Try.func9, Try.ntmps9
      go_wp2_with fail
      refine (HC.out).mono ?_
      rintro e w1 ⟨rfl, hb1⟩
      have HB1 := Lib.hid (HBW.out.trans (hb1.mono HBW.out.size))
      clear hb1
      go_wp2_with fail
      go_ret
      exact ⟨by rw [e1, e2]; rfl, HB1.out⟩
  · have e1 : decide (m ≤ 300) = false := by simpa using h1
    go_enter Try.func9, Try.ntmps9
    go_wp2_with fail
    refine (HC.out).mono ?_
    rintro e w1 ⟨rfl, hb1⟩
    have HB1 := Lib.hid (HBW.out.trans (hb1.mono HBW.out.size))
    clear hb1
    go_wp2_with fail
    go_ret
    exact ⟨by rw [e1]; rfl, HB1.out⟩
end Go.Proofs.Ythaepakpeamajaa
