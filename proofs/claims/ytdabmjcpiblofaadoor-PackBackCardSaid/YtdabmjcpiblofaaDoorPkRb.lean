/-
  grow: the tree's literal, in whatever order. No condition.
-/
import Derived.Test.YtdabmjcpiblofaaDoorPkR
import Derived.Test.YtdabmjcpiblofaaDoorInv
namespace Go.Proofs.YtdabmjcpiblofaaDoor
open Go.RowKit
set_option linter.unusedVariables false

/-- the frame, with the yields of the literal's operations -/
def gAct (ab ao n c a w0 g8 : Nat) (D : Int) (x : ND) (v : Nat → Value) : Act :=
  { tmps := #[.slice (some ⟨ab, ao, none⟩) n c, .int .i64 (a : Int), .int .i64 D, undef, undef, undef, .pointer (some ⟨w0, 0, none⟩), .int .i64 0, .pointer (some ⟨g8, 0, none⟩), v 11, undef, undef, .slice (some ⟨ab, ao, none⟩) n c, .int .i64 (a : Int), .pointer (some ⟨ab, ao + a * 3, none⟩), .agg #[.int .i64 x.1, .int .i64 x.2.1, .int .i64 x.2.2], v 0, v 1, v 2, v 3, v 4, v 5, v 6, v 7, v 8, v 9, v 10, undef, undef, undef, undef, undef, undef, undef, undef, undef, undef, undef, undef, undef, undef, undef, undef, undef, undef, undef, undef, undef, undef, undef, undef, undef, undef, undef, undef, undef, undef, undef, undef, undef, undef, undef, undef, undef, undef, undef, undef, undef], defers := [] }
def finT (x : ND) : Array Value := #[.int .i64 (x.1 % 3), .string (ndText x), .slice none 0 0, .slice none 0 0]
def GF (wB wr : World) (g8 : Nat) (x : ND) (l12 : Bool) (i : Nat) (u : Value) : Prop :=
  match i with
  | 0 => u = .pointer (some ⟨g8, 0, none⟩)
  | 1 => u = .int .i64 x.1
  | 2 => u = .int .i64 (x.1 % 3)
  | 3 => u = .pointer (some ⟨g8, 1, none⟩)
  | 4 => u = .int .i64 x.2.1
  | 5 => u = .int .i64 (x.2.1 % 2)
  | 6 => u = .int .i64 (97 + x.2.1 % 2)
  | 7 => u = .int .u8 (97 + x.2.1 % 2)
  | 8 => ∃ g, u = .slice (some ⟨g, 0, none⟩) 1 1 ∧ Blk wr g 5 #[.int .u8 (97 + x.2.1 % 2)] ∧ wB.heap.size ≤ g
  | 9 => u = .string (ndText x)
  | 10 => u = .agg (finT x)
  | 11 => ∃ g, u = .pointer (some ⟨g, 0, none⟩) ∧ wB.heap.size ≤ g ∧ Blk wr g 42 (if l12 then finT x else zeroT)
  | _ => True
theorem GF.below {wB wr w' : World} {g8 : Nat} {x : ND} {l12 : Bool} {i : Nat} {u : Value} (h : GF wB wr g8 x l12 i u) (hb : Below wr.heap.size wr w') : GF wB w' g8 x l12 i u := by
  unfold GF at h ⊢
  split at h
  all_goals first
    | exact h
    | (obtain ⟨g, e, hk, hg⟩ := h; exact ⟨g, e, hk.below hb hk.lt, hg⟩)
    | (obtain ⟨g, e, hg, hk⟩ := h; exact ⟨g, e, hg, hk.below hb hk.lt⟩)
/-- what is known whatever has run -/
def GI (wB : World) (ab ao n c a w0 g8 : Nat) (D : Int) (x : ND) (listed : Array Bool) (act : Act) (wr : World) : Prop :=
  listed.size = 13 ∧ (listed.getD 12 false = true → listed.getD 11 false = true) ∧ ∃ v, act = gAct ab ao n c a w0 g8 D x v ∧ Below wB.heap.size wB wr ∧ ∀ i, i < 12 → listed.getD i false = true → GF wB wr g8 x (listed.getD 12 false) i (v i)
theorem GI.step {wB wr w' : World} {ab ao n c a w0 g8 : Nat} {D : Int} {x : ND} {listed : Array Bool} {v : Nat → Value} {i : Nat} {u : Value} (hs : listed.size = 13) (h12 : listed.getD 12 false = true → listed.getD 11 false = true) (hb0 : Below wB.heap.size wB wr) (hf : ∀ i, i < 12 → listed.getD i false = true → GF wB wr g8 x (listed.getD 12 false) i (v i))
    (hi : i < 12) (hb : Below wr.heap.size wr w') (hu : GF wB w' g8 x (listed.getD 12 false) i u) : GI wB ab ao n c a w0 g8 D x (listed.setIfInBounds i true) (gAct ab ao n c a w0 g8 D x (upd v i u)) w' := by
  have e12 : (listed.setIfInBounds i true).getD 12 false = listed.getD 12 false := by rw [getD_set _ _ _ _ (by omega), if_neg (by omega)]
  refine ⟨by simpa using hs, fun h => ?_, upd v i u, rfl, hb0.trans (hb.mono hb0.size), fun j hj hl => ?_⟩
  · rw [e12] at h
    rw [getD_set _ _ _ _ (by omega)]
    split
    · rfl
    · exact h12 h
  · rw [e12]
    by_cases e : j = i
    · subst e; rw [upd_same]; exact hu
    · rw [upd_ne _ _ e]
      rw [getD_set _ _ _ _ (by omega), if_neg e] at hl
      exact (hf j hj hl).below hb
theorem u8_char (r : Int) (h0 : 0 ≤ r) (h1 : r ≤ 1) : IntKind.u8.wrap (97 + r) = 97 + r := by
  rcases (show r = 0 ∨ r = 1 by omega) with rfl | rfl <;> rfl
theorem conv_text {w : World} {g : Nat} {x : ND} (h : Blk w g 5 #[.int .u8 (97 + x.2.1 % 2)]) : (convert 54 9 (.slice (some ⟨g, 0, none⟩) 1 1)).run Tryd.prog w = .ok (.string (ndText x)) w := by
  have e : Value.int .u8 (97 + x.2.1 % 2) = byt (97 + (x.2.1 % 2).toNat) := by
    unfold byt
    congr 1
    omega
  rw [e] at h
  have hr : Reads w w.heap.size 1 (some ⟨g, 0, none⟩) 1 ([97 + (x.2.1 % 2).toNat].map byt) := blk_reads (xs := [byt (97 + (x.2.1 % 2).toNat)]) h rfl
  exact run_bytes_str w 54 9 5 1 Tryd.underlying54 Tryd.underlying5 Tryd.underlying9 hr (fun y hy => by simp at hy; omega)
end Go.Proofs.YtdabmjcpiblofaaDoor
