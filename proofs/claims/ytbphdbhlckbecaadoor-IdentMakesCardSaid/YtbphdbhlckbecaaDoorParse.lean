/-
  The id of a text: the program's Parse. No condition.
-/
import Derived.Test.YtbphdbhlckbecaaDoorFormat
namespace Go.Proofs.YtbphdbhlckbecaaDoor
open Go.RowKit
set_option linter.unusedVariables false

/-- the number whose digits a text begins with (at most 2^20), and how many they are -/
def runD : List UInt8 → Nat → Nat × Nat
  | [], n => (n, 0)
  | c :: r, n => if 48 ≤ c.toNat ∧ c.toNat ≤ 57 then ((runD r (min (10 * n + (c.toNat - 48)) 1048576)).1, (runD r (min (10 * n + (c.toNat - 48)) 1048576)).2 + 1) else (n, 0)

theorem runD_len : ∀ (l : List UInt8) (n : Nat), (runD l n).2 ≤ l.length
  | [], n => by simp [runD]
  | c :: r, n => by
    rw [runD]
    split
    · have := runD_len r (min (10 * n + (c.toNat - 48)) 1048576); simp; omega
    · simp
theorem runD_le : ∀ (l : List UInt8) (n : Nat), n ≤ 1048576 → (runD l n).1 ≤ 1048576
  | [], n, h => by simpa [runD] using h
  | c :: r, n, h => by
    rw [runD]
    split
    · exact runD_le r _ (Nat.min_le_right _ _)
    · exact h

theorem drop_at (s : ByteArray) (k : Nat) (h : k < s.size) : s.data.toList.drop k = s[k] :: s.data.toList.drop (k + 1) := by
  have hk : k < s.data.toList.length := by simpa using h
  rw [List.drop_eq_getElem_cons hk]
  rfl
theorem drop_end (s : ByteArray) (k : Nat) (h : ¬ k < s.size) : s.data.toList.drop k = [] := by
  apply List.drop_eq_nil_of_le
  rw [Array.length_toList]
  show s.size ≤ k
  omega

def RunRel (s : ByteArray) (p j m : Nat) : Prop := (runD (s.data.toList.drop p) 0) = ((runD (s.data.toList.drop (p + j)) m).1, j + (runD (s.data.toList.drop (p + j)) m).2)

theorem RunRel.stop {s : ByteArray} {p j m : Nat} (h : RunRel s p j m) (hx : ∀ c r, s.data.toList.drop (p + j) = c :: r → ¬ (48 ≤ c.toNat ∧ c.toNat ≤ 57)) : runD (s.data.toList.drop p) 0 = (m, j) := by
  rw [h]
  cases hd : s.data.toList.drop (p + j) with
  | nil => simp [runD]
  | cons c r => rw [runD, if_neg (hx c r hd)]; rfl
theorem RunRel.step {s : ByteArray} {p j m : Nat} (h : RunRel s p j m) (hk : p + j < s.size) (hx : 48 ≤ s[p + j].toNat ∧ s[p + j].toNat ≤ 57) : RunRel s p (j + 1) (min (10 * m + (s[p + j].toNat - 48)) 1048576) := by
  unfold RunRel at *
  rw [h, drop_at s (p + j) hk, runD, if_pos hx]
  simp only [Prod.mk.injEq]
  refine ⟨rfl, ?_⟩
  show j + (_ + 1) = j + 1 + _
  rw [Nat.add_assoc p j 1]
  omega

set_option maxRecDepth 100000 in
set_option maxHeartbeats 400000 in
theorem number_any (s : ByteArray) (p : Nat) (w : World) (hs : s.size ≤ 9223372036854775806) (hp : p ≤ s.size) :
    Calls Tryd.prog 25 #[.string s, .int .i64 (p : Int)] w fun e w' => e = .returned (.tuple #[.int .i64 ((runD (s.data.toList.drop p) 0).1 : Int), .int .i64 (p + (runD (s.data.toList.drop p) 0).2 : Int)]) ∧ w = w' := by
  have HST : Hid (RunRel s p 0 0) := by show RunRel s p 0 0; unfold RunRel; simp
  go_enter Tryd.func25, Tryd.ntmps25
  go_wp2_with fail
  go_loop [1, 6] (fun a n => ∃ j m : Nat, p + j ≤ s.size ∧ m ≤ 1048576 ∧ a = .int .i64 ((p : Int) + (j : Int)) ∧ n = .int .i64 (m : Int) ∧ RunRel s p j m) (fun a _ => s.size - (intOf a).toNat)
  case atStart => exact ⟨0, 0, by omega, by omega, by go_num, rfl, HST⟩
  case round =>
    obtain ⟨j, m, hj, hm, rfl, rfl, hrr⟩ := hrel
    have HR := Lib.hid hrr
    clear hrr
    by_cases hk : p + j < s.size
    · by_cases hdig : 48 ≤ s[p + j].toNat ∧ s[p + j].toNat ≤ 57
      · have HS := Lib.hid (HR.out.step hk hdig)
        go_wp2_with fail
        go_round
        case rel => exact ⟨j + 1, _, by omega, Nat.min_le_right _ _, congrArg (Value.int .i64) (by omega), congrArg (Value.int .i64) (by omega), HS.out⟩
        case measure => simp [intOf]; omega
      · have HF := Lib.hid (HR.out.stop (fun c r hd => by
          rw [drop_at s _ hk] at hd
          injection hd with h1 _
          rw [← h1]
          exact hdig))
        go_wp2_with fail
        all_goals go_ret2
        all_goals rw [HF.out]
        all_goals exact ⟨rfl, rfl⟩
    · have HF := Lib.hid (HR.out.stop (fun c r hd => by rw [drop_end s _ hk] at hd; cases hd))
      go_wp2_with fail
      go_ret2
      rw [HF.out]
      exact ⟨rfl, rfl⟩
theorem ba_eq {a b : ByteArray} (h : a.toList = b.toList) : a = b := by
  rw [ByteArray.toList_eq, ByteArray.toList_eq] at h
  cases a; cases b
  simpa using h
theorem beq_text {a b : ByteArray} : (a.toList == b.toList) = decide (a = b) := by
  rw [Bool.eq_iff_iff, beq_iff_eq, decide_eq_true_eq]
  exact ⟨ba_eq, fun h => by rw [h]⟩

/-- what is made of two numbers, if that has the text -/
noncomputable def fin (s : ByteArray) (a b : Int) : Int × Int := if partsB a b = true ∧ fmtI (makeI a b) = s then (makeI a b, 0) else (0, 13)

/-- the program's Parse -/
noncomputable def parseP (s : ByteArray) : Int × Int :=
  if ∃ h : (runD s.data.toList 0).2 < s.size, s[(runD s.data.toList 0).2] = 46 then
    if (runD s.data.toList 0).2 + 1 + (runD (s.data.toList.drop ((runD s.data.toList 0).2 + 1)) 0).2 = s.size then fin s (runD s.data.toList 0).1 (runD (s.data.toList.drop ((runD s.data.toList 0).2 + 1)) 0).1 else (0, 13)
  else (0, 13)

theorem make_valid {a b : Int} (h : partsB a b = true) : makeE a b = 0 ∧ validB (makeI a b) = true ∧ (makeI a b) / 1048576 = a ∧ (makeI a b) % 1048576 = b := by
  have hp : 1 ≤ a ∧ a ≤ 32 ∧ 1 ≤ b ∧ b ≤ 1048575 := by unfold partsB at h; rwa [decide_eq_true_eq] at h
  have e1 : makeI a b = a * 1048576 + b := by unfold makeI; rw [h]; rfl
  have e2 : makeE a b = 0 := by unfold makeE; rw [h]; rfl
  rw [e1, e2]
  exact ⟨rfl, valid_iff.2 (by omega), by omega, by omega⟩

set_option maxRecDepth 100000 in
set_option maxHeartbeats 1000000 in
theorem parse_any (s : ByteArray) (w : World) (hs : s.size ≤ 9223372036854775806) (ht : Tab w) :
    Calls Tryd.prog 18 #[.string s] w fun e w' => e = .returned (.tuple #[.int .i64 (parseP s).1, .int .i64 (parseP s).2]) ∧ Below w.heap.size w w' := by
  obtain ⟨a, k, hr1⟩ : ∃ a k, runD s.data.toList 0 = (a, k) := ⟨_, _, rfl⟩
  have h1 := number_any s 0 w hs (by omega)
  have hk := runD_len s.data.toList 0
  have hm := runD_le s.data.toList 0 (by omega)
  have hsl : s.data.toList.length = s.size := by rw [Array.length_toList]; rfl
  rw [hsl, hr1] at hk
  rw [hr1] at hm
  simp only at hk hm
  rw [List.drop_zero, hr1] at h1
  have h1' : Calls Tryd.prog 25 #[.string s, .int .i64 0] w fun e w' => e = .returned (.tuple #[.int .i64 (a : Int), .int .i64 (k : Int)]) ∧ w = w' := by
    refine h1.mono ?_
    rintro e w' ⟨rfl, h⟩
    exact ⟨by simp, h⟩
  have H1 := Lib.hid h1'
  have HT := Lib.hid ht
  clear h1 h1' hsl ht
  by_cases hks : k < s.size
  case neg =>
    have hfin : parseP s = (0, 13) := by unfold parseP; rw [if_neg (by rw [hr1]; rintro ⟨h, _⟩; exact hks h)]
    rw [hfin]
    clear hfin hr1
    go_enter Tryd.func18, Tryd.ntmps18
    go_wp2_with fail
    refine (H1.out).mono ?_
    rintro e w1 ⟨rfl, rfl⟩
    clear H1
    go_wp2_with fail
    go_ret2
    exact ⟨rfl, Below.refl _ _⟩
  by_cases hdot : s[k] = 46
  case neg =>
    have hfin : parseP s = (0, 13) := by unfold parseP; rw [if_neg (by simp only [hr1]; rintro ⟨h, h'⟩; exact hdot h')]
    rw [hfin]
    have hd : (((s[k].toNat : Nat) : Int) != 46) = true := by
      rw [bne_iff_ne]
      intro h
      apply hdot
      apply UInt8.toNat_inj.1
      show s[k].toNat = 46
      omega
    clear hfin hr1 hdot
    go_enter Tryd.func18, Tryd.ntmps18
    go_wp2_with fail
    refine (H1.out).mono ?_
    rintro e w1 ⟨rfl, rfl⟩
    clear H1
    go_wp2_with fail
    go_ret2
    exact ⟨rfl, Below.refl _ _⟩
  have hd : (((s[k].toNat : Nat) : Int) != 46) = false := by rw [hdot]; rfl
  obtain ⟨b, k2, hr2⟩ : ∃ b k2, runD (s.data.toList.drop (k + 1)) 0 = (b, k2) := ⟨_, _, rfl⟩
  have h2 := number_any s (k + 1) w hs (by omega)
  have hk2 := runD_len (s.data.toList.drop (k + 1)) 0
  have hm2 := runD_le (s.data.toList.drop (k + 1)) 0 (by omega)
  have hsl : s.data.toList.length = s.size := by rw [Array.length_toList]; rfl
  rw [List.length_drop, hsl, hr2] at hk2
  rw [hr2] at hm2
  simp only at hk2 hm2
  rw [hr2] at h2
  have h2' : Calls Tryd.prog 25 #[.string s, .int .i64 ((k : Int) + 1)] w fun e w' => e = .returned (.tuple #[.int .i64 (b : Int), .int .i64 ((k : Int) + 1 + (k2 : Int))]) ∧ w = w' := by
    refine h2.mono ?_
    rintro e w' ⟨rfl, h⟩
    exact ⟨by simp, h⟩
  have H2 := Lib.hid h2'
  have hp1 : parseP s = if k + 1 + k2 = s.size then fin s a b else (0, 13) := by
    unfold parseP
    rw [if_pos (by simp only [hr1]; exact ⟨hks, hdot⟩), hr1]
    simp only
    rw [hr2]
  clear h2 h2' hsl hr1 hr2
  by_cases hend : k + 1 + k2 = s.size
  case neg =>
    rw [if_neg hend] at hp1
    rw [hp1]
    have he : ((k : Int) + 1 + (k2 : Int) != (s.size : Int)) = true := by rw [bne_iff_ne]; omega
    clear hp1 hend hdot
    go_enter Tryd.func18, Tryd.ntmps18
    go_wp2_with fail
    refine (H1.out).mono ?_
    rintro e w1 ⟨rfl, rfl⟩
    go_wp2_with fail
    refine (H2.out).mono ?_
    rintro e w1 ⟨rfl, rfl⟩
    clear H1 H2
    go_wp2_with fail
    go_ret2
    exact ⟨rfl, Below.refl _ _⟩
  rw [if_pos hend] at hp1
  have he : ((k : Int) + 1 + (k2 : Int) != (s.size : Int)) = false := by
    rw [bne_eq_false_iff_eq]; omega
  have H3 := Lib.hid (make_any (a : Int) (b : Int) w)
  by_cases hpt : partsB (a : Int) (b : Int) = true
  case neg =>
    have hp2 : fin s a b = (0, 13) := by unfold fin; rw [if_neg (fun h => hpt h.1)]
    rw [hp1, hp2]
    have e1 : makeE (a : Int) (b : Int) = 5 := by unfold makeE; rw [if_neg hpt]
    rw [e1] at H3
    generalize makeI (a : Int) (b : Int) = id at H3
    clear hp1 hp2 hend hdot hpt e1
    go_enter Tryd.func18, Tryd.ntmps18
    go_wp2_with fail
    refine (H1.out).mono ?_
    rintro e w1 ⟨rfl, rfl⟩
    go_wp2_with fail
    refine (H2.out).mono ?_
    rintro e w1 ⟨rfl, rfl⟩
    clear H1 H2
    go_wp2_with fail
    refine (H3.out).mono ?_
    rintro e w1 ⟨rfl, rfl⟩
    clear H3
    go_wp2_with fail
    go_ret2
    exact ⟨rfl, Below.refl _ _⟩
  obtain ⟨e1, e2, -, -⟩ := make_valid hpt
  rw [e1] at H3
  have hfin : fin s a b = if fmtI (makeI (a : Int) (b : Int)) = s then (makeI (a : Int) (b : Int), 0) else (0, 13) := by
    unfold fin
    by_cases h : fmtI (makeI (a : Int) (b : Int)) = s
    · rw [if_pos ⟨hpt, h⟩, if_pos h]
    · rw [if_neg (fun hh => h hh.2), if_neg h]
  rw [hp1, hfin]
  generalize makeI (a : Int) (b : Int) = id at H3 ⊢
  have H4 := Lib.hid (format_any id w HT.out)
  have hbt := beq_text (a := fmtI id) (b := s)
  clear hp1 hfin hend hdot hpt e1 e2
  generalize fmtI id = tx at H4 hbt ⊢
  by_cases heq : tx = s
  · rw [if_pos heq]
    have hb2 : (tx.toList == s.toList) = true := by rw [hbt]; simpa using heq
    clear hbt heq
    go_enter Tryd.func18, Tryd.ntmps18
    go_wp2_with fail
    refine (H1.out).mono ?_
    rintro e w1 ⟨rfl, rfl⟩
    go_wp2_with fail
    refine (H2.out).mono ?_
    rintro e w1 ⟨rfl, rfl⟩
    clear H1 H2
    go_wp2_with fail
    refine (H3.out).mono ?_
    rintro e w1 ⟨rfl, rfl⟩
    clear H3
    go_wp2_with fail
    refine (H4.out).mono ?_
    rintro e w1 ⟨rfl, hb⟩
    have HB := Lib.hid hb
    clear H4 hb
    go_wp2_with fail
    go_ret2
    exact ⟨rfl, HB.out⟩
  · rw [if_neg heq]
    have hb2 : (tx.toList == s.toList) = false := by rw [hbt]; simpa using heq
    clear hbt heq
    go_enter Tryd.func18, Tryd.ntmps18
    go_wp2_with fail
    refine (H1.out).mono ?_
    rintro e w1 ⟨rfl, rfl⟩
    go_wp2_with fail
    refine (H2.out).mono ?_
    rintro e w1 ⟨rfl, rfl⟩
    clear H1 H2
    go_wp2_with fail
    refine (H3.out).mono ?_
    rintro e w1 ⟨rfl, rfl⟩
    clear H3
    go_wp2_with fail
    refine (H4.out).mono ?_
    rintro e w1 ⟨rfl, hb⟩
    have HB := Lib.hid hb
    clear H4 hb
    go_wp2_with fail
    go_ret2
    exact ⟨rfl, HB.out⟩
end Go.Proofs.YtbphdbhlckbecaaDoor
