/-
  size, and the bytes that the two Commits return. No condition.
-/
import Derived.Test.YtnnclopojiegfaaCmA
namespace Go.Proofs.Ytnnclopojiegfaa
open Go.RowKit
set_option linter.unusedVariables false

def sumC (l : List CX) : Nat := (l.map fun x => x.c.size).sum
theorem sumC_take {l : List CX} {k : Nat} {x : CX} (h : l[k]? = some x) : sumC (l.take (k + 1)) = sumC (l.take k) + x.c.size := by
  unfold sumC
  rw [List.take_add_one, h]
  simp
theorem sumC_le (l : List CX) (k : Nat) : sumC (l.take k) ≤ sumC l := by
  have e : sumC l = sumC (l.take k) + sumC (l.drop k) := by
    unfold sumC
    rw [← List.sum_append, ← List.map_append, List.take_append_drop]
  omega
theorem sumC_mem {l : List CX} {x : CX} (h : x ∈ l) : x.c.size ≤ sumC l := by
  induction l with
  | nil => cases h
  | cons y ys ih =>
    have e : sumC (y :: ys) = y.c.size + sumC ys := by unfold sumC; simp
    rcases List.mem_cons.1 h with rfl | h
    · omega
    · have := ih h; omega
theorem sumS_take {l : List WCell} {k : Nat} {x : WCell} (h : l[k]? = some x) : sumSizes (l.take (k + 1)) = sumSizes (l.take k) + x.text.size := by
  unfold sumSizes
  rw [List.take_add_one, h]
  simp [WCell.size]

def SizePost (w : World) (n : Nat) (xs : List CX) (e : Ending) (w' : World) : Prop := ∃ m q : Nat, e = .returned (.int .i64 (m : Int)) ∧ (m < 5000 → m = n + sumC xs) ∧ m ≤ 1000000000000000 ∧ w' = w.drewN q
set_option maxRecDepth 100000 in
set_option maxHeartbeats 3200000 in
theorem size_any (A : Option Addr) (n cp : Nat) (xs : List CX) (w : World) (hn : n ≤ 140737488351232) (h : Coms w A n xs) :
    Calls Try.prog 14 #[.slice A n cp] w (SizePost w n xs) := by
  have H := Lib.hid h
  have HL := Lib.hid h.len
  clear h
  go_enter Try.func14, Try.ntmps14
  go_wp2_with fail
  go_loopw [3, 4] (fun s i wr => ∃ (k m q : Nat), k ≤ n ∧ i = .int .i64 (k : Int) ∧ s = .int .i64 (m : Int) ∧ Hid (m < 5000 → m = n + sumC (xs.take k)) ∧ m ≤ 1000000000000000 ∧ wr = w.drewN q) (fun _ i _ => n - (intOf i).toNat)
  case atStart => exact ⟨0, n, 0, by omega, rfl, rfl, (fun _ => by simp [sumC]), by omega, rfl⟩
  case round =>
    obtain ⟨k, m, q, hk, rfl, rfl, HM, hm, rfl⟩ := hrel
    by_cases hlt : k < n
    · have d1 : decide (k < n) = true := by simpa using hlt
      by_cases h5 : m < 5000
      · have d2 : decide ((m : Int) < 5000) = true := by simp; omega
        obtain ⟨x, hx⟩ : ∃ x, xs[k]? = some x := ⟨_, List.getElem?_eq_getElem (by rw [HL.out]; exact hlt)⟩
        obtain ⟨ab, ao, rfl, hab, c0, c1, c2, c3, c4⟩ := coms_at H.out hx
        have hg := H.out.good x (List.mem_of_getElem? hx)
        have HG := Lib.hid hg
        have b1 := hg.l1
        have b2 := hg.l2
        have b3 := hg.l3
        have b4 := hg.l4
        have HS := Lib.hid (sumC_take hx)
        obtain ⟨p1, hp1⟩ : ∃ p, x.c.parents.length = p := ⟨_, rfl⟩
        obtain ⟨p2, hp2⟩ : ∃ p, x.c.picks.length = p := ⟨_, rfl⟩
        obtain ⟨p3, hp3⟩ : ∃ p, x.c.writes.length = p := ⟨_, rfl⟩
        obtain ⟨p4, hp4⟩ : ∃ p, x.c.note.size = p := ⟨_, rfl⟩
        have HZ : Hid (x.c.size = p1 + p2 + p4 + p3 + sumSizes x.c.writes) := by unfold Hid WCommit.size; rw [hp1, hp2, hp3, hp4]
        have HP3 := Lib.hid hp3
        rw [hp1] at c1 b1
        rw [hp2] at c2 b2
        rw [hp3] at c4 b3
        rw [hp4] at b4
        have HM1 : Hid (m = n + sumC (xs.take k)) := HM.out h5
        have s1 : IntKind.i64.wrap ((p1 : Int) + (p2 : Int)) = (p1 : Int) + (p2 : Int) := IntWalk.i64_in _ (by omega)
        have s2 : IntKind.i64.wrap ((p1 : Int) + (p2 : Int) + (p4 : Int)) = (p1 : Int) + (p2 : Int) + (p4 : Int) := IntWalk.i64_in _ (by omega)
        have s3 : IntKind.i64.wrap ((p1 : Int) + (p2 : Int) + (p4 : Int) + (p3 : Int)) = (p1 : Int) + (p2 : Int) + (p4 : Int) + (p3 : Int) := IntWalk.i64_in _ (by omega)
        have s4 : IntKind.i64.wrap ((m : Int) + ((p1 : Int) + (p2 : Int) + (p4 : Int) + (p3 : Int))) = ((m + (p1 + p2 + p4 + p3) : Nat) : Int) := by rw [IntWalk.i64_in _ (by omega)]; omega
        clear hg hp1 hp2 hp3 hx c0 HM
        go_wp2_with fail
        go_quiet (fail)
        clear s1 s2 s3 s4 hp4 d2
        go_wp2_with fail
        go_loopw [3, 5] (fun s i wr => ∃ (j m' q' : Nat), j ≤ p3 ∧ i = .int .i64 (j : Int) ∧ s = .int .i64 (m' : Int) ∧ Hid (m' < 5000 → m' = m + (p1 + p2 + p4 + p3) + sumSizes (x.c.writes.take j)) ∧ m' ≤ 1000000000000000 ∧ wr = w.drewN q') (fun _ i _ => p3 - (intOf i).toNat)
        case atStart => exact ⟨0, m + (p1 + p2 + p4 + p3), q + nq, by omega, rfl, rfl, (fun _ => by simp [sumSizes]), by omega, by simp⟩
        case round =>
          obtain ⟨j, m', q', hj, rfl, rfl, HM', hm', rfl⟩ := hrel
          by_cases hjl : j < p3
          · have e1 : decide (j < p3) = true := by simpa using hjl
            by_cases h6 : m' < 5000
            · have e2 : decide ((m' : Int) < 5000) = true := by simp; omega
              obtain ⟨y, hy⟩ : ∃ y, x.c.writes[j]? = some y := ⟨_, List.getElem?_eq_getElem (by rw [HP3.out]; exact hjl)⟩
              have hyl := HG.out.l5 y (List.mem_of_getElem? hy)
              have h3 := HG.out.r3
              rw [HP3.out] at h3
              obtain ⟨yb, yo, hyA, hyb, hyc⟩ := h3.head (by omega) (by omega)
              have y4 := hyc _ _ (flat6 x.c.writes j 4 y (.string y.text) hy rfl (by omega))
              have c4' := c4
              rw [hyA] at c4'
              simp only [← Nat.add_assoc] at y4
              have HS2 := Lib.hid (sumS_take hy)
              have HM2 : Hid (m' = m + (p1 + p2 + p4 + p3) + sumSizes (x.c.writes.take j)) := HM'.out h6
              obtain ⟨tl, htl⟩ : ∃ tl, y.text.size = tl := ⟨_, rfl⟩
              rw [htl] at hyl HS2
              clear hyA hyc h3 hy HM' c4
              go_wp2_with fail
              go_roundw
              case rel => exact ⟨j + 1, m' + tl, q', by omega, by go_num, by go_num, (fun _ => by have h1 := HM2.out; have h2 := HS2.out; omega), by omega, rfl⟩
              case measure => simp [intOf]; omega
            · have e2 : decide ((m' : Int) < 5000) = false := by simp; omega
              have HE : Hid (m' < 5000 → m' = n + sumC (xs.take (k + 1))) := fun h => absurd h h6
              go_wp2_with fail
              go_roundw
              case rel => exact ⟨k + 1, m', q', by omega, by go_num, rfl, HE, hm', rfl⟩
              case measure => simp [intOf]; omega
          · obtain rfl : j = p3 := by omega
            have e1 : decide (j < j) = false := by simp
            have HE : Hid (m' < 5000 → m' = n + sumC (xs.take (k + 1))) := fun h => by
              have h2 := HM'.out h
              rw [List.take_of_length_le (by rw [HP3.out]; omega)] at h2
              have h3 := HS.out
              have h4 := HZ.out
              have h5 := HM1.out
              omega
            go_wp2_with fail
            go_roundw
            case rel => exact ⟨k + 1, m', q', by omega, by go_num, rfl, HE, hm', rfl⟩
            case measure => simp [intOf]; omega
      · have d2 : decide ((m : Int) < 5000) = false := by simp; omega
        have HE : Hid (m < 5000 → m = n + sumC xs) := fun h => absurd h h5
        go_wp2_with fail
        go_ret
        exact ⟨m, q, rfl, HE.out, hm, rfl⟩
    · obtain rfl : k = n := by omega
      have d1 : decide (k < k) = false := by simp
      have HE : Hid (m < 5000 → m = k + sumC xs) := fun h => by
        have h2 := HM.out h
        rw [List.take_of_length_le (by rw [HL.out]; omega)] at h2
        exact h2
      go_wp2_with fail
      go_ret
      exact ⟨m, q, rfl, HE.out, hm, rfl⟩
end Go.Proofs.Ytnnclopojiegfaa
