/-
  small: how large acts are. No condition.
-/
import Derived.Test.YtgblcjoalgckkaaDkW
namespace Go.Proofs.Ytgblcjoalgckkaa
open Go.RowKit
set_option linter.unusedVariables false

def szA (x : ActX) : Nat := 1 + x.bs.length + x.ks.length
def sumA (xs : List ActX) : Nat := (xs.map szA).sum
theorem sum_take_succ {xs : List ActX} {k : Nat} {x : ActX} (h : xs[k]? = some x) : sumA (xs.take (k + 1)) = sumA (xs.take k) + szA x := by
  obtain ⟨hk, rfl⟩ := List.getElem?_eq_some_iff.1 h
  unfold sumA
  rw [List.take_succ_eq_append_getElem hk, List.map_append, List.sum_append]
  simp
theorem sum_take_le (xs : List ActX) (k : Nat) : sumA (xs.take k) ≤ sumA xs := by
  have h : sumA xs = sumA (xs.take k) + sumA (xs.drop k) := by
    unfold sumA
    rw [← List.sum_append, ← List.map_append, List.take_append_drop]
  omega
theorem acts_at {w : World} {A : Option Addr} {n : Nat} {xs : List ActX} (h : Acts w A n xs) {k : Nat} {x : ActX} (hk : xs[k]? = some x) : ∃ ab ao, A = some ⟨ab, ao, none⟩ ∧ ab < w.heap.size ∧ w.cell? ⟨ab, ao + k * 5, none⟩ = some (.int .i64 x.kind) ∧ w.cell? ⟨ab, ao + k * 5 + 1, none⟩ = some (.int .i64 x.at_) ∧ w.cell? ⟨ab, ao + k * 5 + 2, none⟩ = some (.int .i64 x.n) ∧
    w.cell? ⟨ab, ao + k * 5 + 3, none⟩ = some (.slice x.bA x.bs.length x.bc) ∧ w.cell? ⟨ab, ao + k * 5 + 4, none⟩ = some (.slice x.kA x.ks.length x.kc) := by
  have hkl := (List.getElem?_eq_some_iff.1 hk).1
  have hlen := h.len
  obtain ⟨ab, ao, e, hb, hc⟩ := h.cells.head (by omega) (by omega)
  have fl : ∀ x : ActX, (acell x).length = 5 := fun _ => rfl
  refine ⟨ab, ao, e, hb, ?_, ?_, ?_, ?_, ?_⟩
  · exact hc (k * 5) _ (flat_at fl xs k 0 x hk (by omega))
  · have := hc (k * 5 + 1) _ (flat_at fl xs k 1 x hk (by omega)); rwa [← Nat.add_assoc] at this
  · have := hc (k * 5 + 2) _ (flat_at fl xs k 2 x hk (by omega)); rwa [← Nat.add_assoc] at this
  · have := hc (k * 5 + 3) _ (flat_at fl xs k 3 x hk (by omega)); rwa [← Nat.add_assoc] at this
  · have := hc (k * 5 + 4) _ (flat_at fl xs k 4 x hk (by omega)); rwa [← Nat.add_assoc] at this

set_option maxRecDepth 100000 in
set_option maxHeartbeats 1600000 in
theorem small_any (A : Option Addr) (n c : Nat) (xs : List ActX) (w : World) (hn : n ≤ 140737488351232) (h : Acts w A n xs) :
    Calls Try.prog 17 #[.slice A n c] w fun e w' => e = .returned (.bool (decide (sumA xs ≤ 4000))) ∧ ∃ q, w' = w.drewN q := by
  have H := Lib.hid h
  have HL := Lib.hid h.len
  clear h
  go_enter Try.func17, Try.ntmps17
  go_wp2_with fail
  go_loopw [3, 4] (fun s i wr => ∃ (k m q : Nat), k ≤ n ∧ i = .int .i64 (k : Int) ∧ s = .int .i64 (m : Int) ∧ Hid (m = sumA (xs.take k)) ∧ m ≤ 300000000000000 ∧ wr = w.drewN q) (fun _ i _ => n - (intOf i).toNat)
  case atStart => exact ⟨0, 0, 0, by omega, rfl, rfl, rfl, by omega, rfl⟩
  case round =>
    obtain ⟨k, m, q, hk, rfl, rfl, HM, hm, rfl⟩ := hrel
    by_cases hlt : k < n
    · have d1 : decide (k < n) = true := by simpa using hlt
      have d1' : decide ((k : Int) < (n : Int)) = true := by simp; omega
      by_cases h4 : m ≤ 4000
      · have d2 : decide ((m : Int) ≤ 4000) = true := by simp; omega
        obtain ⟨x, hx⟩ : ∃ x, xs[k]? = some x := ⟨_, List.getElem?_eq_getElem (by rw [HL.out]; exact hlt)⟩
        obtain ⟨ab, ao, rfl, hab, c0, c1, c2, c3, c4⟩ := acts_at H.out hx
        have hg := H.out.good x (List.mem_of_getElem? hx)
        have hlb := hg.lb
        have hlk := hg.lk
        have HS := Lib.hid (sum_take_succ hx)
        obtain ⟨bl, hbl⟩ : ∃ bl, x.bs.length = bl := ⟨_, rfl⟩
        obtain ⟨kl, hkl⟩ : ∃ kl, x.ks.length = kl := ⟨_, rfl⟩
        have HZ : Hid (szA x = 1 + bl + kl) := by unfold Hid szA; rw [hbl, hkl]
        rw [hbl] at c3 hlb
        rw [hkl] at c4 hlk
        have s1 : IntKind.i64.wrap (1 + (bl : Int)) = 1 + (bl : Int) := IntWalk.i64_in _ (by omega)
        have s2 : IntKind.i64.wrap (1 + (bl : Int) + (kl : Int)) = 1 + (bl : Int) + (kl : Int) := IntWalk.i64_in _ (by omega)
        have s3 : IntKind.i64.wrap ((m : Int) + (1 + (bl : Int) + (kl : Int))) = (m : Int) + (1 + (bl : Int) + (kl : Int)) := IntWalk.i64_in _ (by omega)
        clear hg hbl hkl hx c0 c1 c2
        go_wp2_with fail
        go_quiet (fail)
        clear s1 s2 s3
        go_wp2_with fail
        go_roundw
        case rel => exact ⟨k + 1, m + (1 + bl + kl), q + nq, by omega, by go_num, by go_num, by unfold Hid; rw [HS.out, HZ.out, HM.out], by omega, rfl⟩
        case measure => simp [intOf]; omega
      · have d2 : decide ((m : Int) ≤ 4000) = false := by simp; omega
        have HE : Hid (decide (sumA xs ≤ 4000) = false) := by
          have h1 := sum_take_le xs k
          have h2 := HM.out
          unfold Hid
          simp; omega
        go_wp2_with fail
        go_ret
        exact ⟨by rw [HE.out]; rfl, q, rfl⟩
    · obtain rfl : k = n := by omega
      have d1 : decide (k < k) = false := by simp
      have HE : Hid (decide (sumA xs ≤ 4000) = decide ((m : Int) ≤ 4000)) := by
        have h2 := HM.out
        rw [List.take_of_length_le (by rw [HL.out]; omega)] at h2
        unfold Hid
        rw [← h2]
        exact decide_eq_decide.2 (by omega)
      go_wp2_with fail
      go_ret
      exact ⟨by rw [HE.out]; rfl, q, rfl⟩
end Go.Proofs.Ytgblcjoalgckkaa
