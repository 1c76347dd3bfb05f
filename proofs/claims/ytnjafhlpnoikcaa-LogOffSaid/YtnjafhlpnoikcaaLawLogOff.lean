/-
  LogOff: for every input the law returns true. No condition beside the given statement's own.
-/
import Derived.Test.YtnjafhlpnoikcaaLgK
namespace Go.Proofs.Ytnjafhlpnoikcaa.logOff
open Go.ChangeShapes Go.WideShapes Go.ChangeAt Go.RowKit
open Go.ChangeMaps (open_string shut_string)
set_option linter.unusedVariables false

/-- the disk after so many writes -/
def offR (s : DS) : Nat → DS
  | 0 => s
  | i + 1 => (writeS (offR s i) 0 [0]).2
theorem off0 : (offR (fuseS (newS 64) ((0 : Nat) : Int)) 1).off = true := by kernel_rfl
theorem off1 : (offR (fuseS (newS 64) ((1 : Nat) : Int)) 2).off = true := by kernel_rfl
theorem off2 : (offR (fuseS (newS 64) ((2 : Nat) : Int)) 3).off = true := by kernel_rfl
theorem off3 : (offR (fuseS (newS 64) ((3 : Nat) : Int)) 4).off = true := by kernel_rfl
theorem off_all (k : Nat) (hk : k < 4) : openS (offR (fuseS (newS 64) (k : Int)) (k + 1)) = none := by
  have h : (offR (fuseS (newS 64) (k : Int)) (k + 1)).off = true := by
    rcases (show k = 0 ∨ k = 1 ∨ k = 2 ∨ k = 3 by omega) with rfl | rfl | rfl | rfl
    · exact off0
    · exact off1
    · exact off2
    · exact off3
  unfold openS
  rw [if_pos h]

set_option maxRecDepth 100000 in
set_option maxHeartbeats 2000000 in
theorem walk (z : Int) (w : World) (v : (Lit.int .i64 z).wf = true) :
    Calls Try.prog 3 #[.int .i64 z] w fun e w' => e = .returned (.bool true) ∧ Below w.heap.size w w' := by
  have HM := Lib.hid (fun w => mod_any z 4 w (by omega) (by omega) (wf_i64 v).1 (wf_i64 v).2)
  obtain ⟨k, hm, hk⟩ : ∃ k : Nat, z % 4 = k ∧ k < 4 := ⟨(z % 4).toNat, by omega, by omega⟩
  rw [hm] at HM
  have HN := Lib.hid (new_m 64 w (by omega) (by omega))
  have HNIL := Lib.hid (open_nil w)
  have HOFF := Lib.hid (off_all k hk)
  clear hm v
  go_enter Try.func3, Try.ntmps3
  go_wp2_with fail
  refine (HNIL.out).mono ?_
  rintro e w0 ⟨rfl, rfl⟩
  clear HNIL
  go_wp2_with fail
  refine (HN.out).mono ?_
  rintro e w1 ⟨d, F, rfl, hm, hF, hb⟩
  have H1 : Hid (Mine0 w w1 d (newS 64) F) := ⟨hm, hF, hb⟩
  clear hm hF hb HN
  go_wp2_with fail
  refine ((HM.out) _).mono ?_
  rintro e w2 ⟨rfl, rfl⟩
  have HU := Lib.hid (fuse_m d (newS 64) F (k : Int) _ (H1.out).mine (by omega))
  clear HM
  go_wp2_with fail
  refine (HU.out).mono ?_
  rintro e w3 ⟨rfl, ho⟩
  obtain ⟨F3, h3, -, -⟩ := (H1.out).op ho
  have R0 : Hid (Mine0 w w3 d (offR (fuseS (newS 64) (k : Int)) 0) F3) := h3
  clear ho h3 HU H1
  go_wp2_with fail
  go_loopw [8] (fun iv wr => ∃ (i : Nat) (Fi : Nat → Prop), i ≤ k + 1 ∧ iv = .int .i64 (i : Int) ∧ Mine0 w wr d (offR (fuseS (newS 64) (k : Int)) i) Fi) (fun iv _ => ((k : Int) + 1 - intOf iv).toNat)
  case atStart => exact ⟨0, F3, by omega, rfl, R0.out⟩
  case round =>
    obtain ⟨i, Fi, hi, rfl, hR⟩ := hrel
    have RR := Lib.hid hR
    clear hR R0
    by_cases hlt : i ≤ k
    · have dim : decide ((i : Int) ≤ (k : Int)) = true := by simp; omega
      have HW := Lib.hid (write_m d (offR (fuseS (newS 64) (k : Int)) i) Fi 0 _ 1 [0] _ ((RR.out).mine.alloc _) (by simp) (by simp) (bytes_new wr [0]) (RR.out).mine.fresh)
      go_wp2_with fail
      refine (HW.out).mono ?_
      rintro e w4 ⟨rfl, ho⟩
      obtain ⟨F4, h4, -, -⟩ := ((RR.out).alloc _).op ho
      have R4 : Hid (Mine0 w w4 d (offR (fuseS (newS 64) (k : Int)) (i + 1)) F4) := h4
      clear ho h4 HW RR
      go_wp2_with fail
      go_roundw
      case rel => exact ⟨i + 1, F4, by omega, by go_num, R4.out⟩
      case measure => simp [intOf]; omega
    · have dim : decide ((i : Int) ≤ (k : Int)) = false := by simp; omega
      obtain rfl : i = k + 1 := by omega
      have HO := Lib.hid (open_any (RR.out).mine)
      go_wp2_with fail
      refine (HO.out).mono ?_
      rintro e w5 ⟨hb5, ho⟩
      rw [HOFF.out] at ho
      obtain rfl := ho
      have B5 := Lib.hid ((RR.out).bel.trans (hb5.mono (RR.out).bel.size))
      clear hb5 HO RR
      go_wp2_with fail
      refine (awake_any _).mono ?_
      rintro e w6 ⟨rfl, hb6⟩
      have B6 := Lib.hid ((B5.out).trans (hb6.mono (B5.out).size))
      clear hb6
      go_wp2_with fail
      go_ret
      exact ⟨rfl, B6.out⟩

theorem own : ownKnob Try.prog.godebug = none := by kernel_rfl
theorem laidOut : laidOutB Try.prog = true := by kernel_rfl
theorem specN (H : Type) (ds : List (DataW H)) (h : ds.length = 1) : Rows.logOffSpec.fn H (ds ++ []) = { results := [.lit (.bool true)], args := ds } := by
  match ds, h with
  | [_], _ => rfl

set_option maxRecDepth 100000 in
theorem lifted (os : Os) (started : os.Started) (H : Type) (enc : TypeId × Value → H) :
    ReturnsInHanded {} Try.checked os 3 .any (Rows.logOffSpec.pre6 enc Try.prog Try.f3 Rows.logOffRow.domain false) (Rows.logOffSpec.post enc Try.prog Try.f3 false true false false) := by
  refine law_of_walk (C := Try.checked) own started (by kernel_rfl) Try.func3 rfl rfl Try.underlying4 laidOut (by kernel_rfl) (fun ds h => specN H ds (h.trans (by kernel_rfl)))
    (ChangeSpec.witness6 (enc := enc) (C := Try.checked) false ⟨#[], #[.int .i64 0], []⟩ 8 (by kernel_rfl) (by kernel_rfl) (by kernel_rfl) (by kernel_rfl)) ?_
  intro W base args ds p hval hA hsz
  have hval' : ∀ (j : Nat) t v, Try.f3.params[j]? = some t → args[j]? = some v → Value.okWide Try.prog W .any base t v := hval
  rw [Try.params3] at hval' hA hsz
  obtain ⟨v0, vs0, d0, ds0, p0, q0, hargs, rfl, rfl, h0, r0⟩ := trodAll_cons hA
  obtain ⟨rfl, rfl, rfl⟩ := trodAll_nil r0
  obtain rfl : args = #[v0] := by cases args; simp_all
  obtain ⟨a0, rfl, rfl, rfl, w0⟩ := open_int Try.underlying3 (hval' 0 3 v0 rfl rfl) h0
  exact walk a0 W w0

theorem proved : Rows.LogOffSaid :=
  OpenClaim.holds_of_wide 3 Try.f3 rfl rfl rfl rfl rfl rfl rfl ⟨rfl, rfl, rfl, rfl, rfl⟩ rfl rfl rfl rfl rfl (by kernel_rfl) Try.func3 (by kernel_rfl)
    (of_decide_eq_true (by kernel_rfl)) (by unfold Func.isWrapper; first | (rw [if_pos (by decide +kernel)]; kernel_rfl) | (rw [if_neg (by decide +kernel)]; exact ⟨rfl, rfl⟩))
    (fun os started H enc _ => lifted os started H enc)
end Go.Proofs.Ytnjafhlpnoikcaa.logOff
