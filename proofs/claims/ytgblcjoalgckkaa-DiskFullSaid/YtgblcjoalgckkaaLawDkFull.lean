/-
  DiskFull: for every input the law returns true, and its arguments are as they were. No condition beside the given statement's own.
-/
import Derived.Test.YtgblcjoalgckkaaDkO
namespace Go.Proofs.Ytgblcjoalgckkaa.diskFull
open Go.ChangeShapes Go.WideShapes Go.ChangeAt Go.RowKit
open Go.ChangeMaps (open_string shut_string)
set_option linter.unusedVariables false

def fullW (k : Nat) : List (Nat × List Nat) := (List.range (min k 60)).map fun j => (j, [1])
def fullS (k : Nat) : DS := { newS 64 with wait := fullW k }
theorem full_len (k : Nat) : (fullW k).length = min k 60 := by simp [fullW]
theorem full_write (k : Nat) (hk : k < 62) : writeS (fullS k) (k : Int) [1] = (if k < 60 then 0 else 17, fullS (k + 1)) := by
  have hd : (fullS k).dur.length = 64 := by simp [fullS, newS]
  have hw : (fullS k).wait.length = min k 60 := full_len k
  have hi : insideB (fullS k).dur.length (k : Int) (([1] : List Nat).length : Int) = true := by
    rw [hd]; simp [insideB]; omega
  have ho : (fullS k).off = false := rfl
  have hs : spendS (fullS k) = (true, fullS k) := rfl
  unfold writeS
  rw [ho, hi, hw, hs]
  by_cases h : k < 60
  · rw [if_neg (by decide), if_neg (by decide), if_neg (by omega), if_pos rfl, if_pos h]
    refine Prod.ext rfl ?_
    show { (fullS k) with wait := fullW k ++ [((k : Int).toNat, [1])] } = fullS (k + 1)
    have : fullW k ++ [((k : Int).toNat, [1])] = fullW (k + 1) := by
      unfold fullW
      rw [show min k 60 = k by omega, show min (k + 1) 60 = k + 1 by omega, List.range_succ]
      simp
    rw [this]; rfl
  · rw [if_neg (by decide), if_neg (by decide), if_pos (by omega), if_neg h]
    refine Prod.ext rfl ?_
    show fullS k = fullS (k + 1)
    have : fullW k = fullW (k + 1) := by
      unfold fullW
      rw [show min k 60 = 60 by omega, show min (k + 1) 60 = 60 by omega]
    unfold fullS
    rw [this]
theorem full_sync (k : Nat) : ∃ D, syncS (fullS k) = (0, { dur := D, wait := [], off := false, fuse := none }) := ⟨_, rfl⟩
theorem late_write (D : List Nat) (h : 64 ≤ D.length) : ∃ s, writeS { dur := D, wait := [], off := false, fuse := none } 0 [2] = (0, s) := by
  have hi : insideB D.length 0 (([2] : List Nat).length : Int) = true := by simp [insideB]; omega
  unfold writeS
  simp only [hi]
  exact ⟨_, rfl⟩

set_option maxRecDepth 100000 in
set_option maxHeartbeats 1600000 in
theorem walk (z : Int) (w : World) (v : (Lit.int .i64 z).wf = true) :
    Calls Try.prog 4 #[.int .i64 z] w fun e w' => e = .returned (.bool true) ∧ Below w.heap.size w w' := by
  have HN := Lib.hid (new_m 64 w (by omega) (by omega))
  have HM := Lib.hid (fun w => mod_any z 5 w (by omega) (by omega) (wf_i64 v).1 (wf_i64 v).2)
  obtain ⟨m, hm, hm'⟩ : ∃ m : Nat, z % 5 = m ∧ m ≤ 4 := ⟨(z % 5).toNat, by omega, by omega⟩
  rw [hm] at HM
  clear hm
  go_enter Try.func4, Try.ntmps4
  go_wp2_with fail
  refine (HN.out).mono ?_
  rintro e w1 ⟨d, F, rfl, hmi, hF, hb⟩
  have H1 : Hid (Mine0 w w1 d (fullS 0) F) := ⟨hmi, hF, hb⟩
  clear hmi hF hb HN
  go_wp2_with fail
  refine (HM.out _).mono ?_
  rintro e w0 ⟨rfl, rfl⟩
  go_wp2_with fail
  go_loopw [6] (fun i wr => ∃ (k : Nat) (F : Nat → Prop), k ≤ 58 + m ∧ i = .int .i64 (k : Int) ∧ Hid (Mine0 w wr d (fullS k) F)) (fun i _ => 58 + m - (intOf i).toNat)
  case atStart => exact ⟨0, F, by omega, rfl, H1⟩
  case round =>
    clear H1
    obtain ⟨k, F, hk, rfl, HR⟩ := hrel
    by_cases hlt : k < 58 + m
    · have hmod : (k : Int) % 64 = k := by omega
      have HW := Lib.hid (write_m d (fullS k) F k _ 1 [1] _ (HR.out.mine.alloc _) (by simp) (by simp) (bytes_new wr [1]) HR.out.mine.fresh)
      rw [full_write k (by omega)] at HW
      have hlt2 : (k : Int) < 58 + (m : Int) := by omega
      by_cases h60 : k < 60
      · rw [if_pos h60] at HW
        have h60' : decide ((k : Int) < 60) = true := by simp; omega
        go_wp2_with fail
        refine (HW.out).mono ?_
        rintro e w2 ⟨rfl, ho⟩
        obtain ⟨F2, h2, -, -⟩ := (HR.out.alloc _).op ho
        have H2 := Lib.hid h2
        clear h2 ho HW
        go_wp2_with fail
        go_roundw
        case rel => exact ⟨k + 1, F2, by omega, by go_num, H2⟩
        case measure => simp [intOf]; omega
      · rw [if_neg h60] at HW
        have h60' : decide ((k : Int) < 60) = false := by simp; omega
        go_wp2_with fail
        refine (HW.out).mono ?_
        rintro e w2 ⟨rfl, ho⟩
        obtain ⟨F2, h2, -, -⟩ := (HR.out.alloc _).op ho
        have H2 := Lib.hid h2
        clear h2 ho HW
        go_wp2_with fail
        go_roundw
        case rel => exact ⟨k + 1, F2, by omega, by go_num, H2⟩
        case measure => simp [intOf]; omega
    · obtain rfl : k = 58 + m := by omega
      obtain ⟨D, hD⟩ := full_sync (58 + m)
      have HS := Lib.hid (sync_m d _ F wr HR.out.mine)
      rw [hD] at HS
      clear hD
      go_wp2_with fail
      refine (HS.out).mono ?_
      rintro e w2 ⟨rfl, ho⟩
      obtain ⟨F2, h2, -, -⟩ := HR.out.op ho
      have HP := Lib.hid (pending_m d _ F2 w2 h2.mine)
      have HP' : Hid (Calls Try.prog 16 #[.pointer (some ⟨d, 0, none⟩)] w2 fun e w' => e = .returned (.int .i64 0) ∧ w2 = w') := HP
      have H2 := Lib.hid h2
      obtain ⟨s3, hs3⟩ := late_write D h2.mine.ok.lo
      have HW := Lib.hid (write_m d _ F2 0 _ 1 [2] _ (h2.mine.alloc _) (by simp) (by simp) (bytes_new w2 [2]) h2.mine.fresh)
      rw [hs3] at HW
      clear h2 ho HS HP hs3
      go_wp2_with fail
      refine (HP'.out).mono ?_
      rintro e w3 ⟨rfl, rfl⟩
      go_wp2_with fail
      refine (HW.out).mono ?_
      rintro e w3 ⟨rfl, ho⟩
      obtain ⟨F3, h3, -, -⟩ := (H2.out.alloc _).op ho
      have HB := Lib.hid h3.bel
      clear h3 ho HW
      go_wp2_with fail
      refine (awake_any _).mono ?_
      rintro e w4 ⟨rfl, hb4⟩
      go_wp2_with fail
      go_ret
      exact ⟨rfl, HB.out.trans (hb4.mono HB.out.size)⟩


theorem own : ownKnob Try.prog.godebug = none := by kernel_rfl
theorem laidOut : laidOutB Try.prog = true := by kernel_rfl
theorem specN (H : Type) (ds : List (DataW H)) (h : ds.length = 1) : Rows.diskFullSpec.fn H (ds ++ []) = { results := [.lit (.bool true)], args := ds } := by
  match ds, h with
  | [_], _ => rfl

set_option maxRecDepth 100000 in
theorem lifted (os : Os) (started : os.Started) (H : Type) (enc : TypeId × Value → H) :
    ReturnsInHanded {} Try.checked os 4 .any (Rows.diskFullSpec.pre6 enc Try.prog Try.f4 Rows.diskFullRow.domain false) (Rows.diskFullSpec.post enc Try.prog Try.f4 false true false false) := by
  refine law_of_walk (C := Try.checked) own started (by kernel_rfl) Try.func4 rfl rfl Try.underlying4 laidOut (by kernel_rfl) (fun ds h => specN H ds (h.trans (by kernel_rfl)))
    (ChangeSpec.witness6 (enc := enc) (C := Try.checked) false ⟨#[], #[.int .i64 0], []⟩ 8 (by kernel_rfl) (by kernel_rfl) (by kernel_rfl) (by kernel_rfl)) ?_
  intro W base args ds p hval hA hsz
  have hval' : ∀ (j : Nat) t v, Try.f4.params[j]? = some t → args[j]? = some v → Value.okWide Try.prog W .any base t v := hval
  rw [Try.params4] at hval' hA hsz
  obtain ⟨v0, vs0, d0, ds0, p0, q0, hargs, rfl, rfl, h0, r0⟩ := trodAll_cons hA
  obtain ⟨rfl, rfl, rfl⟩ := trodAll_nil r0
  obtain rfl : args = #[v0] := by cases args; simp_all
  obtain ⟨a0, rfl, rfl, rfl, w0⟩ := open_int Try.underlying3 (hval' 0 3 v0 rfl rfl) h0
  exact walk a0 W w0

theorem proved : Rows.DiskFullSaid :=
  OpenClaim.holds_of_wide 4 Try.f4 rfl rfl rfl rfl rfl rfl rfl ⟨rfl, rfl, rfl, rfl, rfl⟩ rfl rfl rfl rfl rfl (by kernel_rfl) Try.func4 (by kernel_rfl)
    (of_decide_eq_true (by kernel_rfl)) (by unfold Func.isWrapper; first | (rw [if_pos (by decide +kernel)]; kernel_rfl) | (rw [if_neg (by decide +kernel)]; exact ⟨rfl, rfl⟩))
    (fun os started H enc _ => lifted os started H enc)
end Go.Proofs.Ytgblcjoalgckkaa.diskFull
