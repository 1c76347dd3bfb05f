/-
  DiskSizes: for every input the law returns true, and its arguments are as they were. No condition beside the given statement's own.
-/
import Derived.Test.YtgblcjoalgckkaaDkO
namespace Go.Proofs.Ytgblcjoalgckkaa.diskSizes
open Go.ChangeShapes Go.WideShapes Go.ChangeAt Go.RowKit
open Go.ChangeMaps (open_string shut_string)
set_option linter.unusedVariables false

set_option maxRecDepth 100000 in
set_option maxHeartbeats 1600000 in
theorem walk (n z : Int) (w : World) (v0 : (Lit.int .i64 n).wf = true) (v : (Lit.int .i64 z).wf = true) :
    Calls Try.prog 6 #[.int .i64 n, .int .i64 z] w fun e w' => e = .returned (.bool true) ∧ Below w.heap.size w w' := by
  have HM := Lib.hid (fun w => mod_any z 3 w (by omega) (by omega) (wf_i64 v).1 (wf_i64 v).2)
  obtain ⟨m, hm, hm'⟩ : ∃ m : Nat, z % 3 = m ∧ m ≤ 2 := ⟨(z % 3).toNat, by omega, by omega⟩
  rw [hm] at HM
  have hn := wf_i64 v0
  obtain ⟨hn1, hn2⟩ := hn
  clear hm
  go_enter Try.func6, Try.ntmps6
  go_wp2_with fail
  refine (HM.out _).mono ?_
  rintro e w0 ⟨rfl, rfl⟩
  go_wp2_with fail
  refine (HM.out _).mono ?_
  rintro e w0 ⟨rfl, rfl⟩
  obtain ⟨xs, hxs⟩ : ∃ xs : List Int, xs = [n, 63 + (m : Int), 131071 + (m : Int)] := ⟨_, rfl⟩
  have HX := Lib.hid hxs
  have hb0 := Blk.new w 3 #[.int .i64 n, .int .i64 (63 + (m : Int)), .int .i64 (131071 + (m : Int))]
  have H0 : Hid (Blk (w.alloc (.cells #[.int .i64 n, .int .i64 (63 + (m : Int)), .int .i64 (131071 + (m : Int))] 3)) w.heap.size 3 (xs.map (Value.int .i64)).toArray) := by rw [hxs]; exact hb0
  clear hxs hb0
  go_wp2_with fail
  go_loopw [6] (fun i wr => ∃ (k : Nat), k ≤ 3 ∧ i = .int .i64 (k : Int) ∧ Hid (Blk wr w.heap.size 3 (xs.map (Value.int .i64)).toArray ∧ Below w.heap.size w wr)) (fun i _ => 3 - (intOf i).toNat)
  case atStart => exact ⟨0, by omega, rfl, H0.out, (Below.refl _ w).alloc (Nat.le_refl _) _⟩
  case round =>
    clear H0
    obtain ⟨k, hk, rfl, HR⟩ := hrel
    by_cases hlt : k < 3
    · obtain ⟨x, hx⟩ : ∃ x, xs[k]? = some x := ⟨_, List.getElem?_eq_getElem (by rw [HX.out]; simpa using hlt)⟩
      have hc : wr.cell? ⟨w.heap.size, k, none⟩ = some (.int .i64 x) := by rw [HR.out.1.cell]; simp [hx]
      have hlw := HR.out.1.lt
      clear hx
      by_cases hok : 64 ≤ x ∧ x ≤ 131072
      · obtain ⟨y, rfl⟩ : ∃ y : Nat, x = y := ⟨x.toNat, by omega⟩
        have hy1 : 64 ≤ y := by omega
        have hy2 : y ≤ 131072 := by omega
        have d1 : decide (64 ≤ (y : Int)) = true := by simp; omega
        have d2 : decide ((y : Int) ≤ 131072) = true := by simp; omega
        have HN := Lib.hid (new_m y wr hy1 hy2)
        clear hok
        go_wp2_with fail
        refine (HN.out).mono ?_
        rintro e w2 ⟨d, F, rfl, hmi, hF, hb⟩
        have hc2 : w2.cell? ⟨w.heap.size, k, none⟩ = some (.int .i64 (y : Int)) := (hb.cell (p := ⟨w.heap.size, k, none⟩) hlw).trans hc
        have HSZ : Hid (∀ n, Calls Try.prog 21 #[.pointer (some ⟨d, 0, none⟩)] (w2.drewN n) fun e w' => e = .returned (.int .i64 (y : Int)) ∧ w2.drewN n = w') := by
          intro n
          have := size_m d _ F (w2.drewN n) (hmi.drewN n)
          simpa [newS] using this
        have H2 : Hid (Blk w2 w.heap.size 3 (xs.map (Value.int .i64)).toArray ∧ Below w.heap.size w w2) := ⟨HR.out.1.below hb hlw, HR.out.2.trans (hb.mono (by omega))⟩
        clear hmi hF hb HR HN hc
        go_wp2_with fail
        go_quiet (exact quiet_left (HSZ.out _))
        go_wp2_with fail
        go_roundw
        case rel => exact ⟨k + 1, by omega, by go_num, H2.out.1.drewN _, below_drewN H2.out.2 _⟩
        case measure => simp [intOf]; omega
      · have HN := Lib.hid (new_no x wr (by omega))
        by_cases h64 : 64 ≤ x
        · have d1 : decide (64 ≤ x) = true := by simpa using h64
          have d2 : decide (x ≤ 131072) = false := by simp; omega
          clear hok
          go_wp2_with fail
          refine (HN.out).mono ?_
          rintro e w2 ⟨rfl, rfl⟩
          go_wp2_with fail
          go_quiet (fail)
          go_wp2_with fail
          go_roundw
          case rel => exact ⟨k + 1, by omega, by go_num, HR.out.1.drewN _, below_drewN HR.out.2 _⟩
          case measure => simp [intOf]; omega
        · have d1 : decide (64 ≤ x) = false := by simpa using h64
          clear hok
          go_wp2_with fail
          refine (HN.out).mono ?_
          rintro e w2 ⟨rfl, rfl⟩
          go_wp2_with fail
          go_quiet (fail)
          go_wp2_with fail
          go_roundw
          case rel => exact ⟨k + 1, by omega, by go_num, HR.out.1.drewN _, below_drewN HR.out.2 _⟩
          case measure => simp [intOf]; omega
    · go_wp2_with fail
      refine (awake_any _).mono ?_
      rintro e w4 ⟨rfl, hb4⟩
      go_wp2_with fail
      go_ret
      exact ⟨rfl, HR.out.2.trans (hb4.mono HR.out.2.size)⟩


theorem own : ownKnob Try.prog.godebug = none := by kernel_rfl
theorem laidOut : laidOutB Try.prog = true := by kernel_rfl
theorem specN (H : Type) (ds : List (DataW H)) (h : ds.length = 2) : Rows.diskSizesSpec.fn H (ds ++ []) = { results := [.lit (.bool true)], args := ds } := by
  match ds, h with
  | [_, _], _ => rfl

set_option maxRecDepth 100000 in
theorem lifted (os : Os) (started : os.Started) (H : Type) (enc : TypeId × Value → H) :
    ReturnsInHanded {} Try.checked os 6 .any (Rows.diskSizesSpec.pre6 enc Try.prog Try.f6 Rows.diskSizesRow.domain false) (Rows.diskSizesSpec.post enc Try.prog Try.f6 false true false false) := by
  refine law_of_walk (C := Try.checked) own started (by kernel_rfl) Try.func6 rfl rfl Try.underlying4 laidOut (by kernel_rfl) (fun ds h => specN H ds (h.trans (by kernel_rfl)))
    (ChangeSpec.witness6 (enc := enc) (C := Try.checked) false ⟨#[], #[.int .i64 0, .int .i64 0], []⟩ 8 (by kernel_rfl) (by kernel_rfl) (by kernel_rfl) (by kernel_rfl)) ?_
  intro W base args ds p hval hA hsz
  have hval' : ∀ (j : Nat) t v, Try.f6.params[j]? = some t → args[j]? = some v → Value.okWide Try.prog W .any base t v := hval
  rw [Try.params6] at hval' hA hsz
  obtain ⟨v0, vs0, d0, ds0, p0, q0, hargs, rfl, rfl, h0, r0⟩ := trodAll_cons hA
  obtain ⟨v1, vs1, d1, ds1, p1, q1, rfl, rfl, rfl, h1, r1⟩ := trodAll_cons r0
  obtain ⟨rfl, rfl, rfl⟩ := trodAll_nil r1
  obtain rfl : args = #[v0, v1] := by cases args; simp_all
  obtain ⟨a0, rfl, rfl, rfl, w0⟩ := open_int Try.underlying3 (hval' 0 3 v0 rfl rfl) h0
  obtain ⟨a1, rfl, rfl, rfl, w1⟩ := open_int Try.underlying3 (hval' 1 3 v1 rfl rfl) h1
  exact walk a0 a1 W w0 w1

theorem proved : Rows.DiskSizesSaid :=
  OpenClaim.holds_of_wide 6 Try.f6 rfl rfl rfl rfl rfl rfl rfl ⟨rfl, rfl, rfl, rfl, rfl⟩ rfl rfl rfl rfl rfl (by kernel_rfl) Try.func6 (by kernel_rfl)
    (of_decide_eq_true (by kernel_rfl)) (by unfold Func.isWrapper; first | (rw [if_pos (by decide +kernel)]; kernel_rfl) | (rw [if_neg (by decide +kernel)]; exact ⟨rfl, rfl⟩))
    (fun os started H enc _ => lifted os started H enc)
end Go.Proofs.Ytgblcjoalgckkaa.diskSizes
