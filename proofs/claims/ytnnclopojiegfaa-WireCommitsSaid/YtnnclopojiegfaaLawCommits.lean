/-
  WireCommits: for every input the law returns true, and its arguments are as they were. No condition beside the given statement's own.
-/
import Derived.Test.YtnnclopojiegfaaCmC
namespace Go.Proofs.Ytnnclopojiegfaa.wireCommits
open Go.ChangeShapes Go.WideShapes Go.ChangeAt Go.RowKit
open Go.ChangeMaps (open_string shut_string)
set_option linter.unusedVariables false

theorem enc_byte_t (s : ByteArray) : ∀ x ∈ encT s, x < 256 := fun x hx => by
  rcases List.mem_append.1 hx with h | h
  · exact encI_byte _ x h
  · exact txt_byte s x h
theorem enc_byte_l (l : List Int) : ∀ x ∈ encL l, x < 256 := fun x hx => by
  rcases List.mem_append.1 hx with h | h
  · exact encI_byte _ x h
  · obtain ⟨y, -, hy⟩ := List.mem_flatMap.1 h
    exact encI_byte _ x hy
theorem enc_byte_c (c : WCell) : ∀ x ∈ encC c, x < 256 := fun x hx => by
  unfold encC at hx
  simp only [List.mem_append] at hx
  rcases hx with ((((h | h) | h) | h) | h) | h
  · exact encI_byte _ x h
  · exact encI_byte _ x h
  · exact encI_byte _ x h
  · unfold encF at h
    split at h <;> simp at h <;> omega
  · exact enc_byte_t _ x h
  · exact encI_byte _ x h
theorem enc_byte_com (c : WCommit) : ∀ x ∈ encCommit c, x < 256 := fun x hx => by
  unfold encCommit at hx
  simp only [List.mem_append] at hx
  rcases hx with ((((h | h) | h) | h) | h) | h
  · exact encI_byte _ x h
  · exact enc_byte_l _ x h
  · exact enc_byte_l _ x h
  · exact enc_byte_t _ x h
  · exact encI_byte _ x h
  · obtain ⟨y, -, hy⟩ := List.mem_flatMap.1 h
    exact enc_byte_c _ x hy
theorem enc_byte_xs (l : List CX) : ∀ x ∈ encXs l, x < 256 := fun x hx => by
  rcases List.mem_append.1 hx with h | h
  · exact encI_byte _ x h
  · obtain ⟨y, -, hy⟩ := List.mem_flatMap.1 h
    exact enc_byte_com _ x hy
theorem coms5 {w : World} {ab ao n k : Nat} {xs : List CX} {x : CX} (h : Coms w (some ⟨ab, ao, none⟩) n xs) (hk : xs[k]? = some x) : w.cell? ⟨ab, ao + k * 5, none⟩ = some (.int .i64 x.c.stamp) ∧ w.cell? ⟨ab, ao + k * 5 + 1, none⟩ = some (.slice x.A1 x.c.parents.length x.c1) ∧
    w.cell? ⟨ab, ao + k * 5 + 2, none⟩ = some (.slice x.A2 x.c.picks.length x.c2) ∧ w.cell? ⟨ab, ao + k * 5 + 3, none⟩ = some (.string x.c.note) ∧ w.cell? ⟨ab, ao + k * 5 + 4, none⟩ = some (.slice x.A3 x.c.writes.length x.c3) := by
  obtain ⟨b, o, e, -, h0⟩ := coms_at h hk
  simp at e
  obtain ⟨rfl, rfl⟩ := e
  exact h0
theorem wcommit_any (x : CX) (w : World) (h : GoodC w x) (hs : x.c.size ≤ 8000000) : Calls Try.prog 15 #[.agg #[.int .i64 x.c.stamp, .slice x.A1 x.c.parents.length x.c1, .slice x.A2 x.c.picks.length x.c2, .string x.c.note, .slice x.A3 x.c.writes.length x.c3]] w (New w (encCommit x.c)) :=
  commit_any _ x.c w h.is h.ok (by omega)
theorem rcommit_any (x : CX) (w : World) (h : GoodC w x) (hs : x.c.size ≤ 8000000) : Calls Try.prog 16 #[.agg #[.int .i64 x.c.stamp, .slice x.A1 x.c.parents.length x.c1, .slice x.A2 x.c.picks.length x.c2, .string x.c.note, .slice x.A3 x.c.writes.length x.c3]] w (New w (encCommit x.c)) :=
  refCommit_any _ x.c w h.is h.ok (by omega)

set_option maxRecDepth 100000 in
set_option maxHeartbeats 1600000 in
theorem walk (A : Option Addr) (n cp : Nat) (xs : List CX) (w : World) (hn : n ≤ 140737488351232) (h : Coms w A n xs) :
    Calls Try.prog 4 #[.slice A n cp] w fun e w' => e = .returned (.bool true) ∧ Below w.heap.size w w' := by
  have HS := Lib.hid (size_any A n cp xs w hn h)
  have HL := Lib.hid h.len
  have H := Lib.hid h
  clear h
  go_enter Try.func4, Try.ntmps4
  go_wp2_with fail
  refine (HS.out).mono ?_
  rintro e w1 ⟨m, q, rfl, hm, hm2, rfl⟩
  have HM := Lib.hid hm
  clear hm HS
  have HBQ : Hid (Below w.heap.size w (w.drewN q)) := below_drewN (Below.refl _ w) q
  by_cases h2 : 2000 < m
  · have d : decide ((2000 : Int) < (m : Int)) = true := by simp; omega
    go_wp2_with fail
    refine (awake_any _).mono ?_
    rintro e w2 ⟨rfl, hb2⟩
    have HB2 := Lib.hid (HBQ.out.trans hb2)
    clear hb2
    go_wp2_with fail
    go_ret
    exact ⟨rfl, HB2.out⟩
  · have d : decide ((2000 : Int) < (m : Int)) = false := by simp; omega
    have hsum : n + sumC xs ≤ 2000 := by have := HM.out (by omega); omega
    go_wp2_with fail
    go_loopw [3] (fun i wr => ∃ k : Nat, k ≤ n ∧ i = .int .i64 (k : Int) ∧ Hid (Below w.heap.size w wr)) (fun i _ => n - (intOf i).toNat)
    case atStart => exact ⟨0, by omega, rfl, HBQ⟩
    case round =>
      obtain ⟨k, hk, rfl, HB⟩ := hrel
      by_cases hlt : k < n
      · obtain ⟨x, hx⟩ : ∃ x, xs[k]? = some x := ⟨_, List.getElem?_eq_getElem (by rw [HL.out]; exact hlt)⟩
        obtain ⟨ab, ao, rfl, hab, -⟩ := coms_at H.out hx
        have hsx := sumC_mem (List.mem_of_getElem? hx)
        have HX := Lib.hid hx
        have e0 := coms5 (H.out.up HB.out) hx
        have HC0 : Hid (Coms wr.drew (some ⟨ab, ao, none⟩) n xs) := (H.out.up HB.out).up (below_drewN (Below.refl _ wr) 1)
        have HG0 := Lib.hid (HC0.out.good x (List.mem_of_getElem? hx))
        have hs8 : x.c.size ≤ 8000000 := by omega
        have HBY := Lib.hid (enc_byte_com x.c)
        obtain ⟨e1, e2, e3, e4, e5⟩ := e0
        clear hx hsum HM hsx
        go_wp2_with fail
        go_region_held3 (fun w' => w'.cell? ⟨ab, ao + k * 5, none⟩ = some (.int .i64 x.c.stamp) ∧ w'.cell? ⟨ab, ao + k * 5 + 1, none⟩ = some (.slice x.A1 x.c.parents.length x.c1) ∧ w'.cell? ⟨ab, ao + k * 5 + 2, none⟩ = some (.slice x.A2 x.c.picks.length x.c2) ∧ w'.cell? ⟨ab, ao + k * 5 + 3, none⟩ = some (.string x.c.note) ∧ w'.cell? ⟨ab, ao + k * 5 + 4, none⟩ = some (.slice x.A3 x.c.writes.length x.c3))
          (first | exact coms5 HC0.out HX.out | exact coms5 C2.out HX.out | exact coms5 C1.out HX.out)
          (first | (go_at_call 11; refine (HSM.out).mono ?_; rintro e w3 ⟨rfl, rfl⟩) | (go_at_call 16; refine (rcommit_any x _ (C1.out.good x (List.mem_of_getElem? HX.out)) hs8).mono ?_; rintro e w2 k2; obtain ⟨v2, rfl, h2⟩ := k2.nw; clear k2; obtain ⟨A2, c2, rfl, r2⟩ := h2.reads; have C2 := Lib.hid (C1.out.up h2.2); have B2 := Lib.hid (B1.out.trans (h2.2.mono B1.out.size)); have HSM := Lib.hid (same_eq A1 A2 _ c1 c2 (encCommit x.c) _ _ _ ((R1.out.below h2.2).more h2.2.size) r2 HBY.out); clear h2 r2) | (go_at_call 15; refine (wcommit_any x _ HG0.out hs8).mono ?_; rintro e w1 k1; obtain ⟨v1, rfl, h1⟩ := k1.nw; clear k1; obtain ⟨A1, c1, rfl, r1⟩ := h1.reads; have C1 := Lib.hid (HC0.out.up h1.2); have B1 := Lib.hid ((below_drewN HB.out 1).trans (h1.2.mono HB.out.size)); have R1 := Lib.hid r1; clear h1 r1))
        go_wp2_with fail
        go_roundw
        case rel => exact ⟨k + 1, by omega, by go_num, B2⟩
        case measure => simp [intOf]; omega
      · have HP := Lib.hid (commits_any A n cp xs wr (H.out.up HB.out) (by omega))
        go_wp2_with fail
        refine (HP.out).mono ?_
        intro e w1 k1
        obtain ⟨v1, rfl, h1⟩ := k1.nw
        clear k1
        obtain ⟨A1, c1, rfl, r1⟩ := h1.reads
        have B1 := Lib.hid (HB.out.trans (h1.2.mono HB.out.size))
        have R1 := Lib.hid r1
        clear h1 r1 HP
        have HP := Lib.hid (refCommits_any A n cp xs w1 (H.out.up B1.out) (by omega))
        go_wp2_with fail
        refine (HP.out).mono ?_
        intro e w2 k2
        obtain ⟨v2, rfl, h2⟩ := k2.nw
        clear k2
        obtain ⟨A2, c2, rfl, r2⟩ := h2.reads
        have B2 := Lib.hid (B1.out.trans (h2.2.mono B1.out.size))
        have HSM := Lib.hid (same_eq A1 A2 _ c1 c2 (encXs xs) _ _ w2 ((R1.out.below h2.2).more h2.2.size) r2 (enc_byte_xs xs))
        clear h2 r2 HP
        go_wp2_with fail
        refine (HSM.out).mono ?_
        rintro e w3 ⟨rfl, rfl⟩
        go_wp2_with fail
        refine (awake_any _).mono ?_
        rintro e w3 ⟨rfl, hb3⟩
        have HB3 := Lib.hid (B2.out.trans (hb3.mono B2.out.size))
        clear hb3
        go_wp2_with fail
        go_ret
        exact ⟨rfl, HB3.out⟩


theorem own : ownKnob Try.prog.godebug = none := by kernel_rfl
theorem laidOut : laidOutB Try.prog = true := by kernel_rfl
theorem specN (H : Type) (ds : List (DataW H)) (h : ds.length = 1) : Rows.wireCommitsSpec.fn H (ds ++ []) = { results := [.lit (.bool true)], args := ds } := by
  match ds, h with
  | [_], _ => rfl

set_option maxRecDepth 100000 in
theorem lifted (os : Os) (started : os.Started) (H : Type) (enc : TypeId × Value → H) :
    ReturnsInHanded {} Try.checked os 4 .any (Rows.wireCommitsSpec.pre6 enc Try.prog Try.f4 Rows.wireCommitsRow.domain false) (Rows.wireCommitsSpec.post enc Try.prog Try.f4 false true false false) := by
  refine law_of_walk (C := Try.checked) own started (by kernel_rfl) Try.func4 rfl rfl Try.underlying4 laidOut (by kernel_rfl) (fun ds h => specN H ds (h.trans (by kernel_rfl)))
    (ChangeSpec.witness6 (enc := enc) (C := Try.checked) false ⟨#[], #[.slice none 0 0], []⟩ 8 (by kernel_rfl) (by kernel_rfl) (by kernel_rfl) (by kernel_rfl)) ?_
  intro W base args ds p hval hA hsz
  have hval' : ∀ (j : Nat) t v, Try.f4.params[j]? = some t → args[j]? = some v → Value.okWide Try.prog W .any base t v := hval
  rw [Try.params4] at hval' hA hsz
  obtain ⟨v0, vs0, d0, ds0, p0, q0, hargs, rfl, rfl, h0, r0⟩ := trodAll_cons hA
  obtain ⟨rfl, rfl, rfl⟩ := trodAll_nil r0
  obtain rfl : args = #[v0] := by cases args; simp_all
  obtain ⟨a0, len0, cap0, rfl⟩ := okWide_slice Try.underlying30 (hval' 0 30 v0 rfl rfl)
  obtain ⟨hl0, xs0, hx0⟩ := open_commits h0 (sm_arg hsz (j := 0) rfl rfl)
  exact walk a0 len0 cap0 xs0 W hl0 hx0

theorem proved : Rows.WireCommitsSaid :=
  OpenClaim.holds_of_wide 4 Try.f4 rfl rfl rfl rfl rfl rfl rfl ⟨rfl, rfl, rfl, rfl, rfl⟩ rfl rfl rfl rfl rfl (by kernel_rfl) Try.func4 (by kernel_rfl)
    (of_decide_eq_true (by kernel_rfl)) (by unfold Func.isWrapper; first | (rw [if_pos (by decide +kernel)]; kernel_rfl) | (rw [if_neg (by decide +kernel)]; exact ⟨rfl, rfl⟩))
    (fun os started H enc _ => lifted os started H enc)
end Go.Proofs.Ytnnclopojiegfaa.wireCommits
