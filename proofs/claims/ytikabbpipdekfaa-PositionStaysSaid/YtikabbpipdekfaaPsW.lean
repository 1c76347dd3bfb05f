/-
  awake. No condition.
-/
import Derived.Test.YtikabbpipdekfaaPsU
namespace Go.Proofs.Ytikabbpipdekfaa
open Go.RowKit
set_option linter.unusedVariables false

def StrsTwo (w : World) (e : Ending) (w' : World) : Prop := Below w.heap.size w w' ∧ ∃ g o c, e = .returned (.slice (some ⟨g, o, none⟩) 2 c) ∧ g < w'.heap.size ∧ w'.cell? ⟨g, o, none⟩ = some (.string ⟨#[105, 114]⟩) ∧ w'.cell? ⟨g, o + 1, none⟩ = some (.string ⟨#[114, 105]⟩)
theorem spread_two (w : World) : Calls Try.prog 16 #[.int .i64 2] w (StrsTwo w) :=
  (spread_any 2 w (by omega)).mono fun e w' ⟨hb, A, c, he, hc, hr⟩ => by
    rw [if_neg (by omega), show (2 : Int).toNat = 2 from rfl, awake_spread] at he hr
    obtain ⟨g, o, rfl, hg, hcell⟩ := hr.head (by simp) (by omega)
    exact ⟨hb, g, o, c, he, hg, hcell 0 _ rfl, hcell 1 _ rfl⟩
def KeepFour (w : World) (e : Ending) (w' : World) : Prop := Below w.heap.size w w' ∧ ∃ g o c, e = .returned (.slice (some ⟨g, o, none⟩) 4 c) ∧ w'.cell? ⟨g, o, none⟩ = some (.bool false) ∧ w'.cell? ⟨g, o + 1, none⟩ = some (.bool true) ∧ w'.cell? ⟨g, o + 2, none⟩ = some (.bool false) ∧ w'.cell? ⟨g, o + 3, none⟩ = some (.bool true)
theorem keep_four (w : World) : Calls Try.prog 21 #[.slice (some ⟨w.heap.size, 0, none⟩) 4 4] (w.alloc (.cells #[.string ⟨#[109]⟩, .string ⟨#[99]⟩, .string ⟨#[]⟩, .string ⟨#[102]⟩] 9)) (KeepFour (w.alloc (.cells #[.string ⟨#[109]⟩, .string ⟨#[99]⟩, .string ⟨#[]⟩, .string ⟨#[102]⟩] 9))) := by
  have hk := Blk.new w 9 #[.string ⟨#[109]⟩, .string ⟨#[99]⟩, .string ⟨#[]⟩, .string ⟨#[102]⟩]
  have ht : Txt (w.alloc (.cells #[.string ⟨#[109]⟩, .string ⟨#[99]⟩, .string ⟨#[]⟩, .string ⟨#[102]⟩] 9)) (some ⟨w.heap.size, 0, none⟩) [⟨#[109]⟩, ⟨#[99]⟩, ⟨#[]⟩, ⟨#[102]⟩] := by
    refine ⟨⟨rfl, fun _ => ⟨_, rfl, hk.lt, fun j u hu => ?_⟩⟩, by simp, fun x hx => ?_⟩
    · rw [Addr.add_lit, Nat.zero_add, hk.cell, ← hu, ← List.getElem?_toArray]
      rfl
    · simp at hx
      rcases hx with rfl | rfl | rfl | rfl <;> decide
  refine (keep_any (some ⟨w.heap.size, 0, none⟩) 4 _ _ ht).mono fun e w' ⟨hb, A, c, he, hr⟩ => ?_
  rw [awake_keep] at hr
  rw [nums_len] at he hr
  obtain ⟨g, o, rfl, hg, hcell⟩ := hr.head (by simp) (by omega)
  exact ⟨hb, g, o, c, he, hcell 0 _ rfl, hcell 1 _ rfl, hcell 2 _ rfl, hcell 3 _ rfl⟩
set_option maxRecDepth 100000 in
set_option maxHeartbeats 800000 in
theorem awake_any (w : World) : Calls Try.prog 11 #[] w (Ret w (.bool true)) := by
  have HC := Lib.hid (between_any ⟨#[98]⟩ ⟨#[99]⟩ w (by decide) (by decide))
  go_enter Try.func11, Try.ntmps11
  go_wp2_with fail
  refine (HC.out).mono ?_
  rintro e w1 ⟨hb1, t, x, rfl, hbi⟩
  obtain ⟨h1, rfl⟩ := hbi.unique awake_between
  obtain rfl := ba_of h1
  have HB1 := Lib.hid hb1
  clear HC hbi h1 hb1
  go_wp2_with fail
  refine (spread_two w1).mono ?_
  rintro e w2 ⟨hb2, g, o, c, rfl, hg, c0, c1⟩
  have HB2 := Lib.hid (HB1.out.trans (hb2.mono HB1.out.size))
  have HG := Lib.hid hg
  have C0 := Lib.hid c0
  have C1 := Lib.hid c1
  clear hb2 hg c0 c1
  go_wp2_with fail
  refine (keep_four w2).mono ?_
  rintro e w3 ⟨hb3, g3, o3, c3, rfl, k0, k1, k2, k3⟩
  have HBA : Hid (Below w2.heap.size w2 (w2.alloc (.cells #[.string ⟨#[109]⟩, .string ⟨#[99]⟩, .string ⟨#[]⟩, .string ⟨#[102]⟩] 9))) := (Below.refl _ _).alloc (Nat.le_refl _) _
  have HB23 := Lib.hid (HBA.out.trans (hb3.mono HBA.out.size))
  have HB3 := Lib.hid (HB2.out.trans (HB23.out.mono HB2.out.size))
  have c0 := (HB23.out.cell (p := ⟨g, o, none⟩) HG.out).trans C0.out
  have c1 := (HB23.out.cell (p := ⟨g, o + 1, none⟩) HG.out).trans C1.out
  have HV := Lib.hid (valid_any ⟨#[98, 110]⟩ w3 (by decide))
  unfold VldPost at HV
  rw [show keyB (⟨#[98, 110]⟩ : ByteArray).data.toList = true by decide +kernel] at HV
  clear hb3
  go_wp2_with fail
  refine (HV.out).mono ?_
  rintro e w4 ⟨rfl, rfl⟩
  go_wp2_with fail
  go_ret
  exact ⟨rfl, HB3.out⟩
end Go.Proofs.Ytikabbpipdekfaa
