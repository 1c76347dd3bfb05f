/-
  The sanity check of the statements about ids returns true. No condition.
-/
import Derived.Test.YtbphdbhlckbecaaDoorRefParse
import Derived.Test.YtbphdbhlckbecaaDoorRowL
import Derived.Test.YtbphdbhlckbecaaDoorCards
import Derived.Test.YtbphdbhlckbecaaDoorTie
namespace Go.Proofs.YtbphdbhlckbecaaDoor
open Go.RowKit
set_option linter.unusedVariables false

theorem tab_of_laid {W : World} (h : laidMetH Tryd.prog Rows.identMakesRow.laid W) : Tab W := by
  have h1 := h.filter (fun x => x.1 == "internal/strconv.uint64pow10")
  have h2 : laidMetH Tryd.prog [("internal/strconv.uint64pow10", Rows.laid_internal_strconv_uint64pow10)] W := h1
  have h3 : Lib.TabIs Tryd.prog W "internal/strconv.uint64pow10" .u64 Lib.pow10Tab :=
    Lib.tabIs_of_head (rest := []) gTab (t := 45) (e := 39) (n := 20) (by kernel_rfl) Tryd.underlying45 Tryd.underlying39 (by kernel_rfl) (by kernel_rfl) h2
  exact ⟨h3, World.block_lt_of_cell? W ⟨0, 0, none⟩ (h3.cell gTab 0 (by decide))⟩

theorem text317 : (⟨#[51, 46, 49, 55]⟩ : ByteArray) = fmtP 3 17 := by
  unfold fmtP dec
  rw [Lib.decDigits_one (by omega), Lib.decDigits_two (by omega) (by omega)]
  rfl
theorem parse317 : parseP ⟨#[51, 46, 49, 55]⟩ = (3145745, 0) := by rw [text317, parseP_yes (by omega) (by omega) (by omega) (by omega)]; rfl
theorem fmt317 : fmtI 3145745 = ⟨#[51, 46, 49, 55]⟩ := by rw [text317]; rfl

set_option maxRecDepth 100000 in
set_option maxHeartbeats 400000 in
theorem awake_any (w : World) (ht : Tab w) : Calls Tryd.prog 11 #[] w fun e w' => e = .returned (.bool true) ∧ Below w.heap.size w w' := by
  have h1 := make_any 3 17 w
  rw [show makeI 3 17 = 3145745 from by decide, show makeE 3 17 = 0 from by decide] at h1
  have h2 := parse_any ⟨#[51, 46, 49, 55]⟩ w (by decide) ht
  rw [parse317] at h2
  have H1 := Lib.hid h1
  have H2 := Lib.hid h2
  have HT := Lib.hid ht
  clear h1 h2 ht
  go_enter Tryd.func11, Tryd.ntmps11
  go_wp2_with fail
  refine (H1.out).mono ?_
  rintro e w1 ⟨rfl, rfl⟩
  go_wp2_with fail
  refine (H2.out).mono ?_
  rintro e w1 ⟨rfl, hb1⟩
  have h3 := format_any 3145745 w1 (HT.out.below hb1)
  rw [fmt317] at h3
  have H3 := Lib.hid h3
  have HB1 := Lib.hid hb1
  clear H1 H2 hb1 h3
  go_wp2_with fail
  refine (H3.out).mono ?_
  rintro e w2 ⟨rfl, hb2⟩
  have h4 := site_any 3145745 w2
  have h5 := serial_any 3145745 w2
  have h6 := valid_any 3145745 w2
  rw [show siteI 3145745 = 3 from by decide] at h4
  rw [show serialI 3145745 = 17 from by decide] at h5
  rw [show validB 3145745 = true from by decide] at h6
  have H4 := Lib.hid h4
  have H5 := Lib.hid h5
  have H6 := Lib.hid h6
  have HB2 := Lib.hid (HB1.out.trans (hb2.mono HB1.out.size))
  clear H3 hb2 h4 h5 h6 HB1
  go_wp2_with fail
  refine (H4.out).mono ?_
  rintro e w2' ⟨rfl, rfl⟩
  go_wp2_with fail
  refine (H5.out).mono ?_
  rintro e w2' ⟨rfl, rfl⟩
  go_wp2_with fail
  refine (H6.out).mono ?_
  rintro e w2' ⟨rfl, rfl⟩
  clear H4 H5 H6
  go_wp2_with fail
  go_ret
  exact ⟨rfl, HB2.out⟩

/-- the cells that a listed table holds -/
def tabCells : DataW Unit → Array Value
  | .agg l => (l.map fun d => match d with | .lit (.int k n) => Value.int k n | _ => undef).toArray
  | _ => #[]
def putTab (d : DataW Unit) : Obj → Obj
  | .cells _ t frozen => .cells (tabCells d) t frozen
  | o => o
noncomputable def laidWorld (os : Os) : World :=
  { World.holding Tryd.prog os ⟨#[], #[], []⟩ with heap := (((World.holding Tryd.prog os ⟨#[], #[], []⟩).heap.modify 1 (putTab Rows.laid_math_bits_deBruijn32tab)).modify 2 (putTab Rows.laid_math_bits_deBruijn64tab)).modify 0 (putTab Rows.laid_internal_strconv_uint64pow10) }
theorem laid_met (os : Os) (args : Array Value) : laidMet Tryd.prog Rows.identMakesRow.laid ((laidWorld os).forCall (fun _ _ => 0) ⟨#[], args, []⟩).memory :=
  laidMet_of_run' 8 (by kernel_rfl) (by kernel_rfl)
end Go.Proofs.YtbphdbhlckbecaaDoor
