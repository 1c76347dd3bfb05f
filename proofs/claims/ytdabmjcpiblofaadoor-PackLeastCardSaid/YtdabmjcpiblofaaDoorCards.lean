/-
  DERIVED. GIVEN WITH THE SEED: THE CARDS: each row of YtdabmjcpiblofaaDoorRows.lean that lists a variable, with what it lists TIED to the program's text (the seventh form; the later family's looks); each row that meets fmt, with fmt's text TOLD by the authors' own Lean function (tested against real Go, not proved from fmt's source: count such statements apart). THE CARD IS WHAT COUNTS. Prove the row's statement (the work); the ties are given (YtdabmjcpiblofaaDoorTie.lean); close each card by the builder's one call (the guide's Derived/Test/ToyasCard.lean, 'card_holds'). Laid BY PROGRAM, IN A SANDBOX (cutbox-door.mjs). By AI agents, Wed Nov 11 2026. No macro, syntax, notation, axiom, sorry.
-/
import Derived.Test.YtdabmjcpiblofaaDoorRows
import GoSem.ClaimSeven
namespace Go.Proofs.YtdabmjcpiblofaaDoor
namespace Rows

/-- THE TIED CARD OF 'semvcslaw42.PackMakes'. -/
def packMakesCard : Claim7 := { stood := { row := packMakesRow, standIns := [], harness := (true, "a7064e1bb6e13ede4f0a1ff0574a0ff8cc13e30c6df1f2909a70f2f9d4a80c4b"), looks := false }, kinds := [], alts := [], laidByText := true, laidKinds := [.data, .data, .data], laidTests := true, laidLooks := .later }
def PackMakesCardSaid : Prop := Claim7.holds Tryd.pinned (.plain (OpenSpec.ofChange packMakesSpec)) packMakesCard

/-- THE TIED CARD OF 'semvcslaw42.PackTrees'. -/
def packTreesCard : Claim7 := { stood := { row := packTreesRow, standIns := [], harness := (true, "a7064e1bb6e13ede4f0a1ff0574a0ff8cc13e30c6df1f2909a70f2f9d4a80c4b"), looks := false }, kinds := [], alts := [], laidByText := true, laidKinds := [.data, .data, .data], laidTests := true, laidLooks := .later }
def PackTreesCardSaid : Prop := Claim7.holds Tryd.pinned (.plain (OpenSpec.ofChange packTreesSpec)) packTreesCard

/-- THE TIED CARD OF 'semvcslaw42.PackLeast'. -/
def packLeastCard : Claim7 := { stood := { row := packLeastRow, standIns := [], harness := (true, "a7064e1bb6e13ede4f0a1ff0574a0ff8cc13e30c6df1f2909a70f2f9d4a80c4b"), looks := false }, kinds := [], alts := [], laidByText := true, laidKinds := [.data, .data, .data], laidTests := true, laidLooks := .later }
def PackLeastCardSaid : Prop := Claim7.holds Tryd.pinned (.plain (OpenSpec.ofChange packLeastSpec)) packLeastCard

/-- THE TIED CARD OF 'semvcslaw42.PackDeep'. -/
def packDeepCard : Claim7 := { stood := { row := packDeepRow, standIns := [], harness := (true, "a7064e1bb6e13ede4f0a1ff0574a0ff8cc13e30c6df1f2909a70f2f9d4a80c4b"), looks := false }, kinds := [], alts := [], laidByText := true, laidKinds := [.data, .data, .data], laidTests := true, laidLooks := .later }
def PackDeepCardSaid : Prop := Claim7.holds Tryd.pinned (.plain (OpenSpec.ofChange packDeepSpec)) packDeepCard

/-- THE TIED CARD OF 'semvcslaw42.PackAdds'. -/
def packAddsCard : Claim7 := { stood := { row := packAddsRow, standIns := [], harness := (true, "a7064e1bb6e13ede4f0a1ff0574a0ff8cc13e30c6df1f2909a70f2f9d4a80c4b"), looks := false }, kinds := [], alts := [], laidByText := true, laidKinds := [.data, .data, .data], laidTests := true, laidLooks := .later }
def PackAddsCardSaid : Prop := Claim7.holds Tryd.pinned (.plain (OpenSpec.ofChange packAddsSpec)) packAddsCard

/-- THE TIED CARD OF 'semvcslaw42.PackBytes'. -/
def packBytesCard : Claim7 := { stood := { row := packBytesRow, standIns := [], harness := (true, "a7064e1bb6e13ede4f0a1ff0574a0ff8cc13e30c6df1f2909a70f2f9d4a80c4b"), looks := false }, kinds := [], alts := [], laidByText := true, laidKinds := [.data, .data, .data], laidTests := true, laidLooks := .later }
def PackBytesCardSaid : Prop := Claim7.holds Tryd.pinned (.plain (OpenSpec.ofChange packBytesSpec)) packBytesCard

/-- THE TIED CARD OF 'semvcslaw42.PackParses'. -/
def packParsesCard : Claim7 := { stood := { row := packParsesRow, standIns := [], harness := (true, "a7064e1bb6e13ede4f0a1ff0574a0ff8cc13e30c6df1f2909a70f2f9d4a80c4b"), looks := false }, kinds := [], alts := [], laidByText := true, laidKinds := [.data, .data, .data], laidTests := true, laidLooks := .later }
def PackParsesCardSaid : Prop := Claim7.holds Tryd.pinned (.plain (OpenSpec.ofChange packParsesSpec)) packParsesCard

/-- THE TIED CARD OF 'semvcslaw42.PackBack'. -/
def packBackCard : Claim7 := { stood := { row := packBackRow, standIns := [], harness := (true, "a7064e1bb6e13ede4f0a1ff0574a0ff8cc13e30c6df1f2909a70f2f9d4a80c4b"), looks := false }, kinds := [], alts := [], laidByText := true, laidKinds := [.data, .data, .data], laidTests := true, laidLooks := .later }
def PackBackCardSaid : Prop := Claim7.holds Tryd.pinned (.plain (OpenSpec.ofChange packBackSpec)) packBackCard

/-- THE SECOND FORM's CARD OF 'semvcslaw42.PackMakes'. -/
def packMakesUptoCard : Claim7 := { stood := { row := packMakesUptoRow, standIns := [], harness := (true, "a7064e1bb6e13ede4f0a1ff0574a0ff8cc13e30c6df1f2909a70f2f9d4a80c4b"), looks := false }, kinds := [], alts := [], laidByText := true, laidKinds := [.data, .data, .data], laidTests := true, laidLooks := .later }
def PackMakesUptoCardSaid : Prop := Claim7.holds Tryd.pinned (.plain (OpenSpec.upto packMakesSpec)) packMakesUptoCard

/-- THE SECOND FORM's CARD OF 'semvcslaw42.PackTrees'. -/
def packTreesUptoCard : Claim7 := { stood := { row := packTreesUptoRow, standIns := [], harness := (true, "a7064e1bb6e13ede4f0a1ff0574a0ff8cc13e30c6df1f2909a70f2f9d4a80c4b"), looks := false }, kinds := [], alts := [], laidByText := true, laidKinds := [.data, .data, .data], laidTests := true, laidLooks := .later }
def PackTreesUptoCardSaid : Prop := Claim7.holds Tryd.pinned (.plain (OpenSpec.upto packTreesSpec)) packTreesUptoCard

/-- THE SECOND FORM's CARD OF 'semvcslaw42.PackLeast'. -/
def packLeastUptoCard : Claim7 := { stood := { row := packLeastUptoRow, standIns := [], harness := (true, "a7064e1bb6e13ede4f0a1ff0574a0ff8cc13e30c6df1f2909a70f2f9d4a80c4b"), looks := false }, kinds := [], alts := [], laidByText := true, laidKinds := [.data, .data, .data], laidTests := true, laidLooks := .later }
def PackLeastUptoCardSaid : Prop := Claim7.holds Tryd.pinned (.plain (OpenSpec.upto packLeastSpec)) packLeastUptoCard

/-- THE SECOND FORM's CARD OF 'semvcslaw42.PackDeep'. -/
def packDeepUptoCard : Claim7 := { stood := { row := packDeepUptoRow, standIns := [], harness := (true, "a7064e1bb6e13ede4f0a1ff0574a0ff8cc13e30c6df1f2909a70f2f9d4a80c4b"), looks := false }, kinds := [], alts := [], laidByText := true, laidKinds := [.data, .data, .data], laidTests := true, laidLooks := .later }
def PackDeepUptoCardSaid : Prop := Claim7.holds Tryd.pinned (.plain (OpenSpec.upto packDeepSpec)) packDeepUptoCard

/-- THE SECOND FORM's CARD OF 'semvcslaw42.PackAdds'. -/
def packAddsUptoCard : Claim7 := { stood := { row := packAddsUptoRow, standIns := [], harness := (true, "a7064e1bb6e13ede4f0a1ff0574a0ff8cc13e30c6df1f2909a70f2f9d4a80c4b"), looks := false }, kinds := [], alts := [], laidByText := true, laidKinds := [.data, .data, .data], laidTests := true, laidLooks := .later }
def PackAddsUptoCardSaid : Prop := Claim7.holds Tryd.pinned (.plain (OpenSpec.upto packAddsSpec)) packAddsUptoCard

/-- THE SECOND FORM's CARD OF 'semvcslaw42.PackBytes'. -/
def packBytesUptoCard : Claim7 := { stood := { row := packBytesUptoRow, standIns := [], harness := (true, "a7064e1bb6e13ede4f0a1ff0574a0ff8cc13e30c6df1f2909a70f2f9d4a80c4b"), looks := false }, kinds := [], alts := [], laidByText := true, laidKinds := [.data, .data, .data], laidTests := true, laidLooks := .later }
def PackBytesUptoCardSaid : Prop := Claim7.holds Tryd.pinned (.plain (OpenSpec.upto packBytesSpec)) packBytesUptoCard

/-- THE SECOND FORM's CARD OF 'semvcslaw42.PackParses'. -/
def packParsesUptoCard : Claim7 := { stood := { row := packParsesUptoRow, standIns := [], harness := (true, "a7064e1bb6e13ede4f0a1ff0574a0ff8cc13e30c6df1f2909a70f2f9d4a80c4b"), looks := false }, kinds := [], alts := [], laidByText := true, laidKinds := [.data, .data, .data], laidTests := true, laidLooks := .later }
def PackParsesUptoCardSaid : Prop := Claim7.holds Tryd.pinned (.plain (OpenSpec.upto packParsesSpec)) packParsesUptoCard

/-- THE SECOND FORM's CARD OF 'semvcslaw42.PackBack'. -/
def packBackUptoCard : Claim7 := { stood := { row := packBackUptoRow, standIns := [], harness := (true, "a7064e1bb6e13ede4f0a1ff0574a0ff8cc13e30c6df1f2909a70f2f9d4a80c4b"), looks := false }, kinds := [], alts := [], laidByText := true, laidKinds := [.data, .data, .data], laidTests := true, laidLooks := .later }
def PackBackUptoCardSaid : Prop := Claim7.holds Tryd.pinned (.plain (OpenSpec.upto packBackSpec)) packBackUptoCard
end Rows
end Go.Proofs.YtdabmjcpiblofaaDoor
