/-
  No cell of these rows narrows 'for every input' (looked for: loops, veiled, ifaces, maps, wideKeys, modest, calm, conditions, laid).
  DERIVED. THE GIVEN ROWS OF THIS SEAT. 5 by the template 'for every input the law returns true; each argument reads behind the call as it read before'; 0 by the template 'total and deterministic' (their statements: YtgmhinmakomabaaTotals.lean).
  GIVEN WITH THE SEED: the statements are not yours to turn. If you find one false, say at which input.
  Laid BY PROGRAM, IN A SANDBOX (cutbox-rows.mjs): the forced cells as the released guide's own fill.sh prints them over the translation 315a2ce3e9d606c4… (all of the seat's roots in one cut). By AI agents, Wed Nov 11 2026. No macro, syntax, notation, axiom, sorry.
-/
import Derived.Test.YtgmhinmakomabaaChecked
import GoSem.Claim
import GoSem.ClaimJoined
import GoSem.ClaimMapViews
import Derived.JoinedTies
import Derived.KernelRfl
namespace Go.Proofs.Ytgmhinmakomabaa
/- THE CELL 'sum', in the pinned program and in every row, IS THE sha256 OF THE DUMP (.gsa) THAT YtgmhinmakomabaaProg.lean LOADS. Nothing in Lean hashes anything: it is a label: what it is worth is what the hold of that sum in a sandbox is worth. -/
noncomputable def Try.pinned : Pinned := { name := "ytgmhinmakomabaa", sum := "315a2ce3e9d606c484b93037d0e8896587e3312f92f4a44f666357a3dc0b1fe1", checked := Try.checked }
namespace Rows
def none {H : Type} : Left H := { results := [], args := [] }

/-- 'semvcslaw18.AssignSolves': WHATEVER THE INPUT: true; the input reads as it did. -/
def assignSolvesSpec : ChangeSpec := { name := "assignSolves", fn := fun _ => fun
  | [d] => { results := [.lit (.bool true)], args := [d] }
  | _ => none }
def assignSolvesRow : OpenClaim := { program := "ytgmhinmakomabaa", sum := "315a2ce3e9d606c484b93037d0e8896587e3312f92f4a44f666357a3dc0b1fe1", func := "semvcs/semvcslaw18.AssignSolves", spec := "assignSolves", recurses := true, apart := false }
def AssignSolvesSaid : Prop := assignSolvesRow.holds Try.pinned (OpenSpec.ofChange assignSolvesSpec)

/-- ITS FALSE NEIGHBOUR: 'it returns false'. Refute it at one input. -/
def assignSolvesWrong : ChangeSpec := { name := "assignSolves", fn := fun _ => fun
  | [d] => { results := [.lit (.bool false)], args := [d] }
  | _ => none }
def AssignSolvesWrongFalsely : Prop := assignSolvesRow.holds Try.pinned (OpenSpec.ofChange assignSolvesWrong)

/-- 'semvcslaw18.AssignMade': WHATEVER THE INPUT: true; the input reads as it did. -/
def assignMadeSpec : ChangeSpec := { name := "assignMade", fn := fun _ => fun
  | [d1, d2] => { results := [.lit (.bool true)], args := [d1, d2] }
  | _ => none }
def assignMadeRow : OpenClaim := { program := "ytgmhinmakomabaa", sum := "315a2ce3e9d606c484b93037d0e8896587e3312f92f4a44f666357a3dc0b1fe1", func := "semvcs/semvcslaw18.AssignMade", spec := "assignMade", recurses := true, apart := false }
def AssignMadeSaid : Prop := assignMadeRow.holds Try.pinned (OpenSpec.ofChange assignMadeSpec)

/-- ITS FALSE NEIGHBOUR: 'it returns false'. Refute it at one input. -/
def assignMadeWrong : ChangeSpec := { name := "assignMade", fn := fun _ => fun
  | [d1, d2] => { results := [.lit (.bool false)], args := [d1, d2] }
  | _ => none }
def AssignMadeWrongFalsely : Prop := assignMadeRow.holds Try.pinned (OpenSpec.ofChange assignMadeWrong)

/-- 'semvcslaw18.AssignVerifies': WHATEVER THE INPUT: true; the input reads as it did. -/
def assignVerifiesSpec : ChangeSpec := { name := "assignVerifies", fn := fun _ => fun
  | [d1, d2, d3, d4, d5] => { results := [.lit (.bool true)], args := [d1, d2, d3, d4, d5] }
  | _ => none }
def assignVerifiesRow : OpenClaim := { program := "ytgmhinmakomabaa", sum := "315a2ce3e9d606c484b93037d0e8896587e3312f92f4a44f666357a3dc0b1fe1", func := "semvcs/semvcslaw18.AssignVerifies", spec := "assignVerifies", recurses := true, apart := false }
def AssignVerifiesSaid : Prop := assignVerifiesRow.holds Try.pinned (OpenSpec.ofChange assignVerifiesSpec)

/-- ITS FALSE NEIGHBOUR: 'it returns false'. Refute it at one input. -/
def assignVerifiesWrong : ChangeSpec := { name := "assignVerifies", fn := fun _ => fun
  | [d1, d2, d3, d4, d5] => { results := [.lit (.bool false)], args := [d1, d2, d3, d4, d5] }
  | _ => none }
def AssignVerifiesWrongFalsely : Prop := assignVerifiesRow.holds Try.pinned (OpenSpec.ofChange assignVerifiesWrong)

/-- 'semvcslaw18.AssignLeast': WHATEVER THE INPUT: true; the input reads as it did. -/
def assignLeastSpec : ChangeSpec := { name := "assignLeast", fn := fun _ => fun
  | [d1, d2, d3] => { results := [.lit (.bool true)], args := [d1, d2, d3] }
  | _ => none }
def assignLeastRow : OpenClaim := { program := "ytgmhinmakomabaa", sum := "315a2ce3e9d606c484b93037d0e8896587e3312f92f4a44f666357a3dc0b1fe1", func := "semvcs/semvcslaw18.AssignLeast", spec := "assignLeast", recurses := true, apart := false }
def AssignLeastSaid : Prop := assignLeastRow.holds Try.pinned (OpenSpec.ofChange assignLeastSpec)

/-- ITS FALSE NEIGHBOUR: 'it returns false'. Refute it at one input. -/
def assignLeastWrong : ChangeSpec := { name := "assignLeast", fn := fun _ => fun
  | [d1, d2, d3] => { results := [.lit (.bool false)], args := [d1, d2, d3] }
  | _ => none }
def AssignLeastWrongFalsely : Prop := assignLeastRow.holds Try.pinned (OpenSpec.ofChange assignLeastWrong)

/-- 'semvcslaw18.AssignProves': WHATEVER THE INPUT: true; the input reads as it did. -/
def assignProvesSpec : ChangeSpec := { name := "assignProves", fn := fun _ => fun
  | [d1, d2, d3, d4] => { results := [.lit (.bool true)], args := [d1, d2, d3, d4] }
  | _ => none }
def assignProvesRow : OpenClaim := { program := "ytgmhinmakomabaa", sum := "315a2ce3e9d606c484b93037d0e8896587e3312f92f4a44f666357a3dc0b1fe1", func := "semvcs/semvcslaw18.AssignProves", spec := "assignProves", recurses := true, apart := false }
def AssignProvesSaid : Prop := assignProvesRow.holds Try.pinned (OpenSpec.ofChange assignProvesSpec)

/-- ITS FALSE NEIGHBOUR: 'it returns false'. Refute it at one input. -/
def assignProvesWrong : ChangeSpec := { name := "assignProves", fn := fun _ => fun
  | [d1, d2, d3, d4] => { results := [.lit (.bool false)], args := [d1, d2, d3, d4] }
  | _ => none }
def AssignProvesWrongFalsely : Prop := assignProvesRow.holds Try.pinned (OpenSpec.ofChange assignProvesWrong)

/- THE SECOND FORM. 'bulk': how many values and letters a reading holds, each counted each time it is reached (what is shared counts as often as it is met; a slice's spare places count too). A statement '..UptoSaid' is the law's where the arguments, and the package variables that the reading takes, are together of bulk at most 1048576: NARROWER than '..Said'. Prove '..Said' where nothing that the law and all that it calls make is longer than what came in: it says more and counts as full. Else prove '..UptoSaid'. A law counts once. -/
mutual
def uptoBulk {H : Type} : DataW H → Nat
  | .lit (.string bytes) => bytes.length + 1
  | .lit _ => 1
  | .nil => 1
  | .ptr d => uptoBulk d + 1
  | .slice elems spare => uptoBulkAll elems + uptoBulkAll spare + 1
  | .agg parts => uptoBulkAll parts + 1
  | .iface _ d => uptoBulk d + 1
  | .map entries => uptoBulkEntries entries + 1
  | .held _ => 1
def uptoBulkAll {H : Type} : List (DataW H) → Nat
  | [] => 0
  | d :: r => uptoBulk d + uptoBulkAll r
def uptoBulkEntries {H : Type} : List (Lit × DataW H) → Nat
  | [] => 0
  | x :: r => uptoBulkEntry x + uptoBulkEntries r
def uptoBulkEntry {H : Type} : Lit × DataW H → Nat
  | (.string bytes, d) => bytes.length + uptoBulk d + 1
  | (_, d) => uptoBulk d + 1
 end
def uptoSmall : (H : Type) → List (DataW H) → Bool := fun _ ds => decide (uptoBulkAll ds ≤ 1048576)
def OpenSpec.upto (s : _root_.Go.ChangeSpec) : _root_.Go.OpenSpec := { _root_.Go.OpenSpec.ofChange s with cond := some uptoSmall }

/-- 'semvcslaw18.AssignSolves', WHERE WHAT IT READS IS OF BULK AT MOST 1048576: true; the input reads as it did. -/
def assignSolvesUptoRow : OpenClaim := { program := "ytgmhinmakomabaa", sum := "315a2ce3e9d606c484b93037d0e8896587e3312f92f4a44f666357a3dc0b1fe1", func := "semvcs/semvcslaw18.AssignSolves", spec := "assignSolves", recurses := true, apart := false, narrowed := true }
def AssignSolvesUptoSaid : Prop := assignSolvesUptoRow.holds Try.pinned (OpenSpec.upto assignSolvesSpec)

/-- 'semvcslaw18.AssignMade', WHERE WHAT IT READS IS OF BULK AT MOST 1048576: true; the input reads as it did. -/
def assignMadeUptoRow : OpenClaim := { program := "ytgmhinmakomabaa", sum := "315a2ce3e9d606c484b93037d0e8896587e3312f92f4a44f666357a3dc0b1fe1", func := "semvcs/semvcslaw18.AssignMade", spec := "assignMade", recurses := true, apart := false, narrowed := true }
def AssignMadeUptoSaid : Prop := assignMadeUptoRow.holds Try.pinned (OpenSpec.upto assignMadeSpec)

/-- 'semvcslaw18.AssignVerifies', WHERE WHAT IT READS IS OF BULK AT MOST 1048576: true; the input reads as it did. -/
def assignVerifiesUptoRow : OpenClaim := { program := "ytgmhinmakomabaa", sum := "315a2ce3e9d606c484b93037d0e8896587e3312f92f4a44f666357a3dc0b1fe1", func := "semvcs/semvcslaw18.AssignVerifies", spec := "assignVerifies", recurses := true, apart := false, narrowed := true }
def AssignVerifiesUptoSaid : Prop := assignVerifiesUptoRow.holds Try.pinned (OpenSpec.upto assignVerifiesSpec)

/-- 'semvcslaw18.AssignLeast', WHERE WHAT IT READS IS OF BULK AT MOST 1048576: true; the input reads as it did. -/
def assignLeastUptoRow : OpenClaim := { program := "ytgmhinmakomabaa", sum := "315a2ce3e9d606c484b93037d0e8896587e3312f92f4a44f666357a3dc0b1fe1", func := "semvcs/semvcslaw18.AssignLeast", spec := "assignLeast", recurses := true, apart := false, narrowed := true }
def AssignLeastUptoSaid : Prop := assignLeastUptoRow.holds Try.pinned (OpenSpec.upto assignLeastSpec)

/-- 'semvcslaw18.AssignProves', WHERE WHAT IT READS IS OF BULK AT MOST 1048576: true; the input reads as it did. -/
def assignProvesUptoRow : OpenClaim := { program := "ytgmhinmakomabaa", sum := "315a2ce3e9d606c484b93037d0e8896587e3312f92f4a44f666357a3dc0b1fe1", func := "semvcs/semvcslaw18.AssignProves", spec := "assignProves", recurses := true, apart := false, narrowed := true }
def AssignProvesUptoSaid : Prop := assignProvesUptoRow.holds Try.pinned (OpenSpec.upto assignProvesSpec)

end Rows
end Go.Proofs.Ytgmhinmakomabaa
