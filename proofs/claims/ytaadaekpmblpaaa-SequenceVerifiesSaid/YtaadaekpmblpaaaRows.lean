/-
  No cell of these rows narrows 'for every input' (looked for: loops, veiled, ifaces, maps, wideKeys, modest, calm, conditions, laid).
  DERIVED. THE GIVEN ROWS OF THIS SEAT. 6 by the template 'for every input the law returns true; each argument reads behind the call as it read before'; 0 by the template 'total and deterministic' (their statements: YtaadaekpmblpaaaTotals.lean).
  GIVEN WITH THE SEED: the statements are not yours to turn. If you find one false, say at which input.
  Laid BY PROGRAM, IN A SANDBOX (cutbox-rows.mjs): the forced cells as the released guide's own fill.sh prints them over the translation a2bfe13f1fd655e2… (all of the seat's roots in one cut). By AI agents, Wed Nov 11 2026. No macro, syntax, notation, axiom, sorry.
-/
import Derived.Test.YtaadaekpmblpaaaChecked
import GoSem.Claim
import GoSem.ClaimJoined
import GoSem.ClaimMapViews
import Derived.JoinedTies
import Derived.KernelRfl
namespace Go.Proofs.Ytaadaekpmblpaaa
/- THE CELL 'sum', in the pinned program and in every row, IS THE sha256 OF THE DUMP (.gsa) THAT YtaadaekpmblpaaaProg.lean LOADS. Nothing in Lean hashes anything: it is a label: what it is worth is what the hold of that sum in a sandbox is worth. -/
noncomputable def Try.pinned : Pinned := { name := "ytaadaekpmblpaaa", sum := "a2bfe13f1fd655e2eb6e788a077dd683cdc94463dfb533960aae0f72bb341b18", checked := Try.checked }
namespace Rows
def none {H : Type} : Left H := { results := [], args := [] }

/-- 'semvcslaw17.SequenceAligns': WHATEVER THE INPUT: true; the input reads as it did. -/
def sequenceAlignsSpec : ChangeSpec := { name := "sequenceAligns", fn := fun _ => fun
  | [d1, d2, d3] => { results := [.lit (.bool true)], args := [d1, d2, d3] }
  | _ => none }
def sequenceAlignsRow : OpenClaim := { program := "ytaadaekpmblpaaa", sum := "a2bfe13f1fd655e2eb6e788a077dd683cdc94463dfb533960aae0f72bb341b18", func := "semvcs/semvcslaw17.SequenceAligns", spec := "sequenceAligns", apart := false }
def SequenceAlignsSaid : Prop := sequenceAlignsRow.holds Try.pinned (OpenSpec.ofChange sequenceAlignsSpec)

/-- ITS FALSE NEIGHBOUR: 'it returns false'. Refute it at one input. -/
def sequenceAlignsWrong : ChangeSpec := { name := "sequenceAligns", fn := fun _ => fun
  | [d1, d2, d3] => { results := [.lit (.bool false)], args := [d1, d2, d3] }
  | _ => none }
def SequenceAlignsWrongFalsely : Prop := sequenceAlignsRow.holds Try.pinned (OpenSpec.ofChange sequenceAlignsWrong)

/-- 'semvcslaw17.SequenceMade': WHATEVER THE INPUT: true; the input reads as it did. -/
def sequenceMadeSpec : ChangeSpec := { name := "sequenceMade", fn := fun _ => fun
  | [d1, d2, d3] => { results := [.lit (.bool true)], args := [d1, d2, d3] }
  | _ => none }
def sequenceMadeRow : OpenClaim := { program := "ytaadaekpmblpaaa", sum := "a2bfe13f1fd655e2eb6e788a077dd683cdc94463dfb533960aae0f72bb341b18", func := "semvcs/semvcslaw17.SequenceMade", spec := "sequenceMade", apart := false }
def SequenceMadeSaid : Prop := sequenceMadeRow.holds Try.pinned (OpenSpec.ofChange sequenceMadeSpec)

/-- ITS FALSE NEIGHBOUR: 'it returns false'. Refute it at one input. -/
def sequenceMadeWrong : ChangeSpec := { name := "sequenceMade", fn := fun _ => fun
  | [d1, d2, d3] => { results := [.lit (.bool false)], args := [d1, d2, d3] }
  | _ => none }
def SequenceMadeWrongFalsely : Prop := sequenceMadeRow.holds Try.pinned (OpenSpec.ofChange sequenceMadeWrong)

/-- 'semvcslaw17.SequenceCosts': WHATEVER THE INPUT: true; the input reads as it did. -/
def sequenceCostsSpec : ChangeSpec := { name := "sequenceCosts", fn := fun _ => fun
  | [d1, d2, d3, d4, d5] => { results := [.lit (.bool true)], args := [d1, d2, d3, d4, d5] }
  | _ => none }
def sequenceCostsRow : OpenClaim := { program := "ytaadaekpmblpaaa", sum := "a2bfe13f1fd655e2eb6e788a077dd683cdc94463dfb533960aae0f72bb341b18", func := "semvcs/semvcslaw17.SequenceCosts", spec := "sequenceCosts", apart := false }
def SequenceCostsSaid : Prop := sequenceCostsRow.holds Try.pinned (OpenSpec.ofChange sequenceCostsSpec)

/-- ITS FALSE NEIGHBOUR: 'it returns false'. Refute it at one input. -/
def sequenceCostsWrong : ChangeSpec := { name := "sequenceCosts", fn := fun _ => fun
  | [d1, d2, d3, d4, d5] => { results := [.lit (.bool false)], args := [d1, d2, d3, d4, d5] }
  | _ => none }
def SequenceCostsWrongFalsely : Prop := sequenceCostsRow.holds Try.pinned (OpenSpec.ofChange sequenceCostsWrong)

/-- 'semvcslaw17.SequenceVerifies': WHATEVER THE INPUT: true; the input reads as it did. -/
def sequenceVerifiesSpec : ChangeSpec := { name := "sequenceVerifies", fn := fun _ => fun
  | [d1, d2, d3, d4, d5, d6, d7] => { results := [.lit (.bool true)], args := [d1, d2, d3, d4, d5, d6, d7] }
  | _ => none }
def sequenceVerifiesRow : OpenClaim := { program := "ytaadaekpmblpaaa", sum := "a2bfe13f1fd655e2eb6e788a077dd683cdc94463dfb533960aae0f72bb341b18", func := "semvcs/semvcslaw17.SequenceVerifies", spec := "sequenceVerifies", apart := false }
def SequenceVerifiesSaid : Prop := sequenceVerifiesRow.holds Try.pinned (OpenSpec.ofChange sequenceVerifiesSpec)

/-- ITS FALSE NEIGHBOUR: 'it returns false'. Refute it at one input. -/
def sequenceVerifiesWrong : ChangeSpec := { name := "sequenceVerifies", fn := fun _ => fun
  | [d1, d2, d3, d4, d5, d6, d7] => { results := [.lit (.bool false)], args := [d1, d2, d3, d4, d5, d6, d7] }
  | _ => none }
def SequenceVerifiesWrongFalsely : Prop := sequenceVerifiesRow.holds Try.pinned (OpenSpec.ofChange sequenceVerifiesWrong)

/-- 'semvcslaw17.SequenceLeast': WHATEVER THE INPUT: true; the input reads as it did. -/
def sequenceLeastSpec : ChangeSpec := { name := "sequenceLeast", fn := fun _ => fun
  | [d1, d2, d3, d4] => { results := [.lit (.bool true)], args := [d1, d2, d3, d4] }
  | _ => none }
def sequenceLeastRow : OpenClaim := { program := "ytaadaekpmblpaaa", sum := "a2bfe13f1fd655e2eb6e788a077dd683cdc94463dfb533960aae0f72bb341b18", func := "semvcs/semvcslaw17.SequenceLeast", spec := "sequenceLeast", apart := false }
def SequenceLeastSaid : Prop := sequenceLeastRow.holds Try.pinned (OpenSpec.ofChange sequenceLeastSpec)

/-- ITS FALSE NEIGHBOUR: 'it returns false'. Refute it at one input. -/
def sequenceLeastWrong : ChangeSpec := { name := "sequenceLeast", fn := fun _ => fun
  | [d1, d2, d3, d4] => { results := [.lit (.bool false)], args := [d1, d2, d3, d4] }
  | _ => none }
def SequenceLeastWrongFalsely : Prop := sequenceLeastRow.holds Try.pinned (OpenSpec.ofChange sequenceLeastWrong)

/-- 'semvcslaw17.SequenceProves': WHATEVER THE INPUT: true; the input reads as it did. -/
def sequenceProvesSpec : ChangeSpec := { name := "sequenceProves", fn := fun _ => fun
  | [d1, d2, d3, d4, d5] => { results := [.lit (.bool true)], args := [d1, d2, d3, d4, d5] }
  | _ => none }
def sequenceProvesRow : OpenClaim := { program := "ytaadaekpmblpaaa", sum := "a2bfe13f1fd655e2eb6e788a077dd683cdc94463dfb533960aae0f72bb341b18", func := "semvcs/semvcslaw17.SequenceProves", spec := "sequenceProves", apart := false }
def SequenceProvesSaid : Prop := sequenceProvesRow.holds Try.pinned (OpenSpec.ofChange sequenceProvesSpec)

/-- ITS FALSE NEIGHBOUR: 'it returns false'. Refute it at one input. -/
def sequenceProvesWrong : ChangeSpec := { name := "sequenceProves", fn := fun _ => fun
  | [d1, d2, d3, d4, d5] => { results := [.lit (.bool false)], args := [d1, d2, d3, d4, d5] }
  | _ => none }
def SequenceProvesWrongFalsely : Prop := sequenceProvesRow.holds Try.pinned (OpenSpec.ofChange sequenceProvesWrong)

/- THE SECOND FORM. 'bulk': how many values and letters a reading holds, each counted each time it is reached (what is shared counts as often as it is met; a slice's spare places count too). A statement '..UptoSaid' is the law's where the arguments, and the package variables that the reading takes, are together of bulk at most 1048576: NARROWER than '..Said'. Prove '..Said' where nothing that the law and all that it calls make is longer than what came in: it says more and counts as full. Else prove '..UptoSaid'. A law counts once. -/
mutual
def uptoBulk {H : Type} : DataW H → Nat
  | .lit (.string bytes) => bytes.length + 1
  | .lit _ => 1
  | .nil => 1
  | .ptr d => uptoBulk d + 1
  | .slice elems spare => uptoBulkAll elems + uptoBulkAll spare + 1
  | .agg parts => uptoBulkAll parts + 1
  | .iface _ d => uptoBulk d + 1
  | .map entries => uptoBulkEntries entries + 1
  | .held _ => 1
def uptoBulkAll {H : Type} : List (DataW H) → Nat
  | [] => 0
  | d :: r => uptoBulk d + uptoBulkAll r
def uptoBulkEntries {H : Type} : List (Lit × DataW H) → Nat
  | [] => 0
  | x :: r => uptoBulkEntry x + uptoBulkEntries r
def uptoBulkEntry {H : Type} : Lit × DataW H → Nat
  | (.string bytes, d) => bytes.length + uptoBulk d + 1
  | (_, d) => uptoBulk d + 1
 end
def uptoSmall : (H : Type) → List (DataW H) → Bool := fun _ ds => decide (uptoBulkAll ds ≤ 1048576)
def OpenSpec.upto (s : _root_.Go.ChangeSpec) : _root_.Go.OpenSpec := { _root_.Go.OpenSpec.ofChange s with cond := some uptoSmall }

/-- 'semvcslaw17.SequenceAligns', WHERE WHAT IT READS IS OF BULK AT MOST 1048576: true; the input reads as it did. -/
def sequenceAlignsUptoRow : OpenClaim := { program := "ytaadaekpmblpaaa", sum := "a2bfe13f1fd655e2eb6e788a077dd683cdc94463dfb533960aae0f72bb341b18", func := "semvcs/semvcslaw17.SequenceAligns", spec := "sequenceAligns", apart := false, narrowed := true }
def SequenceAlignsUptoSaid : Prop := sequenceAlignsUptoRow.holds Try.pinned (OpenSpec.upto sequenceAlignsSpec)

/-- 'semvcslaw17.SequenceMade', WHERE WHAT IT READS IS OF BULK AT MOST 1048576: true; the input reads as it did. -/
def sequenceMadeUptoRow : OpenClaim := { program := "ytaadaekpmblpaaa", sum := "a2bfe13f1fd655e2eb6e788a077dd683cdc94463dfb533960aae0f72bb341b18", func := "semvcs/semvcslaw17.SequenceMade", spec := "sequenceMade", apart := false, narrowed := true }
def SequenceMadeUptoSaid : Prop := sequenceMadeUptoRow.holds Try.pinned (OpenSpec.upto sequenceMadeSpec)

/-- 'semvcslaw17.SequenceCosts', WHERE WHAT IT READS IS OF BULK AT MOST 1048576: true; the input reads as it did. -/
def sequenceCostsUptoRow : OpenClaim := { program := "ytaadaekpmblpaaa", sum := "a2bfe13f1fd655e2eb6e788a077dd683cdc94463dfb533960aae0f72bb341b18", func := "semvcs/semvcslaw17.SequenceCosts", spec := "sequenceCosts", apart := false, narrowed := true }
def SequenceCostsUptoSaid : Prop := sequenceCostsUptoRow.holds Try.pinned (OpenSpec.upto sequenceCostsSpec)

/-- 'semvcslaw17.SequenceVerifies', WHERE WHAT IT READS IS OF BULK AT MOST 1048576: true; the input reads as it did. -/
def sequenceVerifiesUptoRow : OpenClaim := { program := "ytaadaekpmblpaaa", sum := "a2bfe13f1fd655e2eb6e788a077dd683cdc94463dfb533960aae0f72bb341b18", func := "semvcs/semvcslaw17.SequenceVerifies", spec := "sequenceVerifies", apart := false, narrowed := true }
def SequenceVerifiesUptoSaid : Prop := sequenceVerifiesUptoRow.holds Try.pinned (OpenSpec.upto sequenceVerifiesSpec)

/-- 'semvcslaw17.SequenceLeast', WHERE WHAT IT READS IS OF BULK AT MOST 1048576: true; the input reads as it did. -/
def sequenceLeastUptoRow : OpenClaim := { program := "ytaadaekpmblpaaa", sum := "a2bfe13f1fd655e2eb6e788a077dd683cdc94463dfb533960aae0f72bb341b18", func := "semvcs/semvcslaw17.SequenceLeast", spec := "sequenceLeast", apart := false, narrowed := true }
def SequenceLeastUptoSaid : Prop := sequenceLeastUptoRow.holds Try.pinned (OpenSpec.upto sequenceLeastSpec)

/-- 'semvcslaw17.SequenceProves', WHERE WHAT IT READS IS OF BULK AT MOST 1048576: true; the input reads as it did. -/
def sequenceProvesUptoRow : OpenClaim := { program := "ytaadaekpmblpaaa", sum := "a2bfe13f1fd655e2eb6e788a077dd683cdc94463dfb533960aae0f72bb341b18", func := "semvcs/semvcslaw17.SequenceProves", spec := "sequenceProves", apart := false, narrowed := true }
def SequenceProvesUptoSaid : Prop := sequenceProvesUptoRow.holds Try.pinned (OpenSpec.upto sequenceProvesSpec)

end Rows
end Go.Proofs.Ytaadaekpmblpaaa
