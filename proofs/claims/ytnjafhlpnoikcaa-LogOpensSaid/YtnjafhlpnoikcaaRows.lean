/-
  No cell of these rows narrows 'for every input' (looked for: loops, veiled, ifaces, maps, wideKeys, modest, calm, conditions, laid).
  DERIVED. THE GIVEN ROWS OF THIS SEAT. 5 by the template 'for every input the law returns true; each argument reads behind the call as it read before'; 0 by the template 'total and deterministic' (their statements: YtnjafhlpnoikcaaTotals.lean).
  GIVEN WITH THE SEED: the statements are not yours to turn. If you find one false, say at which input.
  Laid BY PROGRAM, IN A SANDBOX (cutbox-rows.mjs): the forced cells as the released guide's own fill.sh prints them over the translation 9e098681f87cacc0… (all of the seat's roots in one cut). By AI agents, Wed Nov 11 2026. No macro, syntax, notation, axiom, sorry.
-/
import Derived.Test.YtnjafhlpnoikcaaChecked
import GoSem.Claim
import GoSem.ClaimJoined
import GoSem.ClaimMapViews
import Derived.JoinedTies
import Derived.KernelRfl
namespace Go.Proofs.Ytnjafhlpnoikcaa
/- THE CELL 'sum', in the pinned program and in every row, IS THE sha256 OF THE DUMP (.gsa) THAT YtnjafhlpnoikcaaProg.lean LOADS. Nothing in Lean hashes anything: it is a label: what it is worth is what the hold of that sum in a sandbox is worth. -/
noncomputable def Try.pinned : Pinned := { name := "ytnjafhlpnoikcaa", sum := "9e098681f87cacc096b38dea410417f190b6d979de2f65970c9deecc11b53843", checked := Try.checked }
namespace Rows
def none {H : Type} : Left H := { results := [], args := [] }

/-- 'semvcslaw41.LogOff': WHATEVER THE INPUT: true; the input reads as it did. -/
def logOffSpec : ChangeSpec := { name := "logOff", fn := fun _ => fun
  | [d] => { results := [.lit (.bool true)], args := [d] }
  | _ => none }
def logOffRow : OpenClaim := { program := "ytnjafhlpnoikcaa", sum := "9e098681f87cacc096b38dea410417f190b6d979de2f65970c9deecc11b53843", func := "semvcs/semvcslaw41.LogOff", spec := "logOff", unfollowed := true, recurses := true, apart := false }
def LogOffSaid : Prop := logOffRow.holds Try.pinned (OpenSpec.ofChange logOffSpec)

/-- ITS FALSE NEIGHBOUR: 'it returns false'. Refute it at one input. -/
def logOffWrong : ChangeSpec := { name := "logOff", fn := fun _ => fun
  | [d] => { results := [.lit (.bool false)], args := [d] }
  | _ => none }
def LogOffWrongFalsely : Prop := logOffRow.holds Try.pinned (OpenSpec.ofChange logOffWrong)

/-- 'semvcslaw41.LogKeeps': WHATEVER THE INPUT: true; the input reads as it did. -/
def logKeepsSpec : ChangeSpec := { name := "logKeeps", fn := fun _ => fun
  | [d1, d2, d3, d4, d5] => { results := [.lit (.bool true)], args := [d1, d2, d3, d4, d5] }
  | _ => none }
def logKeepsRow : OpenClaim := { program := "ytnjafhlpnoikcaa", sum := "9e098681f87cacc096b38dea410417f190b6d979de2f65970c9deecc11b53843", func := "semvcs/semvcslaw41.LogKeeps", spec := "logKeeps", unfollowed := true, recurses := true, apart := false }
def LogKeepsSaid : Prop := logKeepsRow.holds Try.pinned (OpenSpec.ofChange logKeepsSpec)

/-- ITS FALSE NEIGHBOUR: 'it returns false'. Refute it at one input. -/
def logKeepsWrong : ChangeSpec := { name := "logKeeps", fn := fun _ => fun
  | [d1, d2, d3, d4, d5] => { results := [.lit (.bool false)], args := [d1, d2, d3, d4, d5] }
  | _ => none }
def LogKeepsWrongFalsely : Prop := logKeepsRow.holds Try.pinned (OpenSpec.ofChange logKeepsWrong)

/-- 'semvcslaw41.LogOpens': WHATEVER THE INPUT: true; the input reads as it did. -/
def logOpensSpec : ChangeSpec := { name := "logOpens", fn := fun _ => fun
  | [d1, d2, d3] => { results := [.lit (.bool true)], args := [d1, d2, d3] }
  | _ => none }
def logOpensRow : OpenClaim := { program := "ytnjafhlpnoikcaa", sum := "9e098681f87cacc096b38dea410417f190b6d979de2f65970c9deecc11b53843", func := "semvcs/semvcslaw41.LogOpens", spec := "logOpens", unfollowed := true, recurses := true, apart := false }
def LogOpensSaid : Prop := logOpensRow.holds Try.pinned (OpenSpec.ofChange logOpensSpec)

/-- ITS FALSE NEIGHBOUR: 'it returns false'. Refute it at one input. -/
def logOpensWrong : ChangeSpec := { name := "logOpens", fn := fun _ => fun
  | [d1, d2, d3] => { results := [.lit (.bool false)], args := [d1, d2, d3] }
  | _ => none }
def LogOpensWrongFalsely : Prop := logOpensRow.holds Try.pinned (OpenSpec.ofChange logOpensWrong)

/-- 'semvcslaw41.LogResets': WHATEVER THE INPUT: true; the input reads as it did. -/
def logResetsSpec : ChangeSpec := { name := "logResets", fn := fun _ => fun
  | [d1, d2, d3, d4, d5] => { results := [.lit (.bool true)], args := [d1, d2, d3, d4, d5] }
  | _ => none }
def logResetsRow : OpenClaim := { program := "ytnjafhlpnoikcaa", sum := "9e098681f87cacc096b38dea410417f190b6d979de2f65970c9deecc11b53843", func := "semvcs/semvcslaw41.LogResets", spec := "logResets", unfollowed := true, recurses := true, apart := false }
def LogResetsSaid : Prop := logResetsRow.holds Try.pinned (OpenSpec.ofChange logResetsSpec)

/-- ITS FALSE NEIGHBOUR: 'it returns false'. Refute it at one input. -/
def logResetsWrong : ChangeSpec := { name := "logResets", fn := fun _ => fun
  | [d1, d2, d3, d4, d5] => { results := [.lit (.bool false)], args := [d1, d2, d3, d4, d5] }
  | _ => none }
def LogResetsWrongFalsely : Prop := logResetsRow.holds Try.pinned (OpenSpec.ofChange logResetsWrong)

/-- 'semvcslaw41.LogPlays': WHATEVER THE INPUT: true; the input reads as it did. -/
def logPlaysSpec : ChangeSpec := { name := "logPlays", fn := fun _ => fun
  | [d1, d2] => { results := [.lit (.bool true)], args := [d1, d2] }
  | _ => none }
def logPlaysRow : OpenClaim := { program := "ytnjafhlpnoikcaa", sum := "9e098681f87cacc096b38dea410417f190b6d979de2f65970c9deecc11b53843", func := "semvcs/semvcslaw41.LogPlays", spec := "logPlays", unfollowed := true, recurses := true, apart := false }
def LogPlaysSaid : Prop := logPlaysRow.holds Try.pinned (OpenSpec.ofChange logPlaysSpec)

/-- ITS FALSE NEIGHBOUR: 'it returns false'. Refute it at one input. -/
def logPlaysWrong : ChangeSpec := { name := "logPlays", fn := fun _ => fun
  | [d1, d2] => { results := [.lit (.bool false)], args := [d1, d2] }
  | _ => none }
def LogPlaysWrongFalsely : Prop := logPlaysRow.holds Try.pinned (OpenSpec.ofChange logPlaysWrong)

/- THE SECOND FORM. 'bulk': how many values and letters a reading holds, each counted each time it is reached (what is shared counts as often as it is met; a slice's spare places count too). A statement '..UptoSaid' is the law's where the arguments, and the package variables that the reading takes, are together of bulk at most 1048576: NARROWER than '..Said'. Prove '..Said' where nothing that the law and all that it calls make is longer than what came in: it says more and counts as full. Else prove '..UptoSaid'. A law counts once. -/
mutual
def uptoBulk {H : Type} : DataW H → Nat
  | .lit (.string bytes) => bytes.length + 1
  | .lit _ => 1
  | .nil => 1
  | .ptr d => uptoBulk d + 1
  | .slice elems spare => uptoBulkAll elems + uptoBulkAll spare + 1
  | .agg parts => uptoBulkAll parts + 1
  | .iface _ d => uptoBulk d + 1
  | .map entries => uptoBulkEntries entries + 1
  | .held _ => 1
def uptoBulkAll {H : Type} : List (DataW H) → Nat
  | [] => 0
  | d :: r => uptoBulk d + uptoBulkAll r
def uptoBulkEntries {H : Type} : List (Lit × DataW H) → Nat
  | [] => 0
  | x :: r => uptoBulkEntry x + uptoBulkEntries r
def uptoBulkEntry {H : Type} : Lit × DataW H → Nat
  | (.string bytes, d) => bytes.length + uptoBulk d + 1
  | (_, d) => uptoBulk d + 1
 end
def uptoSmall : (H : Type) → List (DataW H) → Bool := fun _ ds => decide (uptoBulkAll ds ≤ 1048576)
def OpenSpec.upto (s : _root_.Go.ChangeSpec) : _root_.Go.OpenSpec := { _root_.Go.OpenSpec.ofChange s with cond := some uptoSmall }

/-- 'semvcslaw41.LogOff', WHERE WHAT IT READS IS OF BULK AT MOST 1048576: true; the input reads as it did. -/
def logOffUptoRow : OpenClaim := { program := "ytnjafhlpnoikcaa", sum := "9e098681f87cacc096b38dea410417f190b6d979de2f65970c9deecc11b53843", func := "semvcs/semvcslaw41.LogOff", spec := "logOff", unfollowed := true, recurses := true, apart := false, narrowed := true }
def LogOffUptoSaid : Prop := logOffUptoRow.holds Try.pinned (OpenSpec.upto logOffSpec)

/-- 'semvcslaw41.LogKeeps', WHERE WHAT IT READS IS OF BULK AT MOST 1048576: true; the input reads as it did. -/
def logKeepsUptoRow : OpenClaim := { program := "ytnjafhlpnoikcaa", sum := "9e098681f87cacc096b38dea410417f190b6d979de2f65970c9deecc11b53843", func := "semvcs/semvcslaw41.LogKeeps", spec := "logKeeps", unfollowed := true, recurses := true, apart := false, narrowed := true }
def LogKeepsUptoSaid : Prop := logKeepsUptoRow.holds Try.pinned (OpenSpec.upto logKeepsSpec)

/-- 'semvcslaw41.LogOpens', WHERE WHAT IT READS IS OF BULK AT MOST 1048576: true; the input reads as it did. -/
def logOpensUptoRow : OpenClaim := { program := "ytnjafhlpnoikcaa", sum := "9e098681f87cacc096b38dea410417f190b6d979de2f65970c9deecc11b53843", func := "semvcs/semvcslaw41.LogOpens", spec := "logOpens", unfollowed := true, recurses := true, apart := false, narrowed := true }
def LogOpensUptoSaid : Prop := logOpensUptoRow.holds Try.pinned (OpenSpec.upto logOpensSpec)

/-- 'semvcslaw41.LogResets', WHERE WHAT IT READS IS OF BULK AT MOST 1048576: true; the input reads as it did. -/
def logResetsUptoRow : OpenClaim := { program := "ytnjafhlpnoikcaa", sum := "9e098681f87cacc096b38dea410417f190b6d979de2f65970c9deecc11b53843", func := "semvcs/semvcslaw41.LogResets", spec := "logResets", unfollowed := true, recurses := true, apart := false, narrowed := true }
def LogResetsUptoSaid : Prop := logResetsUptoRow.holds Try.pinned (OpenSpec.upto logResetsSpec)

/-- 'semvcslaw41.LogPlays', WHERE WHAT IT READS IS OF BULK AT MOST 1048576: true; the input reads as it did. -/
def logPlaysUptoRow : OpenClaim := { program := "ytnjafhlpnoikcaa", sum := "9e098681f87cacc096b38dea410417f190b6d979de2f65970c9deecc11b53843", func := "semvcs/semvcslaw41.LogPlays", spec := "logPlays", unfollowed := true, recurses := true, apart := false, narrowed := true }
def LogPlaysUptoSaid : Prop := logPlaysUptoRow.holds Try.pinned (OpenSpec.upto logPlaysSpec)

end Rows
end Go.Proofs.Ytnjafhlpnoikcaa
