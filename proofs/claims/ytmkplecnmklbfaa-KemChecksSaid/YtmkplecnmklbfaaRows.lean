/-
  No cell of these rows narrows 'for every input' (looked for: loops, veiled, ifaces, maps, wideKeys, modest, calm, conditions, laid).
  DERIVED. THE GIVEN ROWS OF THIS SEAT. 4 by the template 'for every input the law returns true; each argument reads behind the call as it read before'; 0 by the template 'total and deterministic' (their statements: YtmkplecnmklbfaaTotals.lean).
  GIVEN WITH THE SEED: the statements are not yours to turn. If you find one false, say at which input.
  Laid BY PROGRAM, IN A SANDBOX (cutbox-rows.mjs): the forced cells as the released guide's own fill.sh prints them over the translation 0a9db6311152e190… (all of the seat's roots in one cut). By AI agents, Wed Nov 11 2026. No macro, syntax, notation, axiom, sorry.
-/
import Derived.Test.YtmkplecnmklbfaaChecked
import GoSem.Claim
import GoSem.ClaimJoined
import GoSem.ClaimMapViews
import Derived.JoinedTies
import Derived.KernelRfl
namespace Go.Proofs.Ytmkplecnmklbfaa
/- THE CELL 'sum', in the pinned program and in every row, IS THE sha256 OF THE DUMP (.gsa) THAT YtmkplecnmklbfaaProg.lean LOADS. Nothing in Lean hashes anything: it is a label: what it is worth is what the hold of that sum in a sandbox is worth. -/
noncomputable def Try.pinned : Pinned := { name := "ytmkplecnmklbfaa", sum := "0a9db6311152e190ee8ecff05046081197872ac509bc99e1f9d5196d5c5ab0e6", checked := Try.checked }
namespace Rows
def none {H : Type} : Left H := { results := [], args := [] }

/-- 'missivelaw11.KemChecks': WHATEVER THE INPUT: true; the input reads as it did. -/
def kemChecksSpec : ChangeSpec := { name := "kemChecks", fn := fun _ => fun
  | [d1, d2, d3, d4] => { results := [.lit (.bool true)], args := [d1, d2, d3, d4] }
  | _ => none }
def kemChecksRow : OpenClaim := { program := "ytmkplecnmklbfaa", sum := "0a9db6311152e190ee8ecff05046081197872ac509bc99e1f9d5196d5c5ab0e6", func := "missive/missivelaw11.KemChecks", spec := "kemChecks", unfollowed := true, recurses := true, apart := false }
def KemChecksSaid : Prop := kemChecksRow.holds Try.pinned (OpenSpec.ofChange kemChecksSpec)

/-- ITS FALSE NEIGHBOUR: 'it returns false'. Refute it at one input. -/
def kemChecksWrong : ChangeSpec := { name := "kemChecks", fn := fun _ => fun
  | [d1, d2, d3, d4] => { results := [.lit (.bool false)], args := [d1, d2, d3, d4] }
  | _ => none }
def KemChecksWrongFalsely : Prop := kemChecksRow.holds Try.pinned (OpenSpec.ofChange kemChecksWrong)

/-- 'missivelaw11.KemDraws': WHATEVER THE INPUT: true; the input reads as it did. -/
def kemDrawsSpec : ChangeSpec := { name := "kemDraws", fn := fun _ => fun
  | [d1, d2, d3] => { results := [.lit (.bool true)], args := [d1, d2, d3] }
  | _ => none }
def kemDrawsRow : OpenClaim := { program := "ytmkplecnmklbfaa", sum := "0a9db6311152e190ee8ecff05046081197872ac509bc99e1f9d5196d5c5ab0e6", func := "missive/missivelaw11.KemDraws", spec := "kemDraws", unfollowed := true, recurses := true, apart := false }
def KemDrawsSaid : Prop := kemDrawsRow.holds Try.pinned (OpenSpec.ofChange kemDrawsSpec)

/-- ITS FALSE NEIGHBOUR: 'it returns false'. Refute it at one input. -/
def kemDrawsWrong : ChangeSpec := { name := "kemDraws", fn := fun _ => fun
  | [d1, d2, d3] => { results := [.lit (.bool false)], args := [d1, d2, d3] }
  | _ => none }
def KemDrawsWrongFalsely : Prop := kemDrawsRow.holds Try.pinned (OpenSpec.ofChange kemDrawsWrong)

/-- 'missivelaw22.KemrLost': WHATEVER THE INPUT: true; the input reads as it did. -/
def kemrLostSpec : ChangeSpec := { name := "kemrLost", fn := fun _ => fun
  | [d1, d2, d3] => { results := [.lit (.bool true)], args := [d1, d2, d3] }
  | _ => none }
def kemrLostRow : OpenClaim := { program := "ytmkplecnmklbfaa", sum := "0a9db6311152e190ee8ecff05046081197872ac509bc99e1f9d5196d5c5ab0e6", func := "missive/missivelaw22.KemrLost", spec := "kemrLost", unfollowed := true, recurses := true, apart := false }
def KemrLostSaid : Prop := kemrLostRow.holds Try.pinned (OpenSpec.ofChange kemrLostSpec)

/-- ITS FALSE NEIGHBOUR: 'it returns false'. Refute it at one input. -/
def kemrLostWrong : ChangeSpec := { name := "kemrLost", fn := fun _ => fun
  | [d1, d2, d3] => { results := [.lit (.bool false)], args := [d1, d2, d3] }
  | _ => none }
def KemrLostWrongFalsely : Prop := kemrLostRow.holds Try.pinned (OpenSpec.ofChange kemrLostWrong)

/-- 'missivelaw22.KemrCopies': WHATEVER THE INPUT: true; the input reads as it did. -/
def kemrCopiesSpec : ChangeSpec := { name := "kemrCopies", fn := fun _ => fun
  | [d1, d2, d3] => { results := [.lit (.bool true)], args := [d1, d2, d3] }
  | _ => none }
def kemrCopiesRow : OpenClaim := { program := "ytmkplecnmklbfaa", sum := "0a9db6311152e190ee8ecff05046081197872ac509bc99e1f9d5196d5c5ab0e6", func := "missive/missivelaw22.KemrCopies", spec := "kemrCopies", unfollowed := true, recurses := true, apart := false }
def KemrCopiesSaid : Prop := kemrCopiesRow.holds Try.pinned (OpenSpec.ofChange kemrCopiesSpec)

/-- ITS FALSE NEIGHBOUR: 'it returns false'. Refute it at one input. -/
def kemrCopiesWrong : ChangeSpec := { name := "kemrCopies", fn := fun _ => fun
  | [d1, d2, d3] => { results := [.lit (.bool false)], args := [d1, d2, d3] }
  | _ => none }
def KemrCopiesWrongFalsely : Prop := kemrCopiesRow.holds Try.pinned (OpenSpec.ofChange kemrCopiesWrong)

/- THE SECOND FORM. 'bulk': how many values and letters a reading holds, each counted each time it is reached (what is shared counts as often as it is met; a slice's spare places count too). A statement '..UptoSaid' is the law's where the arguments, and the package variables that the reading takes, are together of bulk at most 1048576: NARROWER than '..Said'. Prove '..Said' where nothing that the law and all that it calls make is longer than what came in: it says more and counts as full. Else prove '..UptoSaid'. A law counts once. -/
mutual
def uptoBulk {H : Type} : DataW H → Nat
  | .lit (.string bytes) => bytes.length + 1
  | .lit _ => 1
  | .nil => 1
  | .ptr d => uptoBulk d + 1
  | .slice elems spare => uptoBulkAll elems + uptoBulkAll spare + 1
  | .agg parts => uptoBulkAll parts + 1
  | .iface _ d => uptoBulk d + 1
  | .map entries => uptoBulkEntries entries + 1
  | .held _ => 1
def uptoBulkAll {H : Type} : List (DataW H) → Nat
  | [] => 0
  | d :: r => uptoBulk d + uptoBulkAll r
def uptoBulkEntries {H : Type} : List (Lit × DataW H) → Nat
  | [] => 0
  | x :: r => uptoBulkEntry x + uptoBulkEntries r
def uptoBulkEntry {H : Type} : Lit × DataW H → Nat
  | (.string bytes, d) => bytes.length + uptoBulk d + 1
  | (_, d) => uptoBulk d + 1
 end
def uptoSmall : (H : Type) → List (DataW H) → Bool := fun _ ds => decide (uptoBulkAll ds ≤ 1048576)
def OpenSpec.upto (s : _root_.Go.ChangeSpec) : _root_.Go.OpenSpec := { _root_.Go.OpenSpec.ofChange s with cond := some uptoSmall }

/-- 'missivelaw11.KemChecks', WHERE WHAT IT READS IS OF BULK AT MOST 1048576: true; the input reads as it did. -/
def kemChecksUptoRow : OpenClaim := { program := "ytmkplecnmklbfaa", sum := "0a9db6311152e190ee8ecff05046081197872ac509bc99e1f9d5196d5c5ab0e6", func := "missive/missivelaw11.KemChecks", spec := "kemChecks", unfollowed := true, recurses := true, apart := false, narrowed := true }
def KemChecksUptoSaid : Prop := kemChecksUptoRow.holds Try.pinned (OpenSpec.upto kemChecksSpec)

/-- 'missivelaw11.KemDraws', WHERE WHAT IT READS IS OF BULK AT MOST 1048576: true; the input reads as it did. -/
def kemDrawsUptoRow : OpenClaim := { program := "ytmkplecnmklbfaa", sum := "0a9db6311152e190ee8ecff05046081197872ac509bc99e1f9d5196d5c5ab0e6", func := "missive/missivelaw11.KemDraws", spec := "kemDraws", unfollowed := true, recurses := true, apart := false, narrowed := true }
def KemDrawsUptoSaid : Prop := kemDrawsUptoRow.holds Try.pinned (OpenSpec.upto kemDrawsSpec)

/-- 'missivelaw22.KemrLost', WHERE WHAT IT READS IS OF BULK AT MOST 1048576: true; the input reads as it did. -/
def kemrLostUptoRow : OpenClaim := { program := "ytmkplecnmklbfaa", sum := "0a9db6311152e190ee8ecff05046081197872ac509bc99e1f9d5196d5c5ab0e6", func := "missive/missivelaw22.KemrLost", spec := "kemrLost", unfollowed := true, recurses := true, apart := false, narrowed := true }
def KemrLostUptoSaid : Prop := kemrLostUptoRow.holds Try.pinned (OpenSpec.upto kemrLostSpec)

/-- 'missivelaw22.KemrCopies', WHERE WHAT IT READS IS OF BULK AT MOST 1048576: true; the input reads as it did. -/
def kemrCopiesUptoRow : OpenClaim := { program := "ytmkplecnmklbfaa", sum := "0a9db6311152e190ee8ecff05046081197872ac509bc99e1f9d5196d5c5ab0e6", func := "missive/missivelaw22.KemrCopies", spec := "kemrCopies", unfollowed := true, recurses := true, apart := false, narrowed := true }
def KemrCopiesUptoSaid : Prop := kemrCopiesUptoRow.holds Try.pinned (OpenSpec.upto kemrCopiesSpec)

end Rows
end Go.Proofs.Ytmkplecnmklbfaa
