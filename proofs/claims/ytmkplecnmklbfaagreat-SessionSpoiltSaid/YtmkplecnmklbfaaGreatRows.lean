/-
  No cell of these rows narrows 'for every input' (looked for: loops, veiled, ifaces, maps, wideKeys, modest, calm, conditions, laid).
  DERIVED. THE GIVEN ROWS OF THIS SEAT. 8 by the template 'for every input the law returns true; each argument reads behind the call as it read before'; 0 by the template 'total and deterministic' (their statements: YtmkplecnmklbfaaGreatTotals.lean).
  GIVEN WITH THE SEED: the statements are not yours to turn. If you find one false, say at which input.
  Laid BY PROGRAM, IN A SANDBOX (cutbox-rows.mjs): the forced cells as the released guide's own fill.sh prints them over the translation 52ed0cc153589e72… (all of the seat's roots in one cut). By AI agents, Wed Nov 11 2026. No macro, syntax, notation, axiom, sorry.
-/
import Derived.Test.YtmkplecnmklbfaaGreatChecked
import GoSem.Claim
import GoSem.ClaimJoined
import GoSem.ClaimMapViews
import Derived.JoinedTies
import Derived.KernelRfl
namespace Go.Proofs.YtmkplecnmklbfaaGreat
/- THE CELL 'sum', in the pinned program and in every row, IS THE sha256 OF THE DUMP (.gsa) THAT YtmkplecnmklbfaaGreatProg.lean LOADS. Nothing in Lean hashes anything: it is a label: what it is worth is what the hold of that sum in a sandbox is worth. -/
noncomputable def Tryz.pinned : Pinned := { name := "ytmkplecnmklbfaagreat", sum := "52ed0cc153589e72a561380f321f9972a165b5f272f2fe78285390858684160e", checked := Tryz.checked }
namespace Rows
def none {H : Type} : Left H := { results := [], args := [] }

/-- 'missivelaw25.SessionFar': WHATEVER THE INPUT: true; the input reads as it did. -/
def sessionFarSpec : ChangeSpec := { name := "sessionFar", fn := fun _ => fun
  | [d1, d2, d3] => { results := [.lit (.bool true)], args := [d1, d2, d3] }
  | _ => none }
def sessionFarRow : OpenClaim := { program := "ytmkplecnmklbfaagreat", sum := "52ed0cc153589e72a561380f321f9972a165b5f272f2fe78285390858684160e", func := "missive/missivelaw25.SessionFar", spec := "sessionFar", unfollowed := true, recurses := true, apart := false }
def SessionFarSaid : Prop := sessionFarRow.holds Tryz.pinned (OpenSpec.ofChange sessionFarSpec)

/-- ITS FALSE NEIGHBOUR: 'it returns false'. Refute it at one input. -/
def sessionFarWrong : ChangeSpec := { name := "sessionFar", fn := fun _ => fun
  | [d1, d2, d3] => { results := [.lit (.bool false)], args := [d1, d2, d3] }
  | _ => none }
def SessionFarWrongFalsely : Prop := sessionFarRow.holds Tryz.pinned (OpenSpec.ofChange sessionFarWrong)

/-- 'missivelaw25.SessionTurns': WHATEVER THE INPUT: true; the input reads as it did. -/
def sessionTurnsSpec : ChangeSpec := { name := "sessionTurns", fn := fun _ => fun
  | [d1, d2, d3] => { results := [.lit (.bool true)], args := [d1, d2, d3] }
  | _ => none }
def sessionTurnsRow : OpenClaim := { program := "ytmkplecnmklbfaagreat", sum := "52ed0cc153589e72a561380f321f9972a165b5f272f2fe78285390858684160e", func := "missive/missivelaw25.SessionTurns", spec := "sessionTurns", unfollowed := true, recurses := true, apart := false }
def SessionTurnsSaid : Prop := sessionTurnsRow.holds Tryz.pinned (OpenSpec.ofChange sessionTurnsSpec)

/-- ITS FALSE NEIGHBOUR: 'it returns false'. Refute it at one input. -/
def sessionTurnsWrong : ChangeSpec := { name := "sessionTurns", fn := fun _ => fun
  | [d1, d2, d3] => { results := [.lit (.bool false)], args := [d1, d2, d3] }
  | _ => none }
def SessionTurnsWrongFalsely : Prop := sessionTurnsRow.holds Tryz.pinned (OpenSpec.ofChange sessionTurnsWrong)

/-- 'missivelaw25.SessionRow': WHATEVER THE INPUT: true; the input reads as it did. -/
def sessionRowSpec : ChangeSpec := { name := "sessionRow", fn := fun _ => fun
  | [d1, d2, d3] => { results := [.lit (.bool true)], args := [d1, d2, d3] }
  | _ => none }
def sessionRowRow : OpenClaim := { program := "ytmkplecnmklbfaagreat", sum := "52ed0cc153589e72a561380f321f9972a165b5f272f2fe78285390858684160e", func := "missive/missivelaw25.SessionRow", spec := "sessionRow", unfollowed := true, recurses := true, apart := false }
def SessionRowSaid : Prop := sessionRowRow.holds Tryz.pinned (OpenSpec.ofChange sessionRowSpec)

/-- ITS FALSE NEIGHBOUR: 'it returns false'. Refute it at one input. -/
def sessionRowWrong : ChangeSpec := { name := "sessionRow", fn := fun _ => fun
  | [d1, d2, d3] => { results := [.lit (.bool false)], args := [d1, d2, d3] }
  | _ => none }
def SessionRowWrongFalsely : Prop := sessionRowRow.holds Tryz.pinned (OpenSpec.ofChange sessionRowWrong)

/-- 'missivelaw25.SessionTalk': WHATEVER THE INPUT: true; the input reads as it did. -/
def sessionTalkSpec : ChangeSpec := { name := "sessionTalk", fn := fun _ => fun
  | [d1, d2, d3, d4] => { results := [.lit (.bool true)], args := [d1, d2, d3, d4] }
  | _ => none }
def sessionTalkRow : OpenClaim := { program := "ytmkplecnmklbfaagreat", sum := "52ed0cc153589e72a561380f321f9972a165b5f272f2fe78285390858684160e", func := "missive/missivelaw25.SessionTalk", spec := "sessionTalk", unfollowed := true, recurses := true, apart := false }
def SessionTalkSaid : Prop := sessionTalkRow.holds Tryz.pinned (OpenSpec.ofChange sessionTalkSpec)

/-- ITS FALSE NEIGHBOUR: 'it returns false'. Refute it at one input. -/
def sessionTalkWrong : ChangeSpec := { name := "sessionTalk", fn := fun _ => fun
  | [d1, d2, d3, d4] => { results := [.lit (.bool false)], args := [d1, d2, d3, d4] }
  | _ => none }
def SessionTalkWrongFalsely : Prop := sessionTalkRow.holds Tryz.pinned (OpenSpec.ofChange sessionTalkWrong)

/-- 'missivelaw25.SessionRoots': WHATEVER THE INPUT: true; the input reads as it did. -/
def sessionRootsSpec : ChangeSpec := { name := "sessionRoots", fn := fun _ => fun
  | [d1, d2, d3, d4] => { results := [.lit (.bool true)], args := [d1, d2, d3, d4] }
  | _ => none }
def sessionRootsRow : OpenClaim := { program := "ytmkplecnmklbfaagreat", sum := "52ed0cc153589e72a561380f321f9972a165b5f272f2fe78285390858684160e", func := "missive/missivelaw25.SessionRoots", spec := "sessionRoots", unfollowed := true, recurses := true, apart := false }
def SessionRootsSaid : Prop := sessionRootsRow.holds Tryz.pinned (OpenSpec.ofChange sessionRootsSpec)

/-- ITS FALSE NEIGHBOUR: 'it returns false'. Refute it at one input. -/
def sessionRootsWrong : ChangeSpec := { name := "sessionRoots", fn := fun _ => fun
  | [d1, d2, d3, d4] => { results := [.lit (.bool false)], args := [d1, d2, d3, d4] }
  | _ => none }
def SessionRootsWrongFalsely : Prop := sessionRootsRow.holds Tryz.pinned (OpenSpec.ofChange sessionRootsWrong)

/-- 'missivelaw25.SessionPlays': WHATEVER THE INPUT: true; the input reads as it did. -/
def sessionPlaysSpec : ChangeSpec := { name := "sessionPlays", fn := fun _ => fun
  | [d1, d2, d3] => { results := [.lit (.bool true)], args := [d1, d2, d3] }
  | _ => none }
def sessionPlaysRow : OpenClaim := { program := "ytmkplecnmklbfaagreat", sum := "52ed0cc153589e72a561380f321f9972a165b5f272f2fe78285390858684160e", func := "missive/missivelaw25.SessionPlays", spec := "sessionPlays", unfollowed := true, recurses := true, apart := false }
def SessionPlaysSaid : Prop := sessionPlaysRow.holds Tryz.pinned (OpenSpec.ofChange sessionPlaysSpec)

/-- ITS FALSE NEIGHBOUR: 'it returns false'. Refute it at one input. -/
def sessionPlaysWrong : ChangeSpec := { name := "sessionPlays", fn := fun _ => fun
  | [d1, d2, d3] => { results := [.lit (.bool false)], args := [d1, d2, d3] }
  | _ => none }
def SessionPlaysWrongFalsely : Prop := sessionPlaysRow.holds Tryz.pinned (OpenSpec.ofChange sessionPlaysWrong)

/-- 'missivelaw25.SessionSpoilt': WHATEVER THE INPUT: true; the input reads as it did. -/
def sessionSpoiltSpec : ChangeSpec := { name := "sessionSpoilt", fn := fun _ => fun
  | [d1, d2, d3, d4, d5] => { results := [.lit (.bool true)], args := [d1, d2, d3, d4, d5] }
  | _ => none }
def sessionSpoiltRow : OpenClaim := { program := "ytmkplecnmklbfaagreat", sum := "52ed0cc153589e72a561380f321f9972a165b5f272f2fe78285390858684160e", func := "missive/missivelaw25.SessionSpoilt", spec := "sessionSpoilt", unfollowed := true, recurses := true, apart := false }
def SessionSpoiltSaid : Prop := sessionSpoiltRow.holds Tryz.pinned (OpenSpec.ofChange sessionSpoiltSpec)

/-- ITS FALSE NEIGHBOUR: 'it returns false'. Refute it at one input. -/
def sessionSpoiltWrong : ChangeSpec := { name := "sessionSpoilt", fn := fun _ => fun
  | [d1, d2, d3, d4, d5] => { results := [.lit (.bool false)], args := [d1, d2, d3, d4, d5] }
  | _ => none }
def SessionSpoiltWrongFalsely : Prop := sessionSpoiltRow.holds Tryz.pinned (OpenSpec.ofChange sessionSpoiltWrong)

/-- 'missivelaw25.SessionLoads': WHATEVER THE INPUT: true; the input reads as it did. -/
def sessionLoadsSpec : ChangeSpec := { name := "sessionLoads", fn := fun _ => fun
  | [d1, d2, d3, d4, d5] => { results := [.lit (.bool true)], args := [d1, d2, d3, d4, d5] }
  | _ => none }
def sessionLoadsRow : OpenClaim := { program := "ytmkplecnmklbfaagreat", sum := "52ed0cc153589e72a561380f321f9972a165b5f272f2fe78285390858684160e", func := "missive/missivelaw25.SessionLoads", spec := "sessionLoads", unfollowed := true, recurses := true, apart := false }
def SessionLoadsSaid : Prop := sessionLoadsRow.holds Tryz.pinned (OpenSpec.ofChange sessionLoadsSpec)

/-- ITS FALSE NEIGHBOUR: 'it returns false'. Refute it at one input. -/
def sessionLoadsWrong : ChangeSpec := { name := "sessionLoads", fn := fun _ => fun
  | [d1, d2, d3, d4, d5] => { results := [.lit (.bool false)], args := [d1, d2, d3, d4, d5] }
  | _ => none }
def SessionLoadsWrongFalsely : Prop := sessionLoadsRow.holds Tryz.pinned (OpenSpec.ofChange sessionLoadsWrong)

/- THE SECOND FORM. 'bulk': how many values and letters a reading holds, each counted each time it is reached (what is shared counts as often as it is met; a slice's spare places count too). A statement '..UptoSaid' is the law's where the arguments, and the package variables that the reading takes, are together of bulk at most 1048576: NARROWER than '..Said'. Prove '..Said' where nothing that the law and all that it calls make is longer than what came in: it says more and counts as full. Else prove '..UptoSaid'. A law counts once. -/
mutual
def uptoBulk {H : Type} : DataW H → Nat
  | .lit (.string bytes) => bytes.length + 1
  | .lit _ => 1
  | .nil => 1
  | .ptr d => uptoBulk d + 1
  | .slice elems spare => uptoBulkAll elems + uptoBulkAll spare + 1
  | .agg parts => uptoBulkAll parts + 1
  | .iface _ d => uptoBulk d + 1
  | .map entries => uptoBulkEntries entries + 1
  | .held _ => 1
def uptoBulkAll {H : Type} : List (DataW H) → Nat
  | [] => 0
  | d :: r => uptoBulk d + uptoBulkAll r
def uptoBulkEntries {H : Type} : List (Lit × DataW H) → Nat
  | [] => 0
  | x :: r => uptoBulkEntry x + uptoBulkEntries r
def uptoBulkEntry {H : Type} : Lit × DataW H → Nat
  | (.string bytes, d) => bytes.length + uptoBulk d + 1
  | (_, d) => uptoBulk d + 1
 end
def uptoSmall : (H : Type) → List (DataW H) → Bool := fun _ ds => decide (uptoBulkAll ds ≤ 1048576)
def OpenSpec.upto (s : _root_.Go.ChangeSpec) : _root_.Go.OpenSpec := { _root_.Go.OpenSpec.ofChange s with cond := some uptoSmall }

/-- 'missivelaw25.SessionFar', WHERE WHAT IT READS IS OF BULK AT MOST 1048576: true; the input reads as it did. -/
def sessionFarUptoRow : OpenClaim := { program := "ytmkplecnmklbfaagreat", sum := "52ed0cc153589e72a561380f321f9972a165b5f272f2fe78285390858684160e", func := "missive/missivelaw25.SessionFar", spec := "sessionFar", unfollowed := true, recurses := true, apart := false, narrowed := true }
def SessionFarUptoSaid : Prop := sessionFarUptoRow.holds Tryz.pinned (OpenSpec.upto sessionFarSpec)

/-- 'missivelaw25.SessionTurns', WHERE WHAT IT READS IS OF BULK AT MOST 1048576: true; the input reads as it did. -/
def sessionTurnsUptoRow : OpenClaim := { program := "ytmkplecnmklbfaagreat", sum := "52ed0cc153589e72a561380f321f9972a165b5f272f2fe78285390858684160e", func := "missive/missivelaw25.SessionTurns", spec := "sessionTurns", unfollowed := true, recurses := true, apart := false, narrowed := true }
def SessionTurnsUptoSaid : Prop := sessionTurnsUptoRow.holds Tryz.pinned (OpenSpec.upto sessionTurnsSpec)

/-- 'missivelaw25.SessionRow', WHERE WHAT IT READS IS OF BULK AT MOST 1048576: true; the input reads as it did. -/
def sessionRowUptoRow : OpenClaim := { program := "ytmkplecnmklbfaagreat", sum := "52ed0cc153589e72a561380f321f9972a165b5f272f2fe78285390858684160e", func := "missive/missivelaw25.SessionRow", spec := "sessionRow", unfollowed := true, recurses := true, apart := false, narrowed := true }
def SessionRowUptoSaid : Prop := sessionRowUptoRow.holds Tryz.pinned (OpenSpec.upto sessionRowSpec)

/-- 'missivelaw25.SessionTalk', WHERE WHAT IT READS IS OF BULK AT MOST 1048576: true; the input reads as it did. -/
def sessionTalkUptoRow : OpenClaim := { program := "ytmkplecnmklbfaagreat", sum := "52ed0cc153589e72a561380f321f9972a165b5f272f2fe78285390858684160e", func := "missive/missivelaw25.SessionTalk", spec := "sessionTalk", unfollowed := true, recurses := true, apart := false, narrowed := true }
def SessionTalkUptoSaid : Prop := sessionTalkUptoRow.holds Tryz.pinned (OpenSpec.upto sessionTalkSpec)

/-- 'missivelaw25.SessionRoots', WHERE WHAT IT READS IS OF BULK AT MOST 1048576: true; the input reads as it did. -/
def sessionRootsUptoRow : OpenClaim := { program := "ytmkplecnmklbfaagreat", sum := "52ed0cc153589e72a561380f321f9972a165b5f272f2fe78285390858684160e", func := "missive/missivelaw25.SessionRoots", spec := "sessionRoots", unfollowed := true, recurses := true, apart := false, narrowed := true }
def SessionRootsUptoSaid : Prop := sessionRootsUptoRow.holds Tryz.pinned (OpenSpec.upto sessionRootsSpec)

/-- 'missivelaw25.SessionPlays', WHERE WHAT IT READS IS OF BULK AT MOST 1048576: true; the input reads as it did. -/
def sessionPlaysUptoRow : OpenClaim := { program := "ytmkplecnmklbfaagreat", sum := "52ed0cc153589e72a561380f321f9972a165b5f272f2fe78285390858684160e", func := "missive/missivelaw25.SessionPlays", spec := "sessionPlays", unfollowed := true, recurses := true, apart := false, narrowed := true }
def SessionPlaysUptoSaid : Prop := sessionPlaysUptoRow.holds Tryz.pinned (OpenSpec.upto sessionPlaysSpec)

/-- 'missivelaw25.SessionSpoilt', WHERE WHAT IT READS IS OF BULK AT MOST 1048576: true; the input reads as it did. -/
def sessionSpoiltUptoRow : OpenClaim := { program := "ytmkplecnmklbfaagreat", sum := "52ed0cc153589e72a561380f321f9972a165b5f272f2fe78285390858684160e", func := "missive/missivelaw25.SessionSpoilt", spec := "sessionSpoilt", unfollowed := true, recurses := true, apart := false, narrowed := true }
def SessionSpoiltUptoSaid : Prop := sessionSpoiltUptoRow.holds Tryz.pinned (OpenSpec.upto sessionSpoiltSpec)

/-- 'missivelaw25.SessionLoads', WHERE WHAT IT READS IS OF BULK AT MOST 1048576: true; the input reads as it did. -/
def sessionLoadsUptoRow : OpenClaim := { program := "ytmkplecnmklbfaagreat", sum := "52ed0cc153589e72a561380f321f9972a165b5f272f2fe78285390858684160e", func := "missive/missivelaw25.SessionLoads", spec := "sessionLoads", unfollowed := true, recurses := true, apart := false, narrowed := true }
def SessionLoadsUptoSaid : Prop := sessionLoadsUptoRow.holds Tryz.pinned (OpenSpec.upto sessionLoadsSpec)

end Rows
end Go.Proofs.YtmkplecnmklbfaaGreat
