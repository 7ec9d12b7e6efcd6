/-
  NARROWER THAN 'FOR EVERY INPUT', by the rows' own cells (each row's printed sentence says how): TermLocks: laid · TermKems: laid · TermHashes: laid · TermShares: laid · TermGrows: loops, laid · SymbolHeals: laid · SymbolHybrid: laid · SymbolIndexes: laid · SymbolPlays: laid · SymbolClean: laid · SymbolNothing: laid · SymbolBoxes: laid.
  DERIVED. THE GIVEN ROWS OF THIS SEAT. 12 by the template 'for every input the law returns true; each argument reads behind the call as it read before'; 0 by the template 'total and deterministic' (their statements: YtoefhjabaanokaaDoorTotals.lean).
  GIVEN WITH THE SEED: the statements are not yours to turn. If you find one false, say at which input.
  Laid BY PROGRAM, IN A SANDBOX (cutbox-rows.mjs): the forced cells as the released guide's own fill.sh prints them over the translation d2167052bd4e2617… (all of the seat's roots in one cut). By AI agents, Wed Nov 11 2026. No macro, syntax, notation, axiom, sorry.
-/
import Derived.Test.YtoefhjabaanokaaDoorChecked
import GoSem.Claim
import GoSem.ClaimJoined
import GoSem.ClaimMapViews
import Derived.JoinedTies
import Derived.KernelRfl
namespace Go.Proofs.YtoefhjabaanokaaDoor
/- THE CELL 'sum', in the pinned program and in every row, IS THE sha256 OF THE DUMP (.gsa) THAT YtoefhjabaanokaaDoorProg.lean LOADS. Nothing in Lean hashes anything: it is a label: what it is worth is what the hold of that sum in a sandbox is worth. -/
noncomputable def Tryd.pinned : Pinned := { name := "ytoefhjabaanokaadoor", sum := "d2167052bd4e2617db37b6872c99b0d81c8bfdccae4989c683a8b95b31438254", checked := Tryd.checked }
namespace Rows
def none {H : Type} : Left H := { results := [], args := [] }

/- WHAT THE LISTED PACKAGE-LEVEL VARIABLES READ AS WHEN THE CALL BEGINS. Each datum BY PROGRAM (the guide's laid-datum.mjs) off the statement by which the dump's own 'gosem.cut.vars' lays the variable. In a bare row this is a premise. The card (YtoefhjabaanokaaDoorCards.lean) ties it to the program's text. -/
def laid_math_bits_deBruijn32tab {H : Type} : DataW H := .agg [.lit (.int .u8 0), .lit (.int .u8 1), .lit (.int .u8 28), .lit (.int .u8 2), .lit (.int .u8 29), .lit (.int .u8 14), .lit (.int .u8 24), .lit (.int .u8 3), .lit (.int .u8 30), .lit (.int .u8 22), .lit (.int .u8 20), .lit (.int .u8 15), .lit (.int .u8 25), .lit (.int .u8 17), .lit (.int .u8 4), .lit (.int .u8 8), .lit (.int .u8 31), .lit (.int .u8 27), .lit (.int .u8 13), .lit (.int .u8 23), .lit (.int .u8 21), .lit (.int .u8 19), .lit (.int .u8 16), .lit (.int .u8 7), .lit (.int .u8 26), .lit (.int .u8 12), .lit (.int .u8 18), .lit (.int .u8 6), .lit (.int .u8 11), .lit (.int .u8 5), .lit (.int .u8 10), .lit (.int .u8 9)]
def laid_math_bits_deBruijn64tab {H : Type} : DataW H := .agg [.lit (.int .u8 0), .lit (.int .u8 1), .lit (.int .u8 56), .lit (.int .u8 2), .lit (.int .u8 57), .lit (.int .u8 49), .lit (.int .u8 28), .lit (.int .u8 3), .lit (.int .u8 61), .lit (.int .u8 58), .lit (.int .u8 42), .lit (.int .u8 50), .lit (.int .u8 38), .lit (.int .u8 29), .lit (.int .u8 17), .lit (.int .u8 4), .lit (.int .u8 62), .lit (.int .u8 47), .lit (.int .u8 59), .lit (.int .u8 36), .lit (.int .u8 45), .lit (.int .u8 43), .lit (.int .u8 51), .lit (.int .u8 22), .lit (.int .u8 53), .lit (.int .u8 39), .lit (.int .u8 33), .lit (.int .u8 30), .lit (.int .u8 24), .lit (.int .u8 18), .lit (.int .u8 12), .lit (.int .u8 5), .lit (.int .u8 63), .lit (.int .u8 55), .lit (.int .u8 48), .lit (.int .u8 27), .lit (.int .u8 60), .lit (.int .u8 41), .lit (.int .u8 37), .lit (.int .u8 16), .lit (.int .u8 46), .lit (.int .u8 35), .lit (.int .u8 44), .lit (.int .u8 21), .lit (.int .u8 52), .lit (.int .u8 32), .lit (.int .u8 23), .lit (.int .u8 11), .lit (.int .u8 54), .lit (.int .u8 26), .lit (.int .u8 40), .lit (.int .u8 15), .lit (.int .u8 34), .lit (.int .u8 20), .lit (.int .u8 31), .lit (.int .u8 10), .lit (.int .u8 25), .lit (.int .u8 14), .lit (.int .u8 19), .lit (.int .u8 9), .lit (.int .u8 13), .lit (.int .u8 8), .lit (.int .u8 7), .lit (.int .u8 6)]
def laid_internal_strconv_uint64pow10 {H : Type} : DataW H := .agg [.lit (.int .u64 1), .lit (.int .u64 10), .lit (.int .u64 100), .lit (.int .u64 1000), .lit (.int .u64 10000), .lit (.int .u64 100000), .lit (.int .u64 1000000), .lit (.int .u64 10000000), .lit (.int .u64 100000000), .lit (.int .u64 1000000000), .lit (.int .u64 10000000000), .lit (.int .u64 100000000000), .lit (.int .u64 1000000000000), .lit (.int .u64 10000000000000), .lit (.int .u64 100000000000000), .lit (.int .u64 1000000000000000), .lit (.int .u64 10000000000000000), .lit (.int .u64 100000000000000000), .lit (.int .u64 1000000000000000000), .lit (.int .u64 10000000000000000000)]

/-- 'missivelaw17.TermLocks': WHATEVER THE INPUT: true; the input reads as it did. -/
def termLocksSpec : ChangeSpec := { name := "termLocks", fn := fun _ => fun
  | [d1, d2, d3] => { results := [.lit (.bool true)], args := [d1, d2, d3] }
  | _ => none }
def termLocksRow : OpenClaim := { program := "ytoefhjabaanokaadoor", sum := "d2167052bd4e2617db37b6872c99b0d81c8bfdccae4989c683a8b95b31438254", func := "missive/missivelaw17.TermLocks", spec := "termLocks", inPlace := ["internal/abi.NoEscape", "internal/bytealg.MakeNoZero", "maps.clone"], unfollowed := true, recurses := true, named := ["internal/strconv.uint64pow10", "math/bits.deBruijn32tab", "math/bits.deBruijn64tab"], apart := false, laid := [("math/bits.deBruijn32tab", laid_math_bits_deBruijn32tab), ("math/bits.deBruijn64tab", laid_math_bits_deBruijn64tab), ("internal/strconv.uint64pow10", laid_internal_strconv_uint64pow10)] }
def TermLocksSaid : Prop := termLocksRow.holds Tryd.pinned (OpenSpec.ofChange termLocksSpec)

/-- ITS FALSE NEIGHBOUR: 'it returns false'. Refute it at one input. -/
def termLocksWrong : ChangeSpec := { name := "termLocks", fn := fun _ => fun
  | [d1, d2, d3] => { results := [.lit (.bool false)], args := [d1, d2, d3] }
  | _ => none }
def TermLocksWrongFalsely : Prop := termLocksRow.holds Tryd.pinned (OpenSpec.ofChange termLocksWrong)

/-- 'missivelaw17.TermKems': WHATEVER THE INPUT: true; the input reads as it did. -/
def termKemsSpec : ChangeSpec := { name := "termKems", fn := fun _ => fun
  | [d1, d2, d3, d4] => { results := [.lit (.bool true)], args := [d1, d2, d3, d4] }
  | _ => none }
def termKemsRow : OpenClaim := { program := "ytoefhjabaanokaadoor", sum := "d2167052bd4e2617db37b6872c99b0d81c8bfdccae4989c683a8b95b31438254", func := "missive/missivelaw17.TermKems", spec := "termKems", inPlace := ["internal/abi.NoEscape", "internal/bytealg.MakeNoZero", "maps.clone"], unfollowed := true, recurses := true, named := ["internal/strconv.uint64pow10", "math/bits.deBruijn32tab", "math/bits.deBruijn64tab"], apart := false, laid := [("math/bits.deBruijn32tab", laid_math_bits_deBruijn32tab), ("math/bits.deBruijn64tab", laid_math_bits_deBruijn64tab), ("internal/strconv.uint64pow10", laid_internal_strconv_uint64pow10)] }
def TermKemsSaid : Prop := termKemsRow.holds Tryd.pinned (OpenSpec.ofChange termKemsSpec)

/-- ITS FALSE NEIGHBOUR: 'it returns false'. Refute it at one input. -/
def termKemsWrong : ChangeSpec := { name := "termKems", fn := fun _ => fun
  | [d1, d2, d3, d4] => { results := [.lit (.bool false)], args := [d1, d2, d3, d4] }
  | _ => none }
def TermKemsWrongFalsely : Prop := termKemsRow.holds Tryd.pinned (OpenSpec.ofChange termKemsWrong)

/-- 'missivelaw17.TermHashes': WHATEVER THE INPUT: true; the input reads as it did. -/
def termHashesSpec : ChangeSpec := { name := "termHashes", fn := fun _ => fun
  | [d1, d2] => { results := [.lit (.bool true)], args := [d1, d2] }
  | _ => none }
def termHashesRow : OpenClaim := { program := "ytoefhjabaanokaadoor", sum := "d2167052bd4e2617db37b6872c99b0d81c8bfdccae4989c683a8b95b31438254", func := "missive/missivelaw17.TermHashes", spec := "termHashes", inPlace := ["internal/abi.NoEscape", "internal/bytealg.MakeNoZero", "maps.clone"], unfollowed := true, recurses := true, named := ["internal/strconv.uint64pow10", "math/bits.deBruijn32tab", "math/bits.deBruijn64tab"], apart := false, laid := [("math/bits.deBruijn32tab", laid_math_bits_deBruijn32tab), ("math/bits.deBruijn64tab", laid_math_bits_deBruijn64tab), ("internal/strconv.uint64pow10", laid_internal_strconv_uint64pow10)] }
def TermHashesSaid : Prop := termHashesRow.holds Tryd.pinned (OpenSpec.ofChange termHashesSpec)

/-- ITS FALSE NEIGHBOUR: 'it returns false'. Refute it at one input. -/
def termHashesWrong : ChangeSpec := { name := "termHashes", fn := fun _ => fun
  | [d1, d2] => { results := [.lit (.bool false)], args := [d1, d2] }
  | _ => none }
def TermHashesWrongFalsely : Prop := termHashesRow.holds Tryd.pinned (OpenSpec.ofChange termHashesWrong)

/-- 'missivelaw17.TermShares': WHATEVER THE INPUT: true; the input reads as it did. -/
def termSharesSpec : ChangeSpec := { name := "termShares", fn := fun _ => fun
  | [d1, d2, d3, d4, d5] => { results := [.lit (.bool true)], args := [d1, d2, d3, d4, d5] }
  | _ => none }
def termSharesRow : OpenClaim := { program := "ytoefhjabaanokaadoor", sum := "d2167052bd4e2617db37b6872c99b0d81c8bfdccae4989c683a8b95b31438254", func := "missive/missivelaw17.TermShares", spec := "termShares", inPlace := ["internal/abi.NoEscape", "internal/bytealg.MakeNoZero", "maps.clone"], unfollowed := true, recurses := true, named := ["internal/strconv.uint64pow10", "math/bits.deBruijn32tab", "math/bits.deBruijn64tab"], apart := false, laid := [("math/bits.deBruijn32tab", laid_math_bits_deBruijn32tab), ("math/bits.deBruijn64tab", laid_math_bits_deBruijn64tab), ("internal/strconv.uint64pow10", laid_internal_strconv_uint64pow10)] }
def TermSharesSaid : Prop := termSharesRow.holds Tryd.pinned (OpenSpec.ofChange termSharesSpec)

/-- ITS FALSE NEIGHBOUR: 'it returns false'. Refute it at one input. -/
def termSharesWrong : ChangeSpec := { name := "termShares", fn := fun _ => fun
  | [d1, d2, d3, d4, d5] => { results := [.lit (.bool false)], args := [d1, d2, d3, d4, d5] }
  | _ => none }
def TermSharesWrongFalsely : Prop := termSharesRow.holds Tryd.pinned (OpenSpec.ofChange termSharesWrong)

/-- 'missivelaw17.TermGrows': WHATEVER THE INPUT: true; the input reads as it did. -/
def termGrowsSpec : ChangeSpec := { name := "termGrows", fn := fun _ => fun
  | [d1, d2, d3, d4, d5] => { results := [.lit (.bool true)], args := [d1, d2, d3, d4, d5] }
  | _ => none }
def termGrowsRow : OpenClaim := { program := "ytoefhjabaanokaadoor", sum := "d2167052bd4e2617db37b6872c99b0d81c8bfdccae4989c683a8b95b31438254", func := "missive/missivelaw17.TermGrows", spec := "termGrows", inPlace := ["internal/abi.NoEscape", "internal/bytealg.MakeNoZero", "maps.clone"], unfollowed := true, recurses := true, named := ["internal/strconv.uint64pow10", "math/bits.deBruijn32tab", "math/bits.deBruijn64tab"], loops := true, apart := false, laid := [("math/bits.deBruijn32tab", laid_math_bits_deBruijn32tab), ("math/bits.deBruijn64tab", laid_math_bits_deBruijn64tab), ("internal/strconv.uint64pow10", laid_internal_strconv_uint64pow10)] }
def TermGrowsSaid : Prop := termGrowsRow.holds Tryd.pinned (OpenSpec.ofChange termGrowsSpec)

/-- ITS FALSE NEIGHBOUR: 'it returns false'. Refute it at one input. -/
def termGrowsWrong : ChangeSpec := { name := "termGrows", fn := fun _ => fun
  | [d1, d2, d3, d4, d5] => { results := [.lit (.bool false)], args := [d1, d2, d3, d4, d5] }
  | _ => none }
def TermGrowsWrongFalsely : Prop := termGrowsRow.holds Tryd.pinned (OpenSpec.ofChange termGrowsWrong)

/-- 'missivelaw18.SymbolHeals': WHATEVER THE INPUT: true; the input reads as it did. -/
def symbolHealsSpec : ChangeSpec := { name := "symbolHeals", fn := fun _ => fun
  | [d1, d2, d3] => { results := [.lit (.bool true)], args := [d1, d2, d3] }
  | _ => none }
def symbolHealsRow : OpenClaim := { program := "ytoefhjabaanokaadoor", sum := "d2167052bd4e2617db37b6872c99b0d81c8bfdccae4989c683a8b95b31438254", func := "missive/missivelaw18.SymbolHeals", spec := "symbolHeals", inPlace := ["internal/abi.NoEscape", "internal/bytealg.MakeNoZero", "maps.clone"], unfollowed := true, recurses := true, named := ["internal/strconv.uint64pow10", "math/bits.deBruijn32tab", "math/bits.deBruijn64tab"], apart := false, laid := [("math/bits.deBruijn32tab", laid_math_bits_deBruijn32tab), ("math/bits.deBruijn64tab", laid_math_bits_deBruijn64tab), ("internal/strconv.uint64pow10", laid_internal_strconv_uint64pow10)] }
def SymbolHealsSaid : Prop := symbolHealsRow.holds Tryd.pinned (OpenSpec.ofChange symbolHealsSpec)

/-- ITS FALSE NEIGHBOUR: 'it returns false'. Refute it at one input. -/
def symbolHealsWrong : ChangeSpec := { name := "symbolHeals", fn := fun _ => fun
  | [d1, d2, d3] => { results := [.lit (.bool false)], args := [d1, d2, d3] }
  | _ => none }
def SymbolHealsWrongFalsely : Prop := symbolHealsRow.holds Tryd.pinned (OpenSpec.ofChange symbolHealsWrong)

/-- 'missivelaw18.SymbolHybrid': WHATEVER THE INPUT: true; the input reads as it did. -/
def symbolHybridSpec : ChangeSpec := { name := "symbolHybrid", fn := fun _ => fun
  | [d1, d2, d3, d4] => { results := [.lit (.bool true)], args := [d1, d2, d3, d4] }
  | _ => none }
def symbolHybridRow : OpenClaim := { program := "ytoefhjabaanokaadoor", sum := "d2167052bd4e2617db37b6872c99b0d81c8bfdccae4989c683a8b95b31438254", func := "missive/missivelaw18.SymbolHybrid", spec := "symbolHybrid", inPlace := ["internal/abi.NoEscape", "internal/bytealg.MakeNoZero", "maps.clone"], unfollowed := true, recurses := true, named := ["internal/strconv.uint64pow10", "math/bits.deBruijn32tab", "math/bits.deBruijn64tab"], apart := false, laid := [("math/bits.deBruijn32tab", laid_math_bits_deBruijn32tab), ("math/bits.deBruijn64tab", laid_math_bits_deBruijn64tab), ("internal/strconv.uint64pow10", laid_internal_strconv_uint64pow10)] }
def SymbolHybridSaid : Prop := symbolHybridRow.holds Tryd.pinned (OpenSpec.ofChange symbolHybridSpec)

/-- ITS FALSE NEIGHBOUR: 'it returns false'. Refute it at one input. -/
def symbolHybridWrong : ChangeSpec := { name := "symbolHybrid", fn := fun _ => fun
  | [d1, d2, d3, d4] => { results := [.lit (.bool false)], args := [d1, d2, d3, d4] }
  | _ => none }
def SymbolHybridWrongFalsely : Prop := symbolHybridRow.holds Tryd.pinned (OpenSpec.ofChange symbolHybridWrong)

/-- 'missivelaw18.SymbolIndexes': WHATEVER THE INPUT: true; the input reads as it did. -/
def symbolIndexesSpec : ChangeSpec := { name := "symbolIndexes", fn := fun _ => fun
  | [d1, d2] => { results := [.lit (.bool true)], args := [d1, d2] }
  | _ => none }
def symbolIndexesRow : OpenClaim := { program := "ytoefhjabaanokaadoor", sum := "d2167052bd4e2617db37b6872c99b0d81c8bfdccae4989c683a8b95b31438254", func := "missive/missivelaw18.SymbolIndexes", spec := "symbolIndexes", inPlace := ["internal/abi.NoEscape", "internal/bytealg.MakeNoZero", "maps.clone"], unfollowed := true, recurses := true, named := ["internal/strconv.uint64pow10", "math/bits.deBruijn32tab", "math/bits.deBruijn64tab"], apart := false, laid := [("math/bits.deBruijn32tab", laid_math_bits_deBruijn32tab), ("math/bits.deBruijn64tab", laid_math_bits_deBruijn64tab), ("internal/strconv.uint64pow10", laid_internal_strconv_uint64pow10)] }
def SymbolIndexesSaid : Prop := symbolIndexesRow.holds Tryd.pinned (OpenSpec.ofChange symbolIndexesSpec)

/-- ITS FALSE NEIGHBOUR: 'it returns false'. Refute it at one input. -/
def symbolIndexesWrong : ChangeSpec := { name := "symbolIndexes", fn := fun _ => fun
  | [d1, d2] => { results := [.lit (.bool false)], args := [d1, d2] }
  | _ => none }
def SymbolIndexesWrongFalsely : Prop := symbolIndexesRow.holds Tryd.pinned (OpenSpec.ofChange symbolIndexesWrong)

/-- 'missivelaw18.SymbolPlays': WHATEVER THE INPUT: true; the input reads as it did. -/
def symbolPlaysSpec : ChangeSpec := { name := "symbolPlays", fn := fun _ => fun
  | [d1, d2] => { results := [.lit (.bool true)], args := [d1, d2] }
  | _ => none }
def symbolPlaysRow : OpenClaim := { program := "ytoefhjabaanokaadoor", sum := "d2167052bd4e2617db37b6872c99b0d81c8bfdccae4989c683a8b95b31438254", func := "missive/missivelaw18.SymbolPlays", spec := "symbolPlays", inPlace := ["internal/abi.NoEscape", "internal/bytealg.MakeNoZero", "maps.clone"], unfollowed := true, recurses := true, named := ["internal/strconv.uint64pow10", "math/bits.deBruijn32tab", "math/bits.deBruijn64tab"], apart := false, laid := [("math/bits.deBruijn32tab", laid_math_bits_deBruijn32tab), ("math/bits.deBruijn64tab", laid_math_bits_deBruijn64tab), ("internal/strconv.uint64pow10", laid_internal_strconv_uint64pow10)] }
def SymbolPlaysSaid : Prop := symbolPlaysRow.holds Tryd.pinned (OpenSpec.ofChange symbolPlaysSpec)

/-- ITS FALSE NEIGHBOUR: 'it returns false'. Refute it at one input. -/
def symbolPlaysWrong : ChangeSpec := { name := "symbolPlays", fn := fun _ => fun
  | [d1, d2] => { results := [.lit (.bool false)], args := [d1, d2] }
  | _ => none }
def SymbolPlaysWrongFalsely : Prop := symbolPlaysRow.holds Tryd.pinned (OpenSpec.ofChange symbolPlaysWrong)

/-- 'missivelaw18.SymbolClean': WHATEVER THE INPUT: true; the input reads as it did. -/
def symbolCleanSpec : ChangeSpec := { name := "symbolClean", fn := fun _ => fun
  | [d1, d2] => { results := [.lit (.bool true)], args := [d1, d2] }
  | _ => none }
def symbolCleanRow : OpenClaim := { program := "ytoefhjabaanokaadoor", sum := "d2167052bd4e2617db37b6872c99b0d81c8bfdccae4989c683a8b95b31438254", func := "missive/missivelaw18.SymbolClean", spec := "symbolClean", inPlace := ["internal/abi.NoEscape", "internal/bytealg.MakeNoZero", "maps.clone"], unfollowed := true, recurses := true, named := ["internal/strconv.uint64pow10", "math/bits.deBruijn32tab", "math/bits.deBruijn64tab"], apart := false, laid := [("math/bits.deBruijn32tab", laid_math_bits_deBruijn32tab), ("math/bits.deBruijn64tab", laid_math_bits_deBruijn64tab), ("internal/strconv.uint64pow10", laid_internal_strconv_uint64pow10)] }
def SymbolCleanSaid : Prop := symbolCleanRow.holds Tryd.pinned (OpenSpec.ofChange symbolCleanSpec)

/-- ITS FALSE NEIGHBOUR: 'it returns false'. Refute it at one input. -/
def symbolCleanWrong : ChangeSpec := { name := "symbolClean", fn := fun _ => fun
  | [d1, d2] => { results := [.lit (.bool false)], args := [d1, d2] }
  | _ => none }
def SymbolCleanWrongFalsely : Prop := symbolCleanRow.holds Tryd.pinned (OpenSpec.ofChange symbolCleanWrong)

/-- 'missivelaw18.SymbolNothing': WHATEVER THE INPUT: true; the input reads as it did. -/
def symbolNothingSpec : ChangeSpec := { name := "symbolNothing", fn := fun _ => fun
  | [d1, d2] => { results := [.lit (.bool true)], args := [d1, d2] }
  | _ => none }
def symbolNothingRow : OpenClaim := { program := "ytoefhjabaanokaadoor", sum := "d2167052bd4e2617db37b6872c99b0d81c8bfdccae4989c683a8b95b31438254", func := "missive/missivelaw18.SymbolNothing", spec := "symbolNothing", inPlace := ["internal/abi.NoEscape", "internal/bytealg.MakeNoZero", "maps.clone"], unfollowed := true, recurses := true, named := ["internal/strconv.uint64pow10", "math/bits.deBruijn32tab", "math/bits.deBruijn64tab"], apart := false, laid := [("math/bits.deBruijn32tab", laid_math_bits_deBruijn32tab), ("math/bits.deBruijn64tab", laid_math_bits_deBruijn64tab), ("internal/strconv.uint64pow10", laid_internal_strconv_uint64pow10)] }
def SymbolNothingSaid : Prop := symbolNothingRow.holds Tryd.pinned (OpenSpec.ofChange symbolNothingSpec)

/-- ITS FALSE NEIGHBOUR: 'it returns false'. Refute it at one input. -/
def symbolNothingWrong : ChangeSpec := { name := "symbolNothing", fn := fun _ => fun
  | [d1, d2] => { results := [.lit (.bool false)], args := [d1, d2] }
  | _ => none }
def SymbolNothingWrongFalsely : Prop := symbolNothingRow.holds Tryd.pinned (OpenSpec.ofChange symbolNothingWrong)

/-- 'missivelaw18.SymbolBoxes': WHATEVER THE INPUT: true; the input reads as it did. -/
def symbolBoxesSpec : ChangeSpec := { name := "symbolBoxes", fn := fun _ => fun
  | [d1, d2] => { results := [.lit (.bool true)], args := [d1, d2] }
  | _ => none }
def symbolBoxesRow : OpenClaim := { program := "ytoefhjabaanokaadoor", sum := "d2167052bd4e2617db37b6872c99b0d81c8bfdccae4989c683a8b95b31438254", func := "missive/missivelaw18.SymbolBoxes", spec := "symbolBoxes", inPlace := ["internal/abi.NoEscape", "internal/bytealg.MakeNoZero", "maps.clone"], unfollowed := true, recurses := true, named := ["internal/strconv.uint64pow10", "math/bits.deBruijn32tab", "math/bits.deBruijn64tab"], apart := false, laid := [("math/bits.deBruijn32tab", laid_math_bits_deBruijn32tab), ("math/bits.deBruijn64tab", laid_math_bits_deBruijn64tab), ("internal/strconv.uint64pow10", laid_internal_strconv_uint64pow10)] }
def SymbolBoxesSaid : Prop := symbolBoxesRow.holds Tryd.pinned (OpenSpec.ofChange symbolBoxesSpec)

/-- ITS FALSE NEIGHBOUR: 'it returns false'. Refute it at one input. -/
def symbolBoxesWrong : ChangeSpec := { name := "symbolBoxes", fn := fun _ => fun
  | [d1, d2] => { results := [.lit (.bool false)], args := [d1, d2] }
  | _ => none }
def SymbolBoxesWrongFalsely : Prop := symbolBoxesRow.holds Tryd.pinned (OpenSpec.ofChange symbolBoxesWrong)

/- THE SECOND FORM. 'bulk': how many values and letters a reading holds, each counted each time it is reached (what is shared counts as often as it is met; a slice's spare places count too). A statement '..UptoSaid' is the law's where the arguments, and the package variables that the reading takes, are together of bulk at most 1048576: NARROWER than '..Said'. Prove '..Said' where nothing that the law and all that it calls make is longer than what came in: it says more and counts as full. Else prove '..UptoSaid'. A law counts once. -/
mutual
def uptoBulk {H : Type} : DataW H → Nat
  | .lit (.string bytes) => bytes.length + 1
  | .lit _ => 1
  | .nil => 1
  | .ptr d => uptoBulk d + 1
  | .slice elems spare => uptoBulkAll elems + uptoBulkAll spare + 1
  | .agg parts => uptoBulkAll parts + 1
  | .iface _ d => uptoBulk d + 1
  | .map entries => uptoBulkEntries entries + 1
  | .held _ => 1
def uptoBulkAll {H : Type} : List (DataW H) → Nat
  | [] => 0
  | d :: r => uptoBulk d + uptoBulkAll r
def uptoBulkEntries {H : Type} : List (Lit × DataW H) → Nat
  | [] => 0
  | x :: r => uptoBulkEntry x + uptoBulkEntries r
def uptoBulkEntry {H : Type} : Lit × DataW H → Nat
  | (.string bytes, d) => bytes.length + uptoBulk d + 1
  | (_, d) => uptoBulk d + 1
 end
def uptoSmall : (H : Type) → List (DataW H) → Bool := fun _ ds => decide (uptoBulkAll ds ≤ 1048576)
def OpenSpec.upto (s : _root_.Go.ChangeSpec) : _root_.Go.OpenSpec := { _root_.Go.OpenSpec.ofChange s with cond := some uptoSmall }

/-- 'missivelaw17.TermLocks', WHERE WHAT IT READS IS OF BULK AT MOST 1048576: true; the input reads as it did. -/
def termLocksUptoRow : OpenClaim := { program := "ytoefhjabaanokaadoor", sum := "d2167052bd4e2617db37b6872c99b0d81c8bfdccae4989c683a8b95b31438254", func := "missive/missivelaw17.TermLocks", spec := "termLocks", inPlace := ["internal/abi.NoEscape", "internal/bytealg.MakeNoZero", "maps.clone"], unfollowed := true, recurses := true, named := ["internal/strconv.uint64pow10", "math/bits.deBruijn32tab", "math/bits.deBruijn64tab"], apart := false, laid := [("math/bits.deBruijn32tab", laid_math_bits_deBruijn32tab), ("math/bits.deBruijn64tab", laid_math_bits_deBruijn64tab), ("internal/strconv.uint64pow10", laid_internal_strconv_uint64pow10)], narrowed := true }
def TermLocksUptoSaid : Prop := termLocksUptoRow.holds Tryd.pinned (OpenSpec.upto termLocksSpec)

/-- 'missivelaw17.TermKems', WHERE WHAT IT READS IS OF BULK AT MOST 1048576: true; the input reads as it did. -/
def termKemsUptoRow : OpenClaim := { program := "ytoefhjabaanokaadoor", sum := "d2167052bd4e2617db37b6872c99b0d81c8bfdccae4989c683a8b95b31438254", func := "missive/missivelaw17.TermKems", spec := "termKems", inPlace := ["internal/abi.NoEscape", "internal/bytealg.MakeNoZero", "maps.clone"], unfollowed := true, recurses := true, named := ["internal/strconv.uint64pow10", "math/bits.deBruijn32tab", "math/bits.deBruijn64tab"], apart := false, laid := [("math/bits.deBruijn32tab", laid_math_bits_deBruijn32tab), ("math/bits.deBruijn64tab", laid_math_bits_deBruijn64tab), ("internal/strconv.uint64pow10", laid_internal_strconv_uint64pow10)], narrowed := true }
def TermKemsUptoSaid : Prop := termKemsUptoRow.holds Tryd.pinned (OpenSpec.upto termKemsSpec)

/-- 'missivelaw17.TermHashes', WHERE WHAT IT READS IS OF BULK AT MOST 1048576: true; the input reads as it did. -/
def termHashesUptoRow : OpenClaim := { program := "ytoefhjabaanokaadoor", sum := "d2167052bd4e2617db37b6872c99b0d81c8bfdccae4989c683a8b95b31438254", func := "missive/missivelaw17.TermHashes", spec := "termHashes", inPlace := ["internal/abi.NoEscape", "internal/bytealg.MakeNoZero", "maps.clone"], unfollowed := true, recurses := true, named := ["internal/strconv.uint64pow10", "math/bits.deBruijn32tab", "math/bits.deBruijn64tab"], apart := false, laid := [("math/bits.deBruijn32tab", laid_math_bits_deBruijn32tab), ("math/bits.deBruijn64tab", laid_math_bits_deBruijn64tab), ("internal/strconv.uint64pow10", laid_internal_strconv_uint64pow10)], narrowed := true }
def TermHashesUptoSaid : Prop := termHashesUptoRow.holds Tryd.pinned (OpenSpec.upto termHashesSpec)

/-- 'missivelaw17.TermShares', WHERE WHAT IT READS IS OF BULK AT MOST 1048576: true; the input reads as it did. -/
def termSharesUptoRow : OpenClaim := { program := "ytoefhjabaanokaadoor", sum := "d2167052bd4e2617db37b6872c99b0d81c8bfdccae4989c683a8b95b31438254", func := "missive/missivelaw17.TermShares", spec := "termShares", inPlace := ["internal/abi.NoEscape", "internal/bytealg.MakeNoZero", "maps.clone"], unfollowed := true, recurses := true, named := ["internal/strconv.uint64pow10", "math/bits.deBruijn32tab", "math/bits.deBruijn64tab"], apart := false, laid := [("math/bits.deBruijn32tab", laid_math_bits_deBruijn32tab), ("math/bits.deBruijn64tab", laid_math_bits_deBruijn64tab), ("internal/strconv.uint64pow10", laid_internal_strconv_uint64pow10)], narrowed := true }
def TermSharesUptoSaid : Prop := termSharesUptoRow.holds Tryd.pinned (OpenSpec.upto termSharesSpec)

/-- 'missivelaw17.TermGrows', WHERE WHAT IT READS IS OF BULK AT MOST 1048576: true; the input reads as it did. -/
def termGrowsUptoRow : OpenClaim := { program := "ytoefhjabaanokaadoor", sum := "d2167052bd4e2617db37b6872c99b0d81c8bfdccae4989c683a8b95b31438254", func := "missive/missivelaw17.TermGrows", spec := "termGrows", inPlace := ["internal/abi.NoEscape", "internal/bytealg.MakeNoZero", "maps.clone"], unfollowed := true, recurses := true, named := ["internal/strconv.uint64pow10", "math/bits.deBruijn32tab", "math/bits.deBruijn64tab"], loops := true, apart := false, laid := [("math/bits.deBruijn32tab", laid_math_bits_deBruijn32tab), ("math/bits.deBruijn64tab", laid_math_bits_deBruijn64tab), ("internal/strconv.uint64pow10", laid_internal_strconv_uint64pow10)], narrowed := true }
def TermGrowsUptoSaid : Prop := termGrowsUptoRow.holds Tryd.pinned (OpenSpec.upto termGrowsSpec)

/-- 'missivelaw18.SymbolHeals', WHERE WHAT IT READS IS OF BULK AT MOST 1048576: true; the input reads as it did. -/
def symbolHealsUptoRow : OpenClaim := { program := "ytoefhjabaanokaadoor", sum := "d2167052bd4e2617db37b6872c99b0d81c8bfdccae4989c683a8b95b31438254", func := "missive/missivelaw18.SymbolHeals", spec := "symbolHeals", inPlace := ["internal/abi.NoEscape", "internal/bytealg.MakeNoZero", "maps.clone"], unfollowed := true, recurses := true, named := ["internal/strconv.uint64pow10", "math/bits.deBruijn32tab", "math/bits.deBruijn64tab"], apart := false, laid := [("math/bits.deBruijn32tab", laid_math_bits_deBruijn32tab), ("math/bits.deBruijn64tab", laid_math_bits_deBruijn64tab), ("internal/strconv.uint64pow10", laid_internal_strconv_uint64pow10)], narrowed := true }
def SymbolHealsUptoSaid : Prop := symbolHealsUptoRow.holds Tryd.pinned (OpenSpec.upto symbolHealsSpec)

/-- 'missivelaw18.SymbolHybrid', WHERE WHAT IT READS IS OF BULK AT MOST 1048576: true; the input reads as it did. -/
def symbolHybridUptoRow : OpenClaim := { program := "ytoefhjabaanokaadoor", sum := "d2167052bd4e2617db37b6872c99b0d81c8bfdccae4989c683a8b95b31438254", func := "missive/missivelaw18.SymbolHybrid", spec := "symbolHybrid", inPlace := ["internal/abi.NoEscape", "internal/bytealg.MakeNoZero", "maps.clone"], unfollowed := true, recurses := true, named := ["internal/strconv.uint64pow10", "math/bits.deBruijn32tab", "math/bits.deBruijn64tab"], apart := false, laid := [("math/bits.deBruijn32tab", laid_math_bits_deBruijn32tab), ("math/bits.deBruijn64tab", laid_math_bits_deBruijn64tab), ("internal/strconv.uint64pow10", laid_internal_strconv_uint64pow10)], narrowed := true }
def SymbolHybridUptoSaid : Prop := symbolHybridUptoRow.holds Tryd.pinned (OpenSpec.upto symbolHybridSpec)

/-- 'missivelaw18.SymbolIndexes', WHERE WHAT IT READS IS OF BULK AT MOST 1048576: true; the input reads as it did. -/
def symbolIndexesUptoRow : OpenClaim := { program := "ytoefhjabaanokaadoor", sum := "d2167052bd4e2617db37b6872c99b0d81c8bfdccae4989c683a8b95b31438254", func := "missive/missivelaw18.SymbolIndexes", spec := "symbolIndexes", inPlace := ["internal/abi.NoEscape", "internal/bytealg.MakeNoZero", "maps.clone"], unfollowed := true, recurses := true, named := ["internal/strconv.uint64pow10", "math/bits.deBruijn32tab", "math/bits.deBruijn64tab"], apart := false, laid := [("math/bits.deBruijn32tab", laid_math_bits_deBruijn32tab), ("math/bits.deBruijn64tab", laid_math_bits_deBruijn64tab), ("internal/strconv.uint64pow10", laid_internal_strconv_uint64pow10)], narrowed := true }
def SymbolIndexesUptoSaid : Prop := symbolIndexesUptoRow.holds Tryd.pinned (OpenSpec.upto symbolIndexesSpec)

/-- 'missivelaw18.SymbolPlays', WHERE WHAT IT READS IS OF BULK AT MOST 1048576: true; the input reads as it did. -/
def symbolPlaysUptoRow : OpenClaim := { program := "ytoefhjabaanokaadoor", sum := "d2167052bd4e2617db37b6872c99b0d81c8bfdccae4989c683a8b95b31438254", func := "missive/missivelaw18.SymbolPlays", spec := "symbolPlays", inPlace := ["internal/abi.NoEscape", "internal/bytealg.MakeNoZero", "maps.clone"], unfollowed := true, recurses := true, named := ["internal/strconv.uint64pow10", "math/bits.deBruijn32tab", "math/bits.deBruijn64tab"], apart := false, laid := [("math/bits.deBruijn32tab", laid_math_bits_deBruijn32tab), ("math/bits.deBruijn64tab", laid_math_bits_deBruijn64tab), ("internal/strconv.uint64pow10", laid_internal_strconv_uint64pow10)], narrowed := true }
def SymbolPlaysUptoSaid : Prop := symbolPlaysUptoRow.holds Tryd.pinned (OpenSpec.upto symbolPlaysSpec)

/-- 'missivelaw18.SymbolClean', WHERE WHAT IT READS IS OF BULK AT MOST 1048576: true; the input reads as it did. -/
def symbolCleanUptoRow : OpenClaim := { program := "ytoefhjabaanokaadoor", sum := "d2167052bd4e2617db37b6872c99b0d81c8bfdccae4989c683a8b95b31438254", func := "missive/missivelaw18.SymbolClean", spec := "symbolClean", inPlace := ["internal/abi.NoEscape", "internal/bytealg.MakeNoZero", "maps.clone"], unfollowed := true, recurses := true, named := ["internal/strconv.uint64pow10", "math/bits.deBruijn32tab", "math/bits.deBruijn64tab"], apart := false, laid := [("math/bits.deBruijn32tab", laid_math_bits_deBruijn32tab), ("math/bits.deBruijn64tab", laid_math_bits_deBruijn64tab), ("internal/strconv.uint64pow10", laid_internal_strconv_uint64pow10)], narrowed := true }
def SymbolCleanUptoSaid : Prop := symbolCleanUptoRow.holds Tryd.pinned (OpenSpec.upto symbolCleanSpec)

/-- 'missivelaw18.SymbolNothing', WHERE WHAT IT READS IS OF BULK AT MOST 1048576: true; the input reads as it did. -/
def symbolNothingUptoRow : OpenClaim := { program := "ytoefhjabaanokaadoor", sum := "d2167052bd4e2617db37b6872c99b0d81c8bfdccae4989c683a8b95b31438254", func := "missive/missivelaw18.SymbolNothing", spec := "symbolNothing", inPlace := ["internal/abi.NoEscape", "internal/bytealg.MakeNoZero", "maps.clone"], unfollowed := true, recurses := true, named := ["internal/strconv.uint64pow10", "math/bits.deBruijn32tab", "math/bits.deBruijn64tab"], apart := false, laid := [("math/bits.deBruijn32tab", laid_math_bits_deBruijn32tab), ("math/bits.deBruijn64tab", laid_math_bits_deBruijn64tab), ("internal/strconv.uint64pow10", laid_internal_strconv_uint64pow10)], narrowed := true }
def SymbolNothingUptoSaid : Prop := symbolNothingUptoRow.holds Tryd.pinned (OpenSpec.upto symbolNothingSpec)

/-- 'missivelaw18.SymbolBoxes', WHERE WHAT IT READS IS OF BULK AT MOST 1048576: true; the input reads as it did. -/
def symbolBoxesUptoRow : OpenClaim := { program := "ytoefhjabaanokaadoor", sum := "d2167052bd4e2617db37b6872c99b0d81c8bfdccae4989c683a8b95b31438254", func := "missive/missivelaw18.SymbolBoxes", spec := "symbolBoxes", inPlace := ["internal/abi.NoEscape", "internal/bytealg.MakeNoZero", "maps.clone"], unfollowed := true, recurses := true, named := ["internal/strconv.uint64pow10", "math/bits.deBruijn32tab", "math/bits.deBruijn64tab"], apart := false, laid := [("math/bits.deBruijn32tab", laid_math_bits_deBruijn32tab), ("math/bits.deBruijn64tab", laid_math_bits_deBruijn64tab), ("internal/strconv.uint64pow10", laid_internal_strconv_uint64pow10)], narrowed := true }
def SymbolBoxesUptoSaid : Prop := symbolBoxesUptoRow.holds Tryd.pinned (OpenSpec.upto symbolBoxesSpec)

end Rows
end Go.Proofs.YtoefhjabaanokaaDoor
