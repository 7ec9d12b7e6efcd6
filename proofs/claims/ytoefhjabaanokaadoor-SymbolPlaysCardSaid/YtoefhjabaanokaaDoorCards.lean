/-
  DERIVED. GIVEN WITH THE SEED: THE CARDS: each row of YtoefhjabaanokaaDoorRows.lean that lists a variable, with what it lists TIED to the program's text (the seventh form; the later family's looks); each row that meets fmt, with fmt's text TOLD by the authors' own Lean function (tested against real Go, not proved from fmt's source: count such statements apart). THE CARD IS WHAT COUNTS. Prove the row's statement (the work); the ties are given (YtoefhjabaanokaaDoorTie.lean); close each card by the builder's one call (the guide's Derived/Test/ToyasCard.lean, 'card_holds'). Laid BY PROGRAM, IN A SANDBOX (cutbox-door.mjs). By AI agents, Wed Nov 11 2026. No macro, syntax, notation, axiom, sorry.
-/
import Derived.Test.YtoefhjabaanokaaDoorRows
import GoSem.ClaimSeven
namespace Go.Proofs.YtoefhjabaanokaaDoor
namespace Rows

/-- THE TIED CARD OF 'missivelaw17.TermLocks'. -/
def termLocksCard : Claim7 := { stood := { row := termLocksRow, standIns := [], harness := (true, "55fd016c42503bf1be4062d5e21427a93878c87667ff21400da54f0a0321f930"), looks := true }, kinds := [], alts := [], laidByText := true, laidKinds := [.data, .data, .data], laidTests := true, laidLooks := .later }
def TermLocksCardSaid : Prop := Claim7.holds Tryd.pinned (.plain (OpenSpec.ofChange termLocksSpec)) termLocksCard

/-- THE TIED CARD OF 'missivelaw17.TermKems'. -/
def termKemsCard : Claim7 := { stood := { row := termKemsRow, standIns := [], harness := (true, "55fd016c42503bf1be4062d5e21427a93878c87667ff21400da54f0a0321f930"), looks := true }, kinds := [], alts := [], laidByText := true, laidKinds := [.data, .data, .data], laidTests := true, laidLooks := .later }
def TermKemsCardSaid : Prop := Claim7.holds Tryd.pinned (.plain (OpenSpec.ofChange termKemsSpec)) termKemsCard

/-- THE TIED CARD OF 'missivelaw17.TermHashes'. -/
def termHashesCard : Claim7 := { stood := { row := termHashesRow, standIns := [], harness := (true, "55fd016c42503bf1be4062d5e21427a93878c87667ff21400da54f0a0321f930"), looks := true }, kinds := [], alts := [], laidByText := true, laidKinds := [.data, .data, .data], laidTests := true, laidLooks := .later }
def TermHashesCardSaid : Prop := Claim7.holds Tryd.pinned (.plain (OpenSpec.ofChange termHashesSpec)) termHashesCard

/-- THE TIED CARD OF 'missivelaw17.TermShares'. -/
def termSharesCard : Claim7 := { stood := { row := termSharesRow, standIns := [], harness := (true, "55fd016c42503bf1be4062d5e21427a93878c87667ff21400da54f0a0321f930"), looks := true }, kinds := [], alts := [], laidByText := true, laidKinds := [.data, .data, .data], laidTests := true, laidLooks := .later }
def TermSharesCardSaid : Prop := Claim7.holds Tryd.pinned (.plain (OpenSpec.ofChange termSharesSpec)) termSharesCard

/-- THE TIED CARD OF 'missivelaw17.TermGrows'. -/
def termGrowsCard : Claim7 := { stood := { row := termGrowsRow, standIns := [], harness := (true, "55fd016c42503bf1be4062d5e21427a93878c87667ff21400da54f0a0321f930"), looks := true }, kinds := [], alts := [], laidByText := true, laidKinds := [.data, .data, .data], laidTests := true, laidLooks := .later }
def TermGrowsCardSaid : Prop := Claim7.holds Tryd.pinned (.plain (OpenSpec.ofChange termGrowsSpec)) termGrowsCard

/-- THE TIED CARD OF 'missivelaw18.SymbolHeals'. -/
def symbolHealsCard : Claim7 := { stood := { row := symbolHealsRow, standIns := [], harness := (true, "55fd016c42503bf1be4062d5e21427a93878c87667ff21400da54f0a0321f930"), looks := true }, kinds := [], alts := [], laidByText := true, laidKinds := [.data, .data, .data], laidTests := true, laidLooks := .later }
def SymbolHealsCardSaid : Prop := Claim7.holds Tryd.pinned (.plain (OpenSpec.ofChange symbolHealsSpec)) symbolHealsCard

/-- THE TIED CARD OF 'missivelaw18.SymbolHybrid'. -/
def symbolHybridCard : Claim7 := { stood := { row := symbolHybridRow, standIns := [], harness := (true, "55fd016c42503bf1be4062d5e21427a93878c87667ff21400da54f0a0321f930"), looks := true }, kinds := [], alts := [], laidByText := true, laidKinds := [.data, .data, .data], laidTests := true, laidLooks := .later }
def SymbolHybridCardSaid : Prop := Claim7.holds Tryd.pinned (.plain (OpenSpec.ofChange symbolHybridSpec)) symbolHybridCard

/-- THE TIED CARD OF 'missivelaw18.SymbolIndexes'. -/
def symbolIndexesCard : Claim7 := { stood := { row := symbolIndexesRow, standIns := [], harness := (true, "55fd016c42503bf1be4062d5e21427a93878c87667ff21400da54f0a0321f930"), looks := true }, kinds := [], alts := [], laidByText := true, laidKinds := [.data, .data, .data], laidTests := true, laidLooks := .later }
def SymbolIndexesCardSaid : Prop := Claim7.holds Tryd.pinned (.plain (OpenSpec.ofChange symbolIndexesSpec)) symbolIndexesCard

/-- THE TIED CARD OF 'missivelaw18.SymbolPlays'. -/
def symbolPlaysCard : Claim7 := { stood := { row := symbolPlaysRow, standIns := [], harness := (true, "55fd016c42503bf1be4062d5e21427a93878c87667ff21400da54f0a0321f930"), looks := true }, kinds := [], alts := [], laidByText := true, laidKinds := [.data, .data, .data], laidTests := true, laidLooks := .later }
def SymbolPlaysCardSaid : Prop := Claim7.holds Tryd.pinned (.plain (OpenSpec.ofChange symbolPlaysSpec)) symbolPlaysCard

/-- THE TIED CARD OF 'missivelaw18.SymbolClean'. -/
def symbolCleanCard : Claim7 := { stood := { row := symbolCleanRow, standIns := [], harness := (true, "55fd016c42503bf1be4062d5e21427a93878c87667ff21400da54f0a0321f930"), looks := true }, kinds := [], alts := [], laidByText := true, laidKinds := [.data, .data, .data], laidTests := true, laidLooks := .later }
def SymbolCleanCardSaid : Prop := Claim7.holds Tryd.pinned (.plain (OpenSpec.ofChange symbolCleanSpec)) symbolCleanCard

/-- THE TIED CARD OF 'missivelaw18.SymbolNothing'. -/
def symbolNothingCard : Claim7 := { stood := { row := symbolNothingRow, standIns := [], harness := (true, "55fd016c42503bf1be4062d5e21427a93878c87667ff21400da54f0a0321f930"), looks := true }, kinds := [], alts := [], laidByText := true, laidKinds := [.data, .data, .data], laidTests := true, laidLooks := .later }
def SymbolNothingCardSaid : Prop := Claim7.holds Tryd.pinned (.plain (OpenSpec.ofChange symbolNothingSpec)) symbolNothingCard

/-- THE TIED CARD OF 'missivelaw18.SymbolBoxes'. -/
def symbolBoxesCard : Claim7 := { stood := { row := symbolBoxesRow, standIns := [], harness := (true, "55fd016c42503bf1be4062d5e21427a93878c87667ff21400da54f0a0321f930"), looks := true }, kinds := [], alts := [], laidByText := true, laidKinds := [.data, .data, .data], laidTests := true, laidLooks := .later }
def SymbolBoxesCardSaid : Prop := Claim7.holds Tryd.pinned (.plain (OpenSpec.ofChange symbolBoxesSpec)) symbolBoxesCard

/-- THE SECOND FORM's CARD OF 'missivelaw17.TermLocks'. -/
def termLocksUptoCard : Claim7 := { stood := { row := termLocksUptoRow, standIns := [], harness := (true, "55fd016c42503bf1be4062d5e21427a93878c87667ff21400da54f0a0321f930"), looks := true }, kinds := [], alts := [], laidByText := true, laidKinds := [.data, .data, .data], laidTests := true, laidLooks := .later }
def TermLocksUptoCardSaid : Prop := Claim7.holds Tryd.pinned (.plain (OpenSpec.upto termLocksSpec)) termLocksUptoCard

/-- THE SECOND FORM's CARD OF 'missivelaw17.TermKems'. -/
def termKemsUptoCard : Claim7 := { stood := { row := termKemsUptoRow, standIns := [], harness := (true, "55fd016c42503bf1be4062d5e21427a93878c87667ff21400da54f0a0321f930"), looks := true }, kinds := [], alts := [], laidByText := true, laidKinds := [.data, .data, .data], laidTests := true, laidLooks := .later }
def TermKemsUptoCardSaid : Prop := Claim7.holds Tryd.pinned (.plain (OpenSpec.upto termKemsSpec)) termKemsUptoCard

/-- THE SECOND FORM's CARD OF 'missivelaw17.TermHashes'. -/
def termHashesUptoCard : Claim7 := { stood := { row := termHashesUptoRow, standIns := [], harness := (true, "55fd016c42503bf1be4062d5e21427a93878c87667ff21400da54f0a0321f930"), looks := true }, kinds := [], alts := [], laidByText := true, laidKinds := [.data, .data, .data], laidTests := true, laidLooks := .later }
def TermHashesUptoCardSaid : Prop := Claim7.holds Tryd.pinned (.plain (OpenSpec.upto termHashesSpec)) termHashesUptoCard

/-- THE SECOND FORM's CARD OF 'missivelaw17.TermShares'. -/
def termSharesUptoCard : Claim7 := { stood := { row := termSharesUptoRow, standIns := [], harness := (true, "55fd016c42503bf1be4062d5e21427a93878c87667ff21400da54f0a0321f930"), looks := true }, kinds := [], alts := [], laidByText := true, laidKinds := [.data, .data, .data], laidTests := true, laidLooks := .later }
def TermSharesUptoCardSaid : Prop := Claim7.holds Tryd.pinned (.plain (OpenSpec.upto termSharesSpec)) termSharesUptoCard

/-- THE SECOND FORM's CARD OF 'missivelaw17.TermGrows'. -/
def termGrowsUptoCard : Claim7 := { stood := { row := termGrowsUptoRow, standIns := [], harness := (true, "55fd016c42503bf1be4062d5e21427a93878c87667ff21400da54f0a0321f930"), looks := true }, kinds := [], alts := [], laidByText := true, laidKinds := [.data, .data, .data], laidTests := true, laidLooks := .later }
def TermGrowsUptoCardSaid : Prop := Claim7.holds Tryd.pinned (.plain (OpenSpec.upto termGrowsSpec)) termGrowsUptoCard

/-- THE SECOND FORM's CARD OF 'missivelaw18.SymbolHeals'. -/
def symbolHealsUptoCard : Claim7 := { stood := { row := symbolHealsUptoRow, standIns := [], harness := (true, "55fd016c42503bf1be4062d5e21427a93878c87667ff21400da54f0a0321f930"), looks := true }, kinds := [], alts := [], laidByText := true, laidKinds := [.data, .data, .data], laidTests := true, laidLooks := .later }
def SymbolHealsUptoCardSaid : Prop := Claim7.holds Tryd.pinned (.plain (OpenSpec.upto symbolHealsSpec)) symbolHealsUptoCard

/-- THE SECOND FORM's CARD OF 'missivelaw18.SymbolHybrid'. -/
def symbolHybridUptoCard : Claim7 := { stood := { row := symbolHybridUptoRow, standIns := [], harness := (true, "55fd016c42503bf1be4062d5e21427a93878c87667ff21400da54f0a0321f930"), looks := true }, kinds := [], alts := [], laidByText := true, laidKinds := [.data, .data, .data], laidTests := true, laidLooks := .later }
def SymbolHybridUptoCardSaid : Prop := Claim7.holds Tryd.pinned (.plain (OpenSpec.upto symbolHybridSpec)) symbolHybridUptoCard

/-- THE SECOND FORM's CARD OF 'missivelaw18.SymbolIndexes'. -/
def symbolIndexesUptoCard : Claim7 := { stood := { row := symbolIndexesUptoRow, standIns := [], harness := (true, "55fd016c42503bf1be4062d5e21427a93878c87667ff21400da54f0a0321f930"), looks := true }, kinds := [], alts := [], laidByText := true, laidKinds := [.data, .data, .data], laidTests := true, laidLooks := .later }
def SymbolIndexesUptoCardSaid : Prop := Claim7.holds Tryd.pinned (.plain (OpenSpec.upto symbolIndexesSpec)) symbolIndexesUptoCard

/-- THE SECOND FORM's CARD OF 'missivelaw18.SymbolPlays'. -/
def symbolPlaysUptoCard : Claim7 := { stood := { row := symbolPlaysUptoRow, standIns := [], harness := (true, "55fd016c42503bf1be4062d5e21427a93878c87667ff21400da54f0a0321f930"), looks := true }, kinds := [], alts := [], laidByText := true, laidKinds := [.data, .data, .data], laidTests := true, laidLooks := .later }
def SymbolPlaysUptoCardSaid : Prop := Claim7.holds Tryd.pinned (.plain (OpenSpec.upto symbolPlaysSpec)) symbolPlaysUptoCard

/-- THE SECOND FORM's CARD OF 'missivelaw18.SymbolClean'. -/
def symbolCleanUptoCard : Claim7 := { stood := { row := symbolCleanUptoRow, standIns := [], harness := (true, "55fd016c42503bf1be4062d5e21427a93878c87667ff21400da54f0a0321f930"), looks := true }, kinds := [], alts := [], laidByText := true, laidKinds := [.data, .data, .data], laidTests := true, laidLooks := .later }
def SymbolCleanUptoCardSaid : Prop := Claim7.holds Tryd.pinned (.plain (OpenSpec.upto symbolCleanSpec)) symbolCleanUptoCard

/-- THE SECOND FORM's CARD OF 'missivelaw18.SymbolNothing'. -/
def symbolNothingUptoCard : Claim7 := { stood := { row := symbolNothingUptoRow, standIns := [], harness := (true, "55fd016c42503bf1be4062d5e21427a93878c87667ff21400da54f0a0321f930"), looks := true }, kinds := [], alts := [], laidByText := true, laidKinds := [.data, .data, .data], laidTests := true, laidLooks := .later }
def SymbolNothingUptoCardSaid : Prop := Claim7.holds Tryd.pinned (.plain (OpenSpec.upto symbolNothingSpec)) symbolNothingUptoCard

/-- THE SECOND FORM's CARD OF 'missivelaw18.SymbolBoxes'. -/
def symbolBoxesUptoCard : Claim7 := { stood := { row := symbolBoxesUptoRow, standIns := [], harness := (true, "55fd016c42503bf1be4062d5e21427a93878c87667ff21400da54f0a0321f930"), looks := true }, kinds := [], alts := [], laidByText := true, laidKinds := [.data, .data, .data], laidTests := true, laidLooks := .later }
def SymbolBoxesUptoCardSaid : Prop := Claim7.holds Tryd.pinned (.plain (OpenSpec.upto symbolBoxesSpec)) symbolBoxesUptoCard
end Rows
end Go.Proofs.YtoefhjabaanokaaDoor
