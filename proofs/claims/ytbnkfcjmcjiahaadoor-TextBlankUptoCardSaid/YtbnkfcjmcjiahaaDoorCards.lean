/-
  DERIVED. GIVEN WITH THE SEED: THE CARDS: each row of YtbnkfcjmcjiahaaDoorRows.lean that lists a variable, with what it lists TIED to the program's text (the seventh form; the later family's looks); each row that meets fmt, with fmt's text TOLD by the authors' own Lean function (tested against real Go, not proved from fmt's source: count such statements apart). THE CARD IS WHAT COUNTS. Prove the row's statement (the work); the ties are given (YtbnkfcjmcjiahaaDoorTie.lean); close each card by the builder's one call (the guide's Derived/Test/ToyasCard.lean, 'card_holds'). Laid BY PROGRAM, IN A SANDBOX (cutbox-door.mjs). By AI agents, Wed Nov 11 2026. No macro, syntax, notation, axiom, sorry.
-/
import Derived.Test.YtbnkfcjmcjiahaaDoorRows
import GoSem.ClaimSeven
namespace Go.Proofs.YtbnkfcjmcjiahaaDoor
namespace Rows

/-- THE TIED CARD OF 'graftlaw1.TextPrints'. -/
def textPrintsCard : Claim7 := { stood := { row := textPrintsRow, standIns := [], harness := (true, "196800f3dadc1da1fa6555622029bf664537ba6284845157a3895496b689ed49"), looks := true }, kinds := [], alts := [], laidByText := true, laidKinds := [.data, .data, .data], laidTests := true, laidLooks := .later }
def TextPrintsCardSaid : Prop := Claim7.holds Tryd.pinned (.plain (OpenSpec.ofChange textPrintsSpec)) textPrintsCard

/-- THE TIED CARD OF 'graftlaw1.TextReads'. -/
def textReadsCard : Claim7 := { stood := { row := textReadsRow, standIns := [], harness := (true, "196800f3dadc1da1fa6555622029bf664537ba6284845157a3895496b689ed49"), looks := true }, kinds := [], alts := [], laidByText := true, laidKinds := [.data, .data, .data, .sentinel, .sentinel], laidTests := true, laidLooks := .later }
def TextReadsCardSaid : Prop := Claim7.holds Tryd.pinned (.plain (OpenSpec.ofChange textReadsSpec)) textReadsCard

/-- THE TIED CARD OF 'graftlaw1.TextTurns'. -/
def textTurnsCard : Claim7 := { stood := { row := textTurnsRow, standIns := [], harness := (true, "196800f3dadc1da1fa6555622029bf664537ba6284845157a3895496b689ed49"), looks := true }, kinds := [], alts := [], laidByText := true, laidKinds := [.data, .data, .data, .sentinel, .sentinel], laidTests := true, laidLooks := .later }
def TextTurnsCardSaid : Prop := Claim7.holds Tryd.pinned (.plain (OpenSpec.ofChange textTurnsSpec)) textTurnsCard

/-- THE TIED CARD OF 'graftlaw1.TextJoined'. -/
def textJoinedCard : Claim7 := { stood := { row := textJoinedRow, standIns := [], harness := (true, "196800f3dadc1da1fa6555622029bf664537ba6284845157a3895496b689ed49"), looks := true }, kinds := [], alts := [], laidByText := true, laidKinds := [.data, .data, .data, .sentinel, .sentinel], laidTests := true, laidLooks := .later }
def TextJoinedCardSaid : Prop := Claim7.holds Tryd.pinned (.plain (OpenSpec.ofChange textJoinedSpec)) textJoinedCard

/-- THE TIED CARD OF 'graftlaw1.TextBlank'. -/
def textBlankCard : Claim7 := { stood := { row := textBlankRow, standIns := [], harness := (true, "196800f3dadc1da1fa6555622029bf664537ba6284845157a3895496b689ed49"), looks := true }, kinds := [], alts := [], laidByText := true, laidKinds := [.data, .data, .data, .sentinel, .sentinel], laidTests := true, laidLooks := .later }
def TextBlankCardSaid : Prop := Claim7.holds Tryd.pinned (.plain (OpenSpec.ofChange textBlankSpec)) textBlankCard

/-- THE SECOND FORM's CARD OF 'graftlaw1.TextPrints'. -/
def textPrintsUptoCard : Claim7 := { stood := { row := textPrintsUptoRow, standIns := [], harness := (true, "196800f3dadc1da1fa6555622029bf664537ba6284845157a3895496b689ed49"), looks := true }, kinds := [], alts := [], laidByText := true, laidKinds := [.data, .data, .data], laidTests := true, laidLooks := .later }
def TextPrintsUptoCardSaid : Prop := Claim7.holds Tryd.pinned (.plain (OpenSpec.upto textPrintsSpec)) textPrintsUptoCard

/-- THE SECOND FORM's CARD OF 'graftlaw1.TextReads'. -/
def textReadsUptoCard : Claim7 := { stood := { row := textReadsUptoRow, standIns := [], harness := (true, "196800f3dadc1da1fa6555622029bf664537ba6284845157a3895496b689ed49"), looks := true }, kinds := [], alts := [], laidByText := true, laidKinds := [.data, .data, .data, .sentinel, .sentinel], laidTests := true, laidLooks := .later }
def TextReadsUptoCardSaid : Prop := Claim7.holds Tryd.pinned (.plain (OpenSpec.upto textReadsSpec)) textReadsUptoCard

/-- THE SECOND FORM's CARD OF 'graftlaw1.TextTurns'. -/
def textTurnsUptoCard : Claim7 := { stood := { row := textTurnsUptoRow, standIns := [], harness := (true, "196800f3dadc1da1fa6555622029bf664537ba6284845157a3895496b689ed49"), looks := true }, kinds := [], alts := [], laidByText := true, laidKinds := [.data, .data, .data, .sentinel, .sentinel], laidTests := true, laidLooks := .later }
def TextTurnsUptoCardSaid : Prop := Claim7.holds Tryd.pinned (.plain (OpenSpec.upto textTurnsSpec)) textTurnsUptoCard

/-- THE SECOND FORM's CARD OF 'graftlaw1.TextJoined'. -/
def textJoinedUptoCard : Claim7 := { stood := { row := textJoinedUptoRow, standIns := [], harness := (true, "196800f3dadc1da1fa6555622029bf664537ba6284845157a3895496b689ed49"), looks := true }, kinds := [], alts := [], laidByText := true, laidKinds := [.data, .data, .data, .sentinel, .sentinel], laidTests := true, laidLooks := .later }
def TextJoinedUptoCardSaid : Prop := Claim7.holds Tryd.pinned (.plain (OpenSpec.upto textJoinedSpec)) textJoinedUptoCard

/-- THE SECOND FORM's CARD OF 'graftlaw1.TextBlank'. -/
def textBlankUptoCard : Claim7 := { stood := { row := textBlankUptoRow, standIns := [], harness := (true, "196800f3dadc1da1fa6555622029bf664537ba6284845157a3895496b689ed49"), looks := true }, kinds := [], alts := [], laidByText := true, laidKinds := [.data, .data, .data, .sentinel, .sentinel], laidTests := true, laidLooks := .later }
def TextBlankUptoCardSaid : Prop := Claim7.holds Tryd.pinned (.plain (OpenSpec.upto textBlankSpec)) textBlankUptoCard
end Rows
end Go.Proofs.YtbnkfcjmcjiahaaDoor
