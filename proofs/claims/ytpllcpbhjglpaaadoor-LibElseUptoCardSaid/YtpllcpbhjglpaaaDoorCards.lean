/-
  DERIVED. GIVEN WITH THE SEED: THE CARDS: each row of YtpllcpbhjglpaaaDoorRows.lean that lists a variable, with what it lists TIED to the program's text (the seventh form; the later family's looks); each row that meets fmt, with fmt's text TOLD by the authors' own Lean function (tested against real Go, not proved from fmt's source: count such statements apart). THE CARD IS WHAT COUNTS. Prove the row's statement (the work); the ties are given (YtpllcpbhjglpaaaDoorTie.lean); close each card by the builder's one call (the guide's Derived/Test/ToyasCard.lean, 'card_holds'). Laid BY PROGRAM, IN A SANDBOX (cutbox-door.mjs). By AI agents, Wed Nov 11 2026. No macro, syntax, notation, axiom, sorry.
-/
import Derived.Test.YtpllcpbhjglpaaaDoorRows
import GoSem.ClaimSeven
namespace Go.Proofs.YtpllcpbhjglpaaaDoor
namespace Rows

/-- THE TIED CARD OF 'graftlaw3.LibFiles'. -/
def libFilesCard : Claim7 := { stood := { row := libFilesRow, standIns := [], harness := (true, "40508e4afac53ac472aef7316e5b2fa611723e8a8c1211ac2094272e40cf4b8c"), looks := true }, kinds := [], alts := [], laidByText := true, laidKinds := [.data, .data, .data, .sentinel, .sentinel], laidTests := true, laidLooks := .later }
def LibFilesCardSaid : Prop := Claim7.holds Tryd.pinned (.plain (OpenSpec.ofChange libFilesSpec)) libFilesCard

/-- THE TIED CARD OF 'graftlaw3.LibElse'. -/
def libElseCard : Claim7 := { stood := { row := libElseRow, standIns := [], harness := (true, "40508e4afac53ac472aef7316e5b2fa611723e8a8c1211ac2094272e40cf4b8c"), looks := true }, kinds := [], alts := [], laidByText := true, laidKinds := [.data, .data, .data, .sentinel, .sentinel], laidTests := true, laidLooks := .later }
def LibElseCardSaid : Prop := Claim7.holds Tryd.pinned (.plain (OpenSpec.ofChange libElseSpec)) libElseCard

/-- THE TIED CARD OF 'graftlaw3.LibSplit'. -/
def libSplitCard : Claim7 := { stood := { row := libSplitRow, standIns := [], harness := (true, "40508e4afac53ac472aef7316e5b2fa611723e8a8c1211ac2094272e40cf4b8c"), looks := true }, kinds := [], alts := [], laidByText := true, laidKinds := [.data, .data, .data, .sentinel, .sentinel], laidTests := true, laidLooks := .later }
def LibSplitCardSaid : Prop := Claim7.holds Tryd.pinned (.plain (OpenSpec.ofChange libSplitSpec)) libSplitCard

/-- THE SECOND FORM's CARD OF 'graftlaw3.LibFiles'. -/
def libFilesUptoCard : Claim7 := { stood := { row := libFilesUptoRow, standIns := [], harness := (true, "40508e4afac53ac472aef7316e5b2fa611723e8a8c1211ac2094272e40cf4b8c"), looks := true }, kinds := [], alts := [], laidByText := true, laidKinds := [.data, .data, .data, .sentinel, .sentinel], laidTests := true, laidLooks := .later }
def LibFilesUptoCardSaid : Prop := Claim7.holds Tryd.pinned (.plain (OpenSpec.upto libFilesSpec)) libFilesUptoCard

/-- THE SECOND FORM's CARD OF 'graftlaw3.LibElse'. -/
def libElseUptoCard : Claim7 := { stood := { row := libElseUptoRow, standIns := [], harness := (true, "40508e4afac53ac472aef7316e5b2fa611723e8a8c1211ac2094272e40cf4b8c"), looks := true }, kinds := [], alts := [], laidByText := true, laidKinds := [.data, .data, .data, .sentinel, .sentinel], laidTests := true, laidLooks := .later }
def LibElseUptoCardSaid : Prop := Claim7.holds Tryd.pinned (.plain (OpenSpec.upto libElseSpec)) libElseUptoCard

/-- THE SECOND FORM's CARD OF 'graftlaw3.LibSplit'. -/
def libSplitUptoCard : Claim7 := { stood := { row := libSplitUptoRow, standIns := [], harness := (true, "40508e4afac53ac472aef7316e5b2fa611723e8a8c1211ac2094272e40cf4b8c"), looks := true }, kinds := [], alts := [], laidByText := true, laidKinds := [.data, .data, .data, .sentinel, .sentinel], laidTests := true, laidLooks := .later }
def LibSplitUptoCardSaid : Prop := Claim7.holds Tryd.pinned (.plain (OpenSpec.upto libSplitSpec)) libSplitUptoCard
end Rows
end Go.Proofs.YtpllcpbhjglpaaaDoor
