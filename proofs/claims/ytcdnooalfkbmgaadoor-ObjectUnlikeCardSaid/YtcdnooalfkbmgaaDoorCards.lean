/-
  DERIVED. GIVEN WITH THE SEED: THE CARDS: each row of YtcdnooalfkbmgaaDoorRows.lean that lists a variable, with what it lists TIED to the program's text (the seventh form; the later family's looks); each row that meets fmt, with fmt's text TOLD by the authors' own Lean function (tested against real Go, not proved from fmt's source: count such statements apart). THE CARD IS WHAT COUNTS. Prove the row's statement (the work); the ties are given (YtcdnooalfkbmgaaDoorTie.lean); close each card by the builder's one call (the guide's Derived/Test/ToyasCard.lean, 'card_holds'). Laid BY PROGRAM, IN A SANDBOX (cutbox-door.mjs). By AI agents, Wed Nov 11 2026. No macro, syntax, notation, axiom, sorry.
-/
import Derived.Test.YtcdnooalfkbmgaaDoorRows
import GoSem.ClaimSeven
namespace Go.Proofs.YtcdnooalfkbmgaaDoor
namespace Rows

/-- THE TIED CARD OF 'graftlaw9.ObjectTurns'. -/
def objectTurnsCard : Claim7 := { stood := { row := objectTurnsRow, standIns := [], harness := (true, "63f6e10f1126c8b56a521d756e4ff46075d0cf0761658dcc692d847e9fe89ffd"), looks := true }, kinds := [], alts := [], laidByText := true, laidKinds := [.data, .data, .data, .sentinel, .sentinel], laidTests := true, laidLooks := .later }
def ObjectTurnsCardSaid : Prop := Claim7.holds Tryd.pinned (.plain (OpenSpec.ofChange objectTurnsSpec)) objectTurnsCard

/-- THE TIED CARD OF 'graftlaw9.ObjectUnlike'. -/
def objectUnlikeCard : Claim7 := { stood := { row := objectUnlikeRow, standIns := [], harness := (true, "63f6e10f1126c8b56a521d756e4ff46075d0cf0761658dcc692d847e9fe89ffd"), looks := true }, kinds := [], alts := [], laidByText := true, laidKinds := [.data, .data, .data, .sentinel, .sentinel], laidTests := true, laidLooks := .later }
def ObjectUnlikeCardSaid : Prop := Claim7.holds Tryd.pinned (.plain (OpenSpec.ofChange objectUnlikeSpec)) objectUnlikeCard

/-- THE SECOND FORM's CARD OF 'graftlaw9.ObjectTurns'. -/
def objectTurnsUptoCard : Claim7 := { stood := { row := objectTurnsUptoRow, standIns := [], harness := (true, "63f6e10f1126c8b56a521d756e4ff46075d0cf0761658dcc692d847e9fe89ffd"), looks := true }, kinds := [], alts := [], laidByText := true, laidKinds := [.data, .data, .data, .sentinel, .sentinel], laidTests := true, laidLooks := .later }
def ObjectTurnsUptoCardSaid : Prop := Claim7.holds Tryd.pinned (.plain (OpenSpec.upto objectTurnsSpec)) objectTurnsUptoCard

/-- THE SECOND FORM's CARD OF 'graftlaw9.ObjectUnlike'. -/
def objectUnlikeUptoCard : Claim7 := { stood := { row := objectUnlikeUptoRow, standIns := [], harness := (true, "63f6e10f1126c8b56a521d756e4ff46075d0cf0761658dcc692d847e9fe89ffd"), looks := true }, kinds := [], alts := [], laidByText := true, laidKinds := [.data, .data, .data, .sentinel, .sentinel], laidTests := true, laidLooks := .later }
def ObjectUnlikeUptoCardSaid : Prop := Claim7.holds Tryd.pinned (.plain (OpenSpec.upto objectUnlikeSpec)) objectUnlikeUptoCard
end Rows
end Go.Proofs.YtcdnooalfkbmgaaDoor
