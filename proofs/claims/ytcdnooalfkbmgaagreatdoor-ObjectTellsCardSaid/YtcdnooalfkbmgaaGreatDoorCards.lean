/-
  DERIVED. GIVEN WITH THE SEED: THE CARDS: each row of YtcdnooalfkbmgaaGreatDoorRows.lean that lists a variable, with what it lists TIED to the program's text (the seventh form; the later family's looks); each row that meets fmt, with fmt's text TOLD by the authors' own Lean function (tested against real Go, not proved from fmt's source: count such statements apart). THE CARD IS WHAT COUNTS. Prove the row's statement (the work); the ties are given (YtcdnooalfkbmgaaGreatDoorTie.lean); close each card by the builder's one call (the guide's Derived/Test/ToyasCard.lean, 'card_holds'). Laid BY PROGRAM, IN A SANDBOX (cutbox-door.mjs). By AI agents, Wed Nov 11 2026. No macro, syntax, notation, axiom, sorry.
-/
import Derived.Test.YtcdnooalfkbmgaaGreatDoorRows
import GoSem.ClaimSeven
namespace Go.Proofs.YtcdnooalfkbmgaaGreatDoor
namespace Rows

/-- THE TIED CARD OF 'graftlaw9.ObjectTells'. -/
def objectTellsCard : Claim7 := { stood := { row := objectTellsRow, standIns := [], harness := (true, "f0cd768750d004afe90f4d0638e5ad2602819fd373a95dd19c97486b04262b97"), looks := true }, kinds := [], alts := [], laidByText := true, laidKinds := [.data, .data, .data, .sentinel, .sentinel], laidTests := true, laidLooks := .later }
def ObjectTellsCardSaid : Prop := Claim7.holds Tryz.pinned (.plain (OpenSpec.ofChange objectTellsSpec)) objectTellsCard

/-- THE TIED CARD OF 'graftlaw9.ObjectMade'. -/
def objectMadeCard : Claim7 := { stood := { row := objectMadeRow, standIns := [], harness := (true, "f0cd768750d004afe90f4d0638e5ad2602819fd373a95dd19c97486b04262b97"), looks := true }, kinds := [], alts := [], laidByText := true, laidKinds := [.data, .data, .data, .sentinel, .sentinel], laidTests := true, laidLooks := .later }
def ObjectMadeCardSaid : Prop := Claim7.holds Tryz.pinned (.plain (OpenSpec.ofChange objectMadeSpec)) objectMadeCard

/-- THE SECOND FORM's CARD OF 'graftlaw9.ObjectTells'. -/
def objectTellsUptoCard : Claim7 := { stood := { row := objectTellsUptoRow, standIns := [], harness := (true, "f0cd768750d004afe90f4d0638e5ad2602819fd373a95dd19c97486b04262b97"), looks := true }, kinds := [], alts := [], laidByText := true, laidKinds := [.data, .data, .data, .sentinel, .sentinel], laidTests := true, laidLooks := .later }
def ObjectTellsUptoCardSaid : Prop := Claim7.holds Tryz.pinned (.plain (OpenSpec.upto objectTellsSpec)) objectTellsUptoCard

/-- THE SECOND FORM's CARD OF 'graftlaw9.ObjectMade'. -/
def objectMadeUptoCard : Claim7 := { stood := { row := objectMadeUptoRow, standIns := [], harness := (true, "f0cd768750d004afe90f4d0638e5ad2602819fd373a95dd19c97486b04262b97"), looks := true }, kinds := [], alts := [], laidByText := true, laidKinds := [.data, .data, .data, .sentinel, .sentinel], laidTests := true, laidLooks := .later }
def ObjectMadeUptoCardSaid : Prop := Claim7.holds Tryz.pinned (.plain (OpenSpec.upto objectMadeSpec)) objectMadeUptoCard
end Rows
end Go.Proofs.YtcdnooalfkbmgaaGreatDoor
