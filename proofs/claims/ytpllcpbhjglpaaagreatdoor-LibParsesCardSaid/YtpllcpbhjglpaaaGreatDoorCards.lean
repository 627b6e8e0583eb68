/-
  DERIVED. GIVEN WITH THE SEED: THE CARDS: each row of YtpllcpbhjglpaaaGreatDoorRows.lean that lists a variable, with what it lists TIED to the program's text (the seventh form; the later family's looks); each row that meets fmt, with fmt's text TOLD by the authors' own Lean function (tested against real Go, not proved from fmt's source: count such statements apart). THE CARD IS WHAT COUNTS. Prove the row's statement (the work); the ties are given (YtpllcpbhjglpaaaGreatDoorTie.lean); close each card by the builder's one call (the guide's Derived/Test/ToyasCard.lean, 'card_holds'). Laid BY PROGRAM, IN A SANDBOX (cutbox-door.mjs). By AI agents, Wed Nov 11 2026. No macro, syntax, notation, axiom, sorry.
-/
import Derived.Test.YtpllcpbhjglpaaaGreatDoorRows
import GoSem.ClaimSeven
namespace Go.Proofs.YtpllcpbhjglpaaaGreatDoor
namespace Rows

/-- THE TIED CARD OF 'graftlaw3.LibParses'. -/
def libParsesCard : Claim7 := { stood := { row := libParsesRow, standIns := [], harness := (true, "907bf2005abec728709a49e9db6678d122d0d48e17f9f55dd48c3d045509c244"), looks := true }, kinds := [], alts := [], laidByText := true, laidKinds := [.data, .data, .data, .sentinel, .sentinel], laidTests := true, laidLooks := .later }
def LibParsesCardSaid : Prop := Claim7.holds Tryz.pinned (.plain (OpenSpec.ofChange libParsesSpec)) libParsesCard

/-- THE TIED CARD OF 'graftlaw3.LibShows'. -/
def libShowsCard : Claim7 := { stood := { row := libShowsRow, standIns := [], harness := (true, "907bf2005abec728709a49e9db6678d122d0d48e17f9f55dd48c3d045509c244"), looks := true }, kinds := [], alts := [], laidByText := true, laidKinds := [.data, .data, .data, .data, .sentinel, .sentinel, .pinned], laidTests := true, laidLooks := .later }
def LibShowsCardSaid : Prop := Claim7.holds Tryz.pinned (.plain (OpenSpec.ofChange libShowsSpec)) libShowsCard

/-- THE TIED CARD OF 'graftlaw3.LibTurns'. -/
def libTurnsCard : Claim7 := { stood := { row := libTurnsRow, standIns := [], harness := (true, "907bf2005abec728709a49e9db6678d122d0d48e17f9f55dd48c3d045509c244"), looks := true }, kinds := [], alts := [], laidByText := true, laidKinds := [.data, .data, .data, .data, .sentinel, .sentinel, .pinned], laidTests := true, laidLooks := .later }
def LibTurnsCardSaid : Prop := Claim7.holds Tryz.pinned (.plain (OpenSpec.ofChange libTurnsSpec)) libTurnsCard

/-- THE SECOND FORM's CARD OF 'graftlaw3.LibParses'. -/
def libParsesUptoCard : Claim7 := { stood := { row := libParsesUptoRow, standIns := [], harness := (true, "907bf2005abec728709a49e9db6678d122d0d48e17f9f55dd48c3d045509c244"), looks := true }, kinds := [], alts := [], laidByText := true, laidKinds := [.data, .data, .data, .sentinel, .sentinel], laidTests := true, laidLooks := .later }
def LibParsesUptoCardSaid : Prop := Claim7.holds Tryz.pinned (.plain (OpenSpec.upto libParsesSpec)) libParsesUptoCard

/-- THE SECOND FORM's CARD OF 'graftlaw3.LibShows'. -/
def libShowsUptoCard : Claim7 := { stood := { row := libShowsUptoRow, standIns := [], harness := (true, "907bf2005abec728709a49e9db6678d122d0d48e17f9f55dd48c3d045509c244"), looks := true }, kinds := [], alts := [], laidByText := true, laidKinds := [.data, .data, .data, .data, .sentinel, .sentinel, .pinned], laidTests := true, laidLooks := .later }
def LibShowsUptoCardSaid : Prop := Claim7.holds Tryz.pinned (.plain (OpenSpec.upto libShowsSpec)) libShowsUptoCard

/-- THE SECOND FORM's CARD OF 'graftlaw3.LibTurns'. -/
def libTurnsUptoCard : Claim7 := { stood := { row := libTurnsUptoRow, standIns := [], harness := (true, "907bf2005abec728709a49e9db6678d122d0d48e17f9f55dd48c3d045509c244"), looks := true }, kinds := [], alts := [], laidByText := true, laidKinds := [.data, .data, .data, .data, .sentinel, .sentinel, .pinned], laidTests := true, laidLooks := .later }
def LibTurnsUptoCardSaid : Prop := Claim7.holds Tryz.pinned (.plain (OpenSpec.upto libTurnsSpec)) libTurnsUptoCard
end Rows
end Go.Proofs.YtpllcpbhjglpaaaGreatDoor
