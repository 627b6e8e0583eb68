/- Each constant of the given program has the value that the closed sentence 'Names' tells, so that it answers true; without any condition. -/
import Derived.Test.YtfaehjdfeongeaaPNamesx1
namespace Go.Proofs.Ytfaehjdfeongeaa.Pure
open Go.RowKit Go.Proofs.Ytfaehjdfeongeaa.PNames Go.Proofs.YtfaehjdfeongeaaW.PrintWords Go.Proofs.YtfaehjdfeongeaaW.PrintLast

theorem Names : grafttop_Names.Pure := ⟨200, by kernel_rfl⟩

end Go.Proofs.Ytfaehjdfeongeaa.Pure
