/-
  NARROWER THAN 'FOR EVERY INPUT', by the rows' own cells (each row's printed sentence says how): CodeTells: loops · CodeProtos: loops · CodeJoined: loops · CodeSize: loops.
  DERIVED. THE GIVEN ROWS OF THIS SEAT. 4 by the template 'for every input the law returns true; each argument reads behind the call as it read before'; 0 by the template 'total and deterministic' (their statements: YtpfdoffnpkokhaaTotals.lean).
  GIVEN WITH THE SEED: the statements are not yours to turn. If you find one false, say at which input.
  Laid BY PROGRAM, IN A SANDBOX (cutbox-rows.mjs): the forced cells as the released guide's own fill.sh prints them over the translation 430d0ec67d88f7bb… (all of the seat's roots in one cut). By AI agents, Wed Nov 11 2026. No macro, syntax, notation, axiom, sorry.
-/
import Derived.Test.YtpfdoffnpkokhaaChecked
import GoSem.Claim
import GoSem.ClaimJoined
import GoSem.ClaimMapViews
import Derived.JoinedTies
import Derived.KernelRfl
namespace Go.Proofs.Ytpfdoffnpkokhaa
/- THE CELL 'sum', in the pinned program and in every row, IS THE sha256 OF THE DUMP (.gsa) THAT YtpfdoffnpkokhaaProg.lean LOADS. Nothing in Lean hashes anything: it is a label: what it is worth is what the hold of that sum in a sandbox is worth. -/
noncomputable def Try.pinned : Pinned := { name := "ytpfdoffnpkokhaa", sum := "430d0ec67d88f7bbcbf10e4ee1d315bdf556b4f952ce16baeb1fbe01b24d0d53", checked := Try.checked }
namespace Rows
def none {H : Type} : Left H := { results := [], args := [] }

/-- 'graftlaw8.CodeTells': WHATEVER THE INPUT: true; the input reads as it did. -/
def codeTellsSpec : ChangeSpec := { name := "codeTells", fn := fun _ => fun
  | [d] => { results := [.lit (.bool true)], args := [d] }
  | _ => none }
def codeTellsRow : OpenClaim := { program := "ytpfdoffnpkokhaa", sum := "430d0ec67d88f7bbcbf10e4ee1d315bdf556b4f952ce16baeb1fbe01b24d0d53", func := "graftwood/graftlaw8.CodeTells", spec := "codeTells", inPlace := ["internal/bytealg.IndexByteString"], unfollowed := true, recurses := true, loops := true, apart := false }
def CodeTellsSaid : Prop := codeTellsRow.holds Try.pinned (OpenSpec.ofChange codeTellsSpec)

/-- ITS FALSE NEIGHBOUR: 'it returns false'. Refute it at one input. -/
def codeTellsWrong : ChangeSpec := { name := "codeTells", fn := fun _ => fun
  | [d] => { results := [.lit (.bool false)], args := [d] }
  | _ => none }
def CodeTellsWrongFalsely : Prop := codeTellsRow.holds Try.pinned (OpenSpec.ofChange codeTellsWrong)

/-- 'graftlaw8.CodeProtos': WHATEVER THE INPUT: true; the input reads as it did. -/
def codeProtosSpec : ChangeSpec := { name := "codeProtos", fn := fun _ => fun
  | [d] => { results := [.lit (.bool true)], args := [d] }
  | _ => none }
def codeProtosRow : OpenClaim := { program := "ytpfdoffnpkokhaa", sum := "430d0ec67d88f7bbcbf10e4ee1d315bdf556b4f952ce16baeb1fbe01b24d0d53", func := "graftwood/graftlaw8.CodeProtos", spec := "codeProtos", inPlace := ["internal/bytealg.IndexByteString"], unfollowed := true, recurses := true, loops := true, apart := false }
def CodeProtosSaid : Prop := codeProtosRow.holds Try.pinned (OpenSpec.ofChange codeProtosSpec)

/-- ITS FALSE NEIGHBOUR: 'it returns false'. Refute it at one input. -/
def codeProtosWrong : ChangeSpec := { name := "codeProtos", fn := fun _ => fun
  | [d] => { results := [.lit (.bool false)], args := [d] }
  | _ => none }
def CodeProtosWrongFalsely : Prop := codeProtosRow.holds Try.pinned (OpenSpec.ofChange codeProtosWrong)

/-- 'graftlaw8.CodeJoined': WHATEVER THE INPUT: true; the input reads as it did. -/
def codeJoinedSpec : ChangeSpec := { name := "codeJoined", fn := fun _ => fun
  | [d1, d2] => { results := [.lit (.bool true)], args := [d1, d2] }
  | _ => none }
def codeJoinedRow : OpenClaim := { program := "ytpfdoffnpkokhaa", sum := "430d0ec67d88f7bbcbf10e4ee1d315bdf556b4f952ce16baeb1fbe01b24d0d53", func := "graftwood/graftlaw8.CodeJoined", spec := "codeJoined", inPlace := ["internal/bytealg.IndexByteString"], recurses := true, loops := true, apart := false }
def CodeJoinedSaid : Prop := codeJoinedRow.holds Try.pinned (OpenSpec.ofChange codeJoinedSpec)

/-- ITS FALSE NEIGHBOUR: 'it returns false'. Refute it at one input. -/
def codeJoinedWrong : ChangeSpec := { name := "codeJoined", fn := fun _ => fun
  | [d1, d2] => { results := [.lit (.bool false)], args := [d1, d2] }
  | _ => none }
def CodeJoinedWrongFalsely : Prop := codeJoinedRow.holds Try.pinned (OpenSpec.ofChange codeJoinedWrong)

/-- 'graftlaw8.CodeSize': WHATEVER THE INPUT: true; the input reads as it did. -/
def codeSizeSpec : ChangeSpec := { name := "codeSize", fn := fun _ => fun
  | [d] => { results := [.lit (.bool true)], args := [d] }
  | _ => none }
def codeSizeRow : OpenClaim := { program := "ytpfdoffnpkokhaa", sum := "430d0ec67d88f7bbcbf10e4ee1d315bdf556b4f952ce16baeb1fbe01b24d0d53", func := "graftwood/graftlaw8.CodeSize", spec := "codeSize", inPlace := ["internal/bytealg.IndexByteString"], unfollowed := true, recurses := true, loops := true, apart := false }
def CodeSizeSaid : Prop := codeSizeRow.holds Try.pinned (OpenSpec.ofChange codeSizeSpec)

/-- ITS FALSE NEIGHBOUR: 'it returns false'. Refute it at one input. -/
def codeSizeWrong : ChangeSpec := { name := "codeSize", fn := fun _ => fun
  | [d] => { results := [.lit (.bool false)], args := [d] }
  | _ => none }
def CodeSizeWrongFalsely : Prop := codeSizeRow.holds Try.pinned (OpenSpec.ofChange codeSizeWrong)

/- THE SECOND FORM. 'bulk': how many values and letters a reading holds, each counted each time it is reached (what is shared counts as often as it is met; a slice's spare places count too). A statement '..UptoSaid' is the law's where the arguments, and the package variables that the reading takes, are together of bulk at most 1048576: NARROWER than '..Said'. Prove '..Said' where nothing that the law and all that it calls make is longer than what came in: it says more and counts as full. Else prove '..UptoSaid'. A law counts once. -/
mutual
def uptoBulk {H : Type} : DataW H → Nat
  | .lit (.string bytes) => bytes.length + 1
  | .lit _ => 1
  | .nil => 1
  | .ptr d => uptoBulk d + 1
  | .slice elems spare => uptoBulkAll elems + uptoBulkAll spare + 1
  | .agg parts => uptoBulkAll parts + 1
  | .iface _ d => uptoBulk d + 1
  | .map entries => uptoBulkEntries entries + 1
  | .held _ => 1
def uptoBulkAll {H : Type} : List (DataW H) → Nat
  | [] => 0
  | d :: r => uptoBulk d + uptoBulkAll r
def uptoBulkEntries {H : Type} : List (Lit × DataW H) → Nat
  | [] => 0
  | x :: r => uptoBulkEntry x + uptoBulkEntries r
def uptoBulkEntry {H : Type} : Lit × DataW H → Nat
  | (.string bytes, d) => bytes.length + uptoBulk d + 1
  | (_, d) => uptoBulk d + 1
 end
def uptoSmall : (H : Type) → List (DataW H) → Bool := fun _ ds => decide (uptoBulkAll ds ≤ 1048576)
def OpenSpec.upto (s : _root_.Go.ChangeSpec) : _root_.Go.OpenSpec := { _root_.Go.OpenSpec.ofChange s with cond := some uptoSmall }

/-- 'graftlaw8.CodeTells', WHERE WHAT IT READS IS OF BULK AT MOST 1048576: true; the input reads as it did. -/
def codeTellsUptoRow : OpenClaim := { program := "ytpfdoffnpkokhaa", sum := "430d0ec67d88f7bbcbf10e4ee1d315bdf556b4f952ce16baeb1fbe01b24d0d53", func := "graftwood/graftlaw8.CodeTells", spec := "codeTells", inPlace := ["internal/bytealg.IndexByteString"], unfollowed := true, recurses := true, loops := true, apart := false, narrowed := true }
def CodeTellsUptoSaid : Prop := codeTellsUptoRow.holds Try.pinned (OpenSpec.upto codeTellsSpec)

/-- 'graftlaw8.CodeProtos', WHERE WHAT IT READS IS OF BULK AT MOST 1048576: true; the input reads as it did. -/
def codeProtosUptoRow : OpenClaim := { program := "ytpfdoffnpkokhaa", sum := "430d0ec67d88f7bbcbf10e4ee1d315bdf556b4f952ce16baeb1fbe01b24d0d53", func := "graftwood/graftlaw8.CodeProtos", spec := "codeProtos", inPlace := ["internal/bytealg.IndexByteString"], unfollowed := true, recurses := true, loops := true, apart := false, narrowed := true }
def CodeProtosUptoSaid : Prop := codeProtosUptoRow.holds Try.pinned (OpenSpec.upto codeProtosSpec)

/-- 'graftlaw8.CodeJoined', WHERE WHAT IT READS IS OF BULK AT MOST 1048576: true; the input reads as it did. -/
def codeJoinedUptoRow : OpenClaim := { program := "ytpfdoffnpkokhaa", sum := "430d0ec67d88f7bbcbf10e4ee1d315bdf556b4f952ce16baeb1fbe01b24d0d53", func := "graftwood/graftlaw8.CodeJoined", spec := "codeJoined", inPlace := ["internal/bytealg.IndexByteString"], recurses := true, loops := true, apart := false, narrowed := true }
def CodeJoinedUptoSaid : Prop := codeJoinedUptoRow.holds Try.pinned (OpenSpec.upto codeJoinedSpec)

/-- 'graftlaw8.CodeSize', WHERE WHAT IT READS IS OF BULK AT MOST 1048576: true; the input reads as it did. -/
def codeSizeUptoRow : OpenClaim := { program := "ytpfdoffnpkokhaa", sum := "430d0ec67d88f7bbcbf10e4ee1d315bdf556b4f952ce16baeb1fbe01b24d0d53", func := "graftwood/graftlaw8.CodeSize", spec := "codeSize", inPlace := ["internal/bytealg.IndexByteString"], unfollowed := true, recurses := true, loops := true, apart := false, narrowed := true }
def CodeSizeUptoSaid : Prop := codeSizeUptoRow.holds Try.pinned (OpenSpec.upto codeSizeSpec)

end Rows
end Go.Proofs.Ytpfdoffnpkokhaa
