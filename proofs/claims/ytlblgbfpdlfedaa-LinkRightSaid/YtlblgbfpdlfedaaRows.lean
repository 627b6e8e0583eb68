/-
  NARROWER THAN 'FOR EVERY INPUT', by the rows' own cells (each row's printed sentence says how): LinkTells: loops · LinkRight: loops · LinkAhead: loops · LinkOne: loops.
  DERIVED. THE GIVEN ROWS OF THIS SEAT. 4 by the template 'for every input the law returns true; each argument reads behind the call as it read before'; 0 by the template 'total and deterministic' (their statements: YtlblgbfpdlfedaaTotals.lean).
  GIVEN WITH THE SEED: the statements are not yours to turn. If you find one false, say at which input.
  Laid BY PROGRAM, IN A SANDBOX (cutbox-rows.mjs): the forced cells as the released guide's own fill.sh prints them over the translation 734fabb8e74cc777… (all of the seat's roots in one cut). By AI agents, Wed Nov 11 2026. No macro, syntax, notation, axiom, sorry.
-/
import Derived.Test.YtlblgbfpdlfedaaChecked
import GoSem.Claim
import GoSem.ClaimJoined
import GoSem.ClaimMapViews
import Derived.JoinedTies
import Derived.KernelRfl
namespace Go.Proofs.Ytlblgbfpdlfedaa
/- THE CELL 'sum', in the pinned program and in every row, IS THE sha256 OF THE DUMP (.gsa) THAT YtlblgbfpdlfedaaProg.lean LOADS. Nothing in Lean hashes anything: it is a label: what it is worth is what the hold of that sum in a sandbox is worth. -/
noncomputable def Try.pinned : Pinned := { name := "ytlblgbfpdlfedaa", sum := "734fabb8e74cc777a8ae99a55012e3a34da930e52e3f9385a9ab0408c782afca", checked := Try.checked }
namespace Rows
def none {H : Type} : Left H := { results := [], args := [] }

/-- 'graftlaw10.LinkTells': WHATEVER THE INPUT: true; the input reads as it did. -/
def linkTellsSpec : ChangeSpec := { name := "linkTells", fn := fun _ => fun
  | [d] => { results := [.lit (.bool true)], args := [d] }
  | _ => none }
def linkTellsRow : OpenClaim := { program := "ytlblgbfpdlfedaa", sum := "734fabb8e74cc777a8ae99a55012e3a34da930e52e3f9385a9ab0408c782afca", func := "graftwood/graftlaw10.LinkTells", spec := "linkTells", inPlace := ["internal/bytealg.IndexByteString"], unfollowed := true, recurses := true, loops := true, plainKeys := false, apart := false }
def LinkTellsSaid : Prop := linkTellsRow.holds Try.pinned (OpenSpec.ofChange linkTellsSpec)

/-- ITS FALSE NEIGHBOUR: 'it returns false'. Refute it at one input. -/
def linkTellsWrong : ChangeSpec := { name := "linkTells", fn := fun _ => fun
  | [d] => { results := [.lit (.bool false)], args := [d] }
  | _ => none }
def LinkTellsWrongFalsely : Prop := linkTellsRow.holds Try.pinned (OpenSpec.ofChange linkTellsWrong)

/-- 'graftlaw10.LinkRight': WHATEVER THE INPUT: true; the input reads as it did. -/
def linkRightSpec : ChangeSpec := { name := "linkRight", fn := fun _ => fun
  | [d] => { results := [.lit (.bool true)], args := [d] }
  | _ => none }
def linkRightRow : OpenClaim := { program := "ytlblgbfpdlfedaa", sum := "734fabb8e74cc777a8ae99a55012e3a34da930e52e3f9385a9ab0408c782afca", func := "graftwood/graftlaw10.LinkRight", spec := "linkRight", inPlace := ["internal/bytealg.IndexByteString"], unfollowed := true, recurses := true, loops := true, plainKeys := false, apart := false }
def LinkRightSaid : Prop := linkRightRow.holds Try.pinned (OpenSpec.ofChange linkRightSpec)

/-- ITS FALSE NEIGHBOUR: 'it returns false'. Refute it at one input. -/
def linkRightWrong : ChangeSpec := { name := "linkRight", fn := fun _ => fun
  | [d] => { results := [.lit (.bool false)], args := [d] }
  | _ => none }
def LinkRightWrongFalsely : Prop := linkRightRow.holds Try.pinned (OpenSpec.ofChange linkRightWrong)

/-- 'graftlaw10.LinkAhead': WHATEVER THE INPUT: true; the input reads as it did. -/
def linkAheadSpec : ChangeSpec := { name := "linkAhead", fn := fun _ => fun
  | [d1, d2] => { results := [.lit (.bool true)], args := [d1, d2] }
  | _ => none }
def linkAheadRow : OpenClaim := { program := "ytlblgbfpdlfedaa", sum := "734fabb8e74cc777a8ae99a55012e3a34da930e52e3f9385a9ab0408c782afca", func := "graftwood/graftlaw10.LinkAhead", spec := "linkAhead", inPlace := ["internal/bytealg.IndexByteString"], unfollowed := true, recurses := true, loops := true, plainKeys := false, apart := false }
def LinkAheadSaid : Prop := linkAheadRow.holds Try.pinned (OpenSpec.ofChange linkAheadSpec)

/-- ITS FALSE NEIGHBOUR: 'it returns false'. Refute it at one input. -/
def linkAheadWrong : ChangeSpec := { name := "linkAhead", fn := fun _ => fun
  | [d1, d2] => { results := [.lit (.bool false)], args := [d1, d2] }
  | _ => none }
def LinkAheadWrongFalsely : Prop := linkAheadRow.holds Try.pinned (OpenSpec.ofChange linkAheadWrong)

/-- 'graftlaw10.LinkOne': WHATEVER THE INPUT: true; the input reads as it did. -/
def linkOneSpec : ChangeSpec := { name := "linkOne", fn := fun _ => fun
  | [d] => { results := [.lit (.bool true)], args := [d] }
  | _ => none }
def linkOneRow : OpenClaim := { program := "ytlblgbfpdlfedaa", sum := "734fabb8e74cc777a8ae99a55012e3a34da930e52e3f9385a9ab0408c782afca", func := "graftwood/graftlaw10.LinkOne", spec := "linkOne", inPlace := ["internal/bytealg.IndexByteString"], unfollowed := true, recurses := true, loops := true, plainKeys := false, apart := false }
def LinkOneSaid : Prop := linkOneRow.holds Try.pinned (OpenSpec.ofChange linkOneSpec)

/-- ITS FALSE NEIGHBOUR: 'it returns false'. Refute it at one input. -/
def linkOneWrong : ChangeSpec := { name := "linkOne", fn := fun _ => fun
  | [d] => { results := [.lit (.bool false)], args := [d] }
  | _ => none }
def LinkOneWrongFalsely : Prop := linkOneRow.holds Try.pinned (OpenSpec.ofChange linkOneWrong)

/- THE SECOND FORM. 'bulk': how many values and letters a reading holds, each counted each time it is reached (what is shared counts as often as it is met; a slice's spare places count too). A statement '..UptoSaid' is the law's where the arguments, and the package variables that the reading takes, are together of bulk at most 1048576: NARROWER than '..Said'. Prove '..Said' where nothing that the law and all that it calls make is longer than what came in: it says more and counts as full. Else prove '..UptoSaid'. A law counts once. -/
mutual
def uptoBulk {H : Type} : DataW H → Nat
  | .lit (.string bytes) => bytes.length + 1
  | .lit _ => 1
  | .nil => 1
  | .ptr d => uptoBulk d + 1
  | .slice elems spare => uptoBulkAll elems + uptoBulkAll spare + 1
  | .agg parts => uptoBulkAll parts + 1
  | .iface _ d => uptoBulk d + 1
  | .map entries => uptoBulkEntries entries + 1
  | .held _ => 1
def uptoBulkAll {H : Type} : List (DataW H) → Nat
  | [] => 0
  | d :: r => uptoBulk d + uptoBulkAll r
def uptoBulkEntries {H : Type} : List (Lit × DataW H) → Nat
  | [] => 0
  | x :: r => uptoBulkEntry x + uptoBulkEntries r
def uptoBulkEntry {H : Type} : Lit × DataW H → Nat
  | (.string bytes, d) => bytes.length + uptoBulk d + 1
  | (_, d) => uptoBulk d + 1
 end
def uptoSmall : (H : Type) → List (DataW H) → Bool := fun _ ds => decide (uptoBulkAll ds ≤ 1048576)
def OpenSpec.upto (s : _root_.Go.ChangeSpec) : _root_.Go.OpenSpec := { _root_.Go.OpenSpec.ofChange s with cond := some uptoSmall }

/-- 'graftlaw10.LinkTells', WHERE WHAT IT READS IS OF BULK AT MOST 1048576: true; the input reads as it did. -/
def linkTellsUptoRow : OpenClaim := { program := "ytlblgbfpdlfedaa", sum := "734fabb8e74cc777a8ae99a55012e3a34da930e52e3f9385a9ab0408c782afca", func := "graftwood/graftlaw10.LinkTells", spec := "linkTells", inPlace := ["internal/bytealg.IndexByteString"], unfollowed := true, recurses := true, loops := true, plainKeys := false, apart := false, narrowed := true }
def LinkTellsUptoSaid : Prop := linkTellsUptoRow.holds Try.pinned (OpenSpec.upto linkTellsSpec)

/-- 'graftlaw10.LinkRight', WHERE WHAT IT READS IS OF BULK AT MOST 1048576: true; the input reads as it did. -/
def linkRightUptoRow : OpenClaim := { program := "ytlblgbfpdlfedaa", sum := "734fabb8e74cc777a8ae99a55012e3a34da930e52e3f9385a9ab0408c782afca", func := "graftwood/graftlaw10.LinkRight", spec := "linkRight", inPlace := ["internal/bytealg.IndexByteString"], unfollowed := true, recurses := true, loops := true, plainKeys := false, apart := false, narrowed := true }
def LinkRightUptoSaid : Prop := linkRightUptoRow.holds Try.pinned (OpenSpec.upto linkRightSpec)

/-- 'graftlaw10.LinkAhead', WHERE WHAT IT READS IS OF BULK AT MOST 1048576: true; the input reads as it did. -/
def linkAheadUptoRow : OpenClaim := { program := "ytlblgbfpdlfedaa", sum := "734fabb8e74cc777a8ae99a55012e3a34da930e52e3f9385a9ab0408c782afca", func := "graftwood/graftlaw10.LinkAhead", spec := "linkAhead", inPlace := ["internal/bytealg.IndexByteString"], unfollowed := true, recurses := true, loops := true, plainKeys := false, apart := false, narrowed := true }
def LinkAheadUptoSaid : Prop := linkAheadUptoRow.holds Try.pinned (OpenSpec.upto linkAheadSpec)

/-- 'graftlaw10.LinkOne', WHERE WHAT IT READS IS OF BULK AT MOST 1048576: true; the input reads as it did. -/
def linkOneUptoRow : OpenClaim := { program := "ytlblgbfpdlfedaa", sum := "734fabb8e74cc777a8ae99a55012e3a34da930e52e3f9385a9ab0408c782afca", func := "graftwood/graftlaw10.LinkOne", spec := "linkOne", inPlace := ["internal/bytealg.IndexByteString"], unfollowed := true, recurses := true, loops := true, plainKeys := false, apart := false, narrowed := true }
def LinkOneUptoSaid : Prop := linkOneUptoRow.holds Try.pinned (OpenSpec.upto linkOneSpec)

end Rows
end Go.Proofs.Ytlblgbfpdlfedaa
