/-
  NARROWER THAN 'FOR EVERY INPUT', by the rows' own cells (each row's printed sentence says how): NamesParted: loops · NamesPrefix: loops · NamesBack: loops · NamesFrom: loops · NamesOnly: loops · NamesTell: loops.
  DERIVED. THE GIVEN ROWS OF THIS SEAT. 7 by the template 'for every input the law returns true; each argument reads behind the call as it read before'; 0 by the template 'total and deterministic' (their statements: YtakcdeihljojiaaTotals.lean).
  GIVEN WITH THE SEED: the statements are not yours to turn. If you find one false, say at which input.
  Laid BY PROGRAM, IN A SANDBOX (cutbox-rows.mjs): the forced cells as the released guide's own fill.sh prints them over the translation a42e5e518a005196… (all of the seat's roots in one cut). By AI agents, Wed Nov 11 2026. No macro, syntax, notation, axiom, sorry.
-/
import Derived.Test.YtakcdeihljojiaaChecked
import GoSem.Claim
import GoSem.ClaimJoined
import GoSem.ClaimMapViews
import Derived.JoinedTies
import Derived.KernelRfl
namespace Go.Proofs.Ytakcdeihljojiaa
/- THE CELL 'sum', in the pinned program and in every row, IS THE sha256 OF THE DUMP (.gsa) THAT YtakcdeihljojiaaProg.lean LOADS. Nothing in Lean hashes anything: it is a label: what it is worth is what the hold of that sum in a sandbox is worth. -/
noncomputable def Try.pinned : Pinned := { name := "ytakcdeihljojiaa", sum := "a42e5e518a0051967b994aabed22f0e49ff8f0cc5f2cb0d941842112fd98b242", checked := Try.checked }
namespace Rows
def none {H : Type} : Left H := { results := [], args := [] }

/-- 'graftlaw2.NamesParted': WHATEVER THE INPUT: true; the input reads as it did. -/
def namesPartedSpec : ChangeSpec := { name := "namesParted", fn := fun _ => fun
  | [d1, d2, d3] => { results := [.lit (.bool true)], args := [d1, d2, d3] }
  | _ => none }
def namesPartedRow : OpenClaim := { program := "ytakcdeihljojiaa", sum := "a42e5e518a0051967b994aabed22f0e49ff8f0cc5f2cb0d941842112fd98b242", func := "graftwood/graftlaw2.NamesParted", spec := "namesParted", inPlace := ["internal/bytealg.IndexByteString", "internal/bytealg.abigen_runtime_cmpstring"], unfollowed := true, recurses := true, loops := true, apart := false }
def NamesPartedSaid : Prop := namesPartedRow.holds Try.pinned (OpenSpec.ofChange namesPartedSpec)

/-- ITS FALSE NEIGHBOUR: 'it returns false'. Refute it at one input. -/
def namesPartedWrong : ChangeSpec := { name := "namesParted", fn := fun _ => fun
  | [d1, d2, d3] => { results := [.lit (.bool false)], args := [d1, d2, d3] }
  | _ => none }
def NamesPartedWrongFalsely : Prop := namesPartedRow.holds Try.pinned (OpenSpec.ofChange namesPartedWrong)

/-- 'graftlaw2.NamesPrefix': WHATEVER THE INPUT: true; the input reads as it did. -/
def namesPrefixSpec : ChangeSpec := { name := "namesPrefix", fn := fun _ => fun
  | [d1, d2, d3, d4] => { results := [.lit (.bool true)], args := [d1, d2, d3, d4] }
  | _ => none }
def namesPrefixRow : OpenClaim := { program := "ytakcdeihljojiaa", sum := "a42e5e518a0051967b994aabed22f0e49ff8f0cc5f2cb0d941842112fd98b242", func := "graftwood/graftlaw2.NamesPrefix", spec := "namesPrefix", inPlace := ["internal/bytealg.IndexByteString", "internal/bytealg.abigen_runtime_cmpstring"], unfollowed := true, recurses := true, loops := true, apart := false }
def NamesPrefixSaid : Prop := namesPrefixRow.holds Try.pinned (OpenSpec.ofChange namesPrefixSpec)

/-- ITS FALSE NEIGHBOUR: 'it returns false'. Refute it at one input. -/
def namesPrefixWrong : ChangeSpec := { name := "namesPrefix", fn := fun _ => fun
  | [d1, d2, d3, d4] => { results := [.lit (.bool false)], args := [d1, d2, d3, d4] }
  | _ => none }
def NamesPrefixWrongFalsely : Prop := namesPrefixRow.holds Try.pinned (OpenSpec.ofChange namesPrefixWrong)

/-- 'graftlaw2.NamesBack': WHATEVER THE INPUT: true; the input reads as it did. -/
def namesBackSpec : ChangeSpec := { name := "namesBack", fn := fun _ => fun
  | [d1, d2, d3, d4] => { results := [.lit (.bool true)], args := [d1, d2, d3, d4] }
  | _ => none }
def namesBackRow : OpenClaim := { program := "ytakcdeihljojiaa", sum := "a42e5e518a0051967b994aabed22f0e49ff8f0cc5f2cb0d941842112fd98b242", func := "graftwood/graftlaw2.NamesBack", spec := "namesBack", inPlace := ["internal/bytealg.IndexByteString", "internal/bytealg.abigen_runtime_cmpstring"], unfollowed := true, recurses := true, loops := true, apart := false }
def NamesBackSaid : Prop := namesBackRow.holds Try.pinned (OpenSpec.ofChange namesBackSpec)

/-- ITS FALSE NEIGHBOUR: 'it returns false'. Refute it at one input. -/
def namesBackWrong : ChangeSpec := { name := "namesBack", fn := fun _ => fun
  | [d1, d2, d3, d4] => { results := [.lit (.bool false)], args := [d1, d2, d3, d4] }
  | _ => none }
def NamesBackWrongFalsely : Prop := namesBackRow.holds Try.pinned (OpenSpec.ofChange namesBackWrong)

/-- 'graftlaw2.NamesFrom': WHATEVER THE INPUT: true; the input reads as it did. -/
def namesFromSpec : ChangeSpec := { name := "namesFrom", fn := fun _ => fun
  | [d1, d2] => { results := [.lit (.bool true)], args := [d1, d2] }
  | _ => none }
def namesFromRow : OpenClaim := { program := "ytakcdeihljojiaa", sum := "a42e5e518a0051967b994aabed22f0e49ff8f0cc5f2cb0d941842112fd98b242", func := "graftwood/graftlaw2.NamesFrom", spec := "namesFrom", inPlace := ["internal/bytealg.IndexByteString", "internal/bytealg.abigen_runtime_cmpstring"], unfollowed := true, recurses := true, loops := true, apart := false }
def NamesFromSaid : Prop := namesFromRow.holds Try.pinned (OpenSpec.ofChange namesFromSpec)

/-- ITS FALSE NEIGHBOUR: 'it returns false'. Refute it at one input. -/
def namesFromWrong : ChangeSpec := { name := "namesFrom", fn := fun _ => fun
  | [d1, d2] => { results := [.lit (.bool false)], args := [d1, d2] }
  | _ => none }
def NamesFromWrongFalsely : Prop := namesFromRow.holds Try.pinned (OpenSpec.ofChange namesFromWrong)

/-- 'graftlaw2.NamesOnly': WHATEVER THE INPUT: true; the input reads as it did. -/
def namesOnlySpec : ChangeSpec := { name := "namesOnly", fn := fun _ => fun
  | [d1, d2, d3, d4] => { results := [.lit (.bool true)], args := [d1, d2, d3, d4] }
  | _ => none }
def namesOnlyRow : OpenClaim := { program := "ytakcdeihljojiaa", sum := "a42e5e518a0051967b994aabed22f0e49ff8f0cc5f2cb0d941842112fd98b242", func := "graftwood/graftlaw2.NamesOnly", spec := "namesOnly", inPlace := ["internal/bytealg.IndexByteString", "internal/bytealg.abigen_runtime_cmpstring"], unfollowed := true, recurses := true, loops := true, apart := false }
def NamesOnlySaid : Prop := namesOnlyRow.holds Try.pinned (OpenSpec.ofChange namesOnlySpec)

/-- ITS FALSE NEIGHBOUR: 'it returns false'. Refute it at one input. -/
def namesOnlyWrong : ChangeSpec := { name := "namesOnly", fn := fun _ => fun
  | [d1, d2, d3, d4] => { results := [.lit (.bool false)], args := [d1, d2, d3, d4] }
  | _ => none }
def NamesOnlyWrongFalsely : Prop := namesOnlyRow.holds Try.pinned (OpenSpec.ofChange namesOnlyWrong)

/-- 'graftlaw2.NamesMerge': WHATEVER THE INPUT: true; the input reads as it did. -/
def namesMergeSpec : ChangeSpec := { name := "namesMerge", fn := fun _ => fun
  | [d1, d2] => { results := [.lit (.bool true)], args := [d1, d2] }
  | _ => none }
def namesMergeRow : OpenClaim := { program := "ytakcdeihljojiaa", sum := "a42e5e518a0051967b994aabed22f0e49ff8f0cc5f2cb0d941842112fd98b242", func := "graftwood/graftlaw2.NamesMerge", spec := "namesMerge", inPlace := ["internal/bytealg.IndexByteString", "internal/bytealg.abigen_runtime_cmpstring", "slices.overlaps[graftwood/api.Bind]"], unfollowed := true, recurses := true, apart := false }
def NamesMergeSaid : Prop := namesMergeRow.holds Try.pinned (OpenSpec.ofChange namesMergeSpec)

/-- ITS FALSE NEIGHBOUR: 'it returns false'. Refute it at one input. -/
def namesMergeWrong : ChangeSpec := { name := "namesMerge", fn := fun _ => fun
  | [d1, d2] => { results := [.lit (.bool false)], args := [d1, d2] }
  | _ => none }
def NamesMergeWrongFalsely : Prop := namesMergeRow.holds Try.pinned (OpenSpec.ofChange namesMergeWrong)

/-- 'graftlaw2.NamesTell': WHATEVER THE INPUT: true; the input reads as it did. -/
def namesTellSpec : ChangeSpec := { name := "namesTell", fn := fun _ => fun
  | [d1, d2, d3] => { results := [.lit (.bool true)], args := [d1, d2, d3] }
  | _ => none }
def namesTellRow : OpenClaim := { program := "ytakcdeihljojiaa", sum := "a42e5e518a0051967b994aabed22f0e49ff8f0cc5f2cb0d941842112fd98b242", func := "graftwood/graftlaw2.NamesTell", spec := "namesTell", inPlace := ["internal/bytealg.IndexByteString", "internal/bytealg.abigen_runtime_cmpstring", "slices.overlaps[graftwood/api.Bind]"], unfollowed := true, recurses := true, loops := true, apart := false }
def NamesTellSaid : Prop := namesTellRow.holds Try.pinned (OpenSpec.ofChange namesTellSpec)

/-- ITS FALSE NEIGHBOUR: 'it returns false'. Refute it at one input. -/
def namesTellWrong : ChangeSpec := { name := "namesTell", fn := fun _ => fun
  | [d1, d2, d3] => { results := [.lit (.bool false)], args := [d1, d2, d3] }
  | _ => none }
def NamesTellWrongFalsely : Prop := namesTellRow.holds Try.pinned (OpenSpec.ofChange namesTellWrong)

/- THE SECOND FORM. 'bulk': how many values and letters a reading holds, each counted each time it is reached (what is shared counts as often as it is met; a slice's spare places count too). A statement '..UptoSaid' is the law's where the arguments, and the package variables that the reading takes, are together of bulk at most 1048576: NARROWER than '..Said'. Prove '..Said' where nothing that the law and all that it calls make is longer than what came in: it says more and counts as full. Else prove '..UptoSaid'. A law counts once. -/
mutual
def uptoBulk {H : Type} : DataW H → Nat
  | .lit (.string bytes) => bytes.length + 1
  | .lit _ => 1
  | .nil => 1
  | .ptr d => uptoBulk d + 1
  | .slice elems spare => uptoBulkAll elems + uptoBulkAll spare + 1
  | .agg parts => uptoBulkAll parts + 1
  | .iface _ d => uptoBulk d + 1
  | .map entries => uptoBulkEntries entries + 1
  | .held _ => 1
def uptoBulkAll {H : Type} : List (DataW H) → Nat
  | [] => 0
  | d :: r => uptoBulk d + uptoBulkAll r
def uptoBulkEntries {H : Type} : List (Lit × DataW H) → Nat
  | [] => 0
  | x :: r => uptoBulkEntry x + uptoBulkEntries r
def uptoBulkEntry {H : Type} : Lit × DataW H → Nat
  | (.string bytes, d) => bytes.length + uptoBulk d + 1
  | (_, d) => uptoBulk d + 1
 end
def uptoSmall : (H : Type) → List (DataW H) → Bool := fun _ ds => decide (uptoBulkAll ds ≤ 1048576)
def OpenSpec.upto (s : _root_.Go.ChangeSpec) : _root_.Go.OpenSpec := { _root_.Go.OpenSpec.ofChange s with cond := some uptoSmall }

/-- 'graftlaw2.NamesParted', WHERE WHAT IT READS IS OF BULK AT MOST 1048576: true; the input reads as it did. -/
def namesPartedUptoRow : OpenClaim := { program := "ytakcdeihljojiaa", sum := "a42e5e518a0051967b994aabed22f0e49ff8f0cc5f2cb0d941842112fd98b242", func := "graftwood/graftlaw2.NamesParted", spec := "namesParted", inPlace := ["internal/bytealg.IndexByteString", "internal/bytealg.abigen_runtime_cmpstring"], unfollowed := true, recurses := true, loops := true, apart := false, narrowed := true }
def NamesPartedUptoSaid : Prop := namesPartedUptoRow.holds Try.pinned (OpenSpec.upto namesPartedSpec)

/-- 'graftlaw2.NamesPrefix', WHERE WHAT IT READS IS OF BULK AT MOST 1048576: true; the input reads as it did. -/
def namesPrefixUptoRow : OpenClaim := { program := "ytakcdeihljojiaa", sum := "a42e5e518a0051967b994aabed22f0e49ff8f0cc5f2cb0d941842112fd98b242", func := "graftwood/graftlaw2.NamesPrefix", spec := "namesPrefix", inPlace := ["internal/bytealg.IndexByteString", "internal/bytealg.abigen_runtime_cmpstring"], unfollowed := true, recurses := true, loops := true, apart := false, narrowed := true }
def NamesPrefixUptoSaid : Prop := namesPrefixUptoRow.holds Try.pinned (OpenSpec.upto namesPrefixSpec)

/-- 'graftlaw2.NamesBack', WHERE WHAT IT READS IS OF BULK AT MOST 1048576: true; the input reads as it did. -/
def namesBackUptoRow : OpenClaim := { program := "ytakcdeihljojiaa", sum := "a42e5e518a0051967b994aabed22f0e49ff8f0cc5f2cb0d941842112fd98b242", func := "graftwood/graftlaw2.NamesBack", spec := "namesBack", inPlace := ["internal/bytealg.IndexByteString", "internal/bytealg.abigen_runtime_cmpstring"], unfollowed := true, recurses := true, loops := true, apart := false, narrowed := true }
def NamesBackUptoSaid : Prop := namesBackUptoRow.holds Try.pinned (OpenSpec.upto namesBackSpec)

/-- 'graftlaw2.NamesFrom', WHERE WHAT IT READS IS OF BULK AT MOST 1048576: true; the input reads as it did. -/
def namesFromUptoRow : OpenClaim := { program := "ytakcdeihljojiaa", sum := "a42e5e518a0051967b994aabed22f0e49ff8f0cc5f2cb0d941842112fd98b242", func := "graftwood/graftlaw2.NamesFrom", spec := "namesFrom", inPlace := ["internal/bytealg.IndexByteString", "internal/bytealg.abigen_runtime_cmpstring"], unfollowed := true, recurses := true, loops := true, apart := false, narrowed := true }
def NamesFromUptoSaid : Prop := namesFromUptoRow.holds Try.pinned (OpenSpec.upto namesFromSpec)

/-- 'graftlaw2.NamesOnly', WHERE WHAT IT READS IS OF BULK AT MOST 1048576: true; the input reads as it did. -/
def namesOnlyUptoRow : OpenClaim := { program := "ytakcdeihljojiaa", sum := "a42e5e518a0051967b994aabed22f0e49ff8f0cc5f2cb0d941842112fd98b242", func := "graftwood/graftlaw2.NamesOnly", spec := "namesOnly", inPlace := ["internal/bytealg.IndexByteString", "internal/bytealg.abigen_runtime_cmpstring"], unfollowed := true, recurses := true, loops := true, apart := false, narrowed := true }
def NamesOnlyUptoSaid : Prop := namesOnlyUptoRow.holds Try.pinned (OpenSpec.upto namesOnlySpec)

/-- 'graftlaw2.NamesMerge', WHERE WHAT IT READS IS OF BULK AT MOST 1048576: true; the input reads as it did. -/
def namesMergeUptoRow : OpenClaim := { program := "ytakcdeihljojiaa", sum := "a42e5e518a0051967b994aabed22f0e49ff8f0cc5f2cb0d941842112fd98b242", func := "graftwood/graftlaw2.NamesMerge", spec := "namesMerge", inPlace := ["internal/bytealg.IndexByteString", "internal/bytealg.abigen_runtime_cmpstring", "slices.overlaps[graftwood/api.Bind]"], unfollowed := true, recurses := true, apart := false, narrowed := true }
def NamesMergeUptoSaid : Prop := namesMergeUptoRow.holds Try.pinned (OpenSpec.upto namesMergeSpec)

/-- 'graftlaw2.NamesTell', WHERE WHAT IT READS IS OF BULK AT MOST 1048576: true; the input reads as it did. -/
def namesTellUptoRow : OpenClaim := { program := "ytakcdeihljojiaa", sum := "a42e5e518a0051967b994aabed22f0e49ff8f0cc5f2cb0d941842112fd98b242", func := "graftwood/graftlaw2.NamesTell", spec := "namesTell", inPlace := ["internal/bytealg.IndexByteString", "internal/bytealg.abigen_runtime_cmpstring", "slices.overlaps[graftwood/api.Bind]"], unfollowed := true, recurses := true, loops := true, apart := false, narrowed := true }
def NamesTellUptoSaid : Prop := namesTellUptoRow.holds Try.pinned (OpenSpec.upto namesTellSpec)

end Rows
end Go.Proofs.Ytakcdeihljojiaa
