/-
  No cell of these rows narrows 'for every input' (looked for: loops, veiled, ifaces, maps, wideKeys, modest, calm, conditions, laid).
  DERIVED. THE GIVEN ROWS OF THIS SEAT. 6 by the template 'for every input the law returns true; each argument reads behind the call as it read before'; 0 by the template 'total and deterministic' (their statements: YtefablceddbolaaTotals.lean).
  GIVEN WITH THE SEED: the statements are not yours to turn. If you find one false, say at which input.
  Laid BY PROGRAM, IN A SANDBOX (cutbox-rows.mjs): the forced cells as the released guide's own fill.sh prints them over the translation 30bc24ed2ed9a5e5… (all of the seat's roots in one cut). By AI agents, Wed Nov 11 2026. No macro, syntax, notation, axiom, sorry.
-/
import Derived.Test.YtefablceddbolaaChecked
import GoSem.Claim
import GoSem.ClaimJoined
import GoSem.ClaimMapViews
import Derived.JoinedTies
import Derived.KernelRfl
namespace Go.Proofs.Ytefablceddbolaa
/- THE CELL 'sum', in the pinned program and in every row, IS THE sha256 OF THE DUMP (.gsa) THAT YtefablceddbolaaProg.lean LOADS. Nothing in Lean hashes anything: it is a label: what it is worth is what the hold of that sum in a sandbox is worth. -/
noncomputable def Try.pinned : Pinned := { name := "ytefablceddbolaa", sum := "30bc24ed2ed9a5e5d94f862368ba66e2dc14cc460b6dd3dd7d0747380d67b429", checked := Try.checked }
namespace Rows
def none {H : Type} : Left H := { results := [], args := [] }

/-- 'gafferlaw02.PackLays': WHATEVER THE INPUT: true; the input reads as it did. -/
def packLaysSpec : ChangeSpec := { name := "packLays", fn := fun _ => fun
  | [d1, d2] => { results := [.lit (.bool true)], args := [d1, d2] }
  | _ => none }
def packLaysRow : OpenClaim := { program := "ytefablceddbolaa", sum := "30bc24ed2ed9a5e5d94f862368ba66e2dc14cc460b6dd3dd7d0747380d67b429", func := "gaffer/gafferlaw02.PackLays", spec := "packLays", unfollowed := true, recurses := true, apart := false }
def PackLaysSaid : Prop := packLaysRow.holds Try.pinned (OpenSpec.ofChange packLaysSpec)

/-- ITS FALSE NEIGHBOUR: 'it returns false'. Refute it at one input. -/
def packLaysWrong : ChangeSpec := { name := "packLays", fn := fun _ => fun
  | [d1, d2] => { results := [.lit (.bool false)], args := [d1, d2] }
  | _ => none }
def PackLaysWrongFalsely : Prop := packLaysRow.holds Try.pinned (OpenSpec.ofChange packLaysWrong)

/-- 'gafferlaw02.PackShortest': WHATEVER THE INPUT: true; the input reads as it did. -/
def packShortestSpec : ChangeSpec := { name := "packShortest", fn := fun _ => fun
  | [d1, d2] => { results := [.lit (.bool true)], args := [d1, d2] }
  | _ => none }
def packShortestRow : OpenClaim := { program := "ytefablceddbolaa", sum := "30bc24ed2ed9a5e5d94f862368ba66e2dc14cc460b6dd3dd7d0747380d67b429", func := "gaffer/gafferlaw02.PackShortest", spec := "packShortest", unfollowed := true, recurses := true, apart := false }
def PackShortestSaid : Prop := packShortestRow.holds Try.pinned (OpenSpec.ofChange packShortestSpec)

/-- ITS FALSE NEIGHBOUR: 'it returns false'. Refute it at one input. -/
def packShortestWrong : ChangeSpec := { name := "packShortest", fn := fun _ => fun
  | [d1, d2] => { results := [.lit (.bool false)], args := [d1, d2] }
  | _ => none }
def PackShortestWrongFalsely : Prop := packShortestRow.holds Try.pinned (OpenSpec.ofChange packShortestWrong)

/-- 'gafferlaw02.PackBack': WHATEVER THE INPUT: true; the input reads as it did. -/
def packBackSpec : ChangeSpec := { name := "packBack", fn := fun _ => fun
  | [d1, d2] => { results := [.lit (.bool true)], args := [d1, d2] }
  | _ => none }
def packBackRow : OpenClaim := { program := "ytefablceddbolaa", sum := "30bc24ed2ed9a5e5d94f862368ba66e2dc14cc460b6dd3dd7d0747380d67b429", func := "gaffer/gafferlaw02.PackBack", spec := "packBack", unfollowed := true, recurses := true, apart := false }
def PackBackSaid : Prop := packBackRow.holds Try.pinned (OpenSpec.ofChange packBackSpec)

/-- ITS FALSE NEIGHBOUR: 'it returns false'. Refute it at one input. -/
def packBackWrong : ChangeSpec := { name := "packBack", fn := fun _ => fun
  | [d1, d2] => { results := [.lit (.bool false)], args := [d1, d2] }
  | _ => none }
def PackBackWrongFalsely : Prop := packBackRow.holds Try.pinned (OpenSpec.ofChange packBackWrong)

/-- 'gafferlaw02.PackForms': WHATEVER THE INPUT: true; the input reads as it did. -/
def packFormsSpec : ChangeSpec := { name := "packForms", fn := fun _ => fun
  | [d1, d2] => { results := [.lit (.bool true)], args := [d1, d2] }
  | _ => none }
def packFormsRow : OpenClaim := { program := "ytefablceddbolaa", sum := "30bc24ed2ed9a5e5d94f862368ba66e2dc14cc460b6dd3dd7d0747380d67b429", func := "gaffer/gafferlaw02.PackForms", spec := "packForms", unfollowed := true, recurses := true, apart := false }
def PackFormsSaid : Prop := packFormsRow.holds Try.pinned (OpenSpec.ofChange packFormsSpec)

/-- ITS FALSE NEIGHBOUR: 'it returns false'. Refute it at one input. -/
def packFormsWrong : ChangeSpec := { name := "packForms", fn := fun _ => fun
  | [d1, d2] => { results := [.lit (.bool false)], args := [d1, d2] }
  | _ => none }
def PackFormsWrongFalsely : Prop := packFormsRow.holds Try.pinned (OpenSpec.ofChange packFormsWrong)

/-- 'gafferlaw02.PackFaults': WHATEVER THE INPUT: true; the input reads as it did. -/
def packFaultsSpec : ChangeSpec := { name := "packFaults", fn := fun _ => fun
  | [d1, d2, d3] => { results := [.lit (.bool true)], args := [d1, d2, d3] }
  | _ => none }
def packFaultsRow : OpenClaim := { program := "ytefablceddbolaa", sum := "30bc24ed2ed9a5e5d94f862368ba66e2dc14cc460b6dd3dd7d0747380d67b429", func := "gaffer/gafferlaw02.PackFaults", spec := "packFaults", unfollowed := true, recurses := true, apart := false }
def PackFaultsSaid : Prop := packFaultsRow.holds Try.pinned (OpenSpec.ofChange packFaultsSpec)

/-- ITS FALSE NEIGHBOUR: 'it returns false'. Refute it at one input. -/
def packFaultsWrong : ChangeSpec := { name := "packFaults", fn := fun _ => fun
  | [d1, d2, d3] => { results := [.lit (.bool false)], args := [d1, d2, d3] }
  | _ => none }
def PackFaultsWrongFalsely : Prop := packFaultsRow.holds Try.pinned (OpenSpec.ofChange packFaultsWrong)

/-- 'gafferlaw02.PackReads': WHATEVER THE INPUT: true; the input reads as it did. -/
def packReadsSpec : ChangeSpec := { name := "packReads", fn := fun _ => fun
  | [d1, d2] => { results := [.lit (.bool true)], args := [d1, d2] }
  | _ => none }
def packReadsRow : OpenClaim := { program := "ytefablceddbolaa", sum := "30bc24ed2ed9a5e5d94f862368ba66e2dc14cc460b6dd3dd7d0747380d67b429", func := "gaffer/gafferlaw02.PackReads", spec := "packReads", unfollowed := true, recurses := true, apart := false }
def PackReadsSaid : Prop := packReadsRow.holds Try.pinned (OpenSpec.ofChange packReadsSpec)

/-- ITS FALSE NEIGHBOUR: 'it returns false'. Refute it at one input. -/
def packReadsWrong : ChangeSpec := { name := "packReads", fn := fun _ => fun
  | [d1, d2] => { results := [.lit (.bool false)], args := [d1, d2] }
  | _ => none }
def PackReadsWrongFalsely : Prop := packReadsRow.holds Try.pinned (OpenSpec.ofChange packReadsWrong)

/- THE SECOND FORM. 'bulk': how many values and letters a reading holds, each counted each time it is reached (what is shared counts as often as it is met; a slice's spare places count too). A statement '..UptoSaid' is the law's where the arguments, and the package variables that the reading takes, are together of bulk at most 1048576: NARROWER than '..Said'. Prove '..Said' where nothing that the law and all that it calls make is longer than what came in: it says more and counts as full. Else prove '..UptoSaid'. A law counts once. -/
mutual
def uptoBulk {H : Type} : DataW H → Nat
  | .lit (.string bytes) => bytes.length + 1
  | .lit _ => 1
  | .nil => 1
  | .ptr d => uptoBulk d + 1
  | .slice elems spare => uptoBulkAll elems + uptoBulkAll spare + 1
  | .agg parts => uptoBulkAll parts + 1
  | .iface _ d => uptoBulk d + 1
  | .map entries => uptoBulkEntries entries + 1
  | .held _ => 1
def uptoBulkAll {H : Type} : List (DataW H) → Nat
  | [] => 0
  | d :: r => uptoBulk d + uptoBulkAll r
def uptoBulkEntries {H : Type} : List (Lit × DataW H) → Nat
  | [] => 0
  | x :: r => uptoBulkEntry x + uptoBulkEntries r
def uptoBulkEntry {H : Type} : Lit × DataW H → Nat
  | (.string bytes, d) => bytes.length + uptoBulk d + 1
  | (_, d) => uptoBulk d + 1
 end
def uptoSmall : (H : Type) → List (DataW H) → Bool := fun _ ds => decide (uptoBulkAll ds ≤ 1048576)
def OpenSpec.upto (s : _root_.Go.ChangeSpec) : _root_.Go.OpenSpec := { _root_.Go.OpenSpec.ofChange s with cond := some uptoSmall }

/-- 'gafferlaw02.PackLays', WHERE WHAT IT READS IS OF BULK AT MOST 1048576: true; the input reads as it did. -/
def packLaysUptoRow : OpenClaim := { program := "ytefablceddbolaa", sum := "30bc24ed2ed9a5e5d94f862368ba66e2dc14cc460b6dd3dd7d0747380d67b429", func := "gaffer/gafferlaw02.PackLays", spec := "packLays", unfollowed := true, recurses := true, apart := false, narrowed := true }
def PackLaysUptoSaid : Prop := packLaysUptoRow.holds Try.pinned (OpenSpec.upto packLaysSpec)

/-- 'gafferlaw02.PackShortest', WHERE WHAT IT READS IS OF BULK AT MOST 1048576: true; the input reads as it did. -/
def packShortestUptoRow : OpenClaim := { program := "ytefablceddbolaa", sum := "30bc24ed2ed9a5e5d94f862368ba66e2dc14cc460b6dd3dd7d0747380d67b429", func := "gaffer/gafferlaw02.PackShortest", spec := "packShortest", unfollowed := true, recurses := true, apart := false, narrowed := true }
def PackShortestUptoSaid : Prop := packShortestUptoRow.holds Try.pinned (OpenSpec.upto packShortestSpec)

/-- 'gafferlaw02.PackBack', WHERE WHAT IT READS IS OF BULK AT MOST 1048576: true; the input reads as it did. -/
def packBackUptoRow : OpenClaim := { program := "ytefablceddbolaa", sum := "30bc24ed2ed9a5e5d94f862368ba66e2dc14cc460b6dd3dd7d0747380d67b429", func := "gaffer/gafferlaw02.PackBack", spec := "packBack", unfollowed := true, recurses := true, apart := false, narrowed := true }
def PackBackUptoSaid : Prop := packBackUptoRow.holds Try.pinned (OpenSpec.upto packBackSpec)

/-- 'gafferlaw02.PackForms', WHERE WHAT IT READS IS OF BULK AT MOST 1048576: true; the input reads as it did. -/
def packFormsUptoRow : OpenClaim := { program := "ytefablceddbolaa", sum := "30bc24ed2ed9a5e5d94f862368ba66e2dc14cc460b6dd3dd7d0747380d67b429", func := "gaffer/gafferlaw02.PackForms", spec := "packForms", unfollowed := true, recurses := true, apart := false, narrowed := true }
def PackFormsUptoSaid : Prop := packFormsUptoRow.holds Try.pinned (OpenSpec.upto packFormsSpec)

/-- 'gafferlaw02.PackFaults', WHERE WHAT IT READS IS OF BULK AT MOST 1048576: true; the input reads as it did. -/
def packFaultsUptoRow : OpenClaim := { program := "ytefablceddbolaa", sum := "30bc24ed2ed9a5e5d94f862368ba66e2dc14cc460b6dd3dd7d0747380d67b429", func := "gaffer/gafferlaw02.PackFaults", spec := "packFaults", unfollowed := true, recurses := true, apart := false, narrowed := true }
def PackFaultsUptoSaid : Prop := packFaultsUptoRow.holds Try.pinned (OpenSpec.upto packFaultsSpec)

/-- 'gafferlaw02.PackReads', WHERE WHAT IT READS IS OF BULK AT MOST 1048576: true; the input reads as it did. -/
def packReadsUptoRow : OpenClaim := { program := "ytefablceddbolaa", sum := "30bc24ed2ed9a5e5d94f862368ba66e2dc14cc460b6dd3dd7d0747380d67b429", func := "gaffer/gafferlaw02.PackReads", spec := "packReads", unfollowed := true, recurses := true, apart := false, narrowed := true }
def PackReadsUptoSaid : Prop := packReadsUptoRow.holds Try.pinned (OpenSpec.upto packReadsSpec)

end Rows
end Go.Proofs.Ytefablceddbolaa
