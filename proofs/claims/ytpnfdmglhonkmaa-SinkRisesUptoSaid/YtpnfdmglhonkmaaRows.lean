/-
  No cell of these rows narrows 'for every input' (looked for: loops, veiled, ifaces, maps, wideKeys, modest, calm, conditions, laid).
  DERIVED. THE GIVEN ROWS OF THIS SEAT. 3 by the template 'for every input the law returns true; each argument reads behind the call as it read before'; 0 by the template 'total and deterministic' (their statements: YtpnfdmglhonkmaaTotals.lean).
  GIVEN WITH THE SEED: the statements are not yours to turn. If you find one false, say at which input.
  Laid BY PROGRAM, IN A SANDBOX (cutbox-rows.mjs): the forced cells as the released guide's own fill.sh prints them over the translation 7b9efac1d22278b6… (all of the seat's roots in one cut). By AI agents, Wed Nov 11 2026. No macro, syntax, notation, axiom, sorry.
-/
import Derived.Test.YtpnfdmglhonkmaaChecked
import GoSem.Claim
import GoSem.ClaimJoined
import GoSem.ClaimMapViews
import Derived.JoinedTies
import Derived.KernelRfl
namespace Go.Proofs.Ytpnfdmglhonkmaa
/- THE CELL 'sum', in the pinned program and in every row, IS THE sha256 OF THE DUMP (.gsa) THAT YtpnfdmglhonkmaaProg.lean LOADS. Nothing in Lean hashes anything: it is a label: what it is worth is what the hold of that sum in a sandbox is worth. -/
noncomputable def Try.pinned : Pinned := { name := "ytpnfdmglhonkmaa", sum := "7b9efac1d22278b6879d79c8022a0d7b4518e5b7103a1defca289133eb046146", checked := Try.checked }
namespace Rows
def none {H : Type} : Left H := { results := [], args := [] }

/-- 'gafferlaw16.SinkRises': WHATEVER THE INPUT: true; the input reads as it did. -/
def sinkRisesSpec : ChangeSpec := { name := "sinkRises", fn := fun _ => fun
  | [d] => { results := [.lit (.bool true)], args := [d] }
  | _ => none }
def sinkRisesRow : OpenClaim := { program := "ytpnfdmglhonkmaa", sum := "7b9efac1d22278b6879d79c8022a0d7b4518e5b7103a1defca289133eb046146", func := "gaffer/gafferlaw16.SinkRises", spec := "sinkRises", inPlace := ["math.Float64frombits", "math.Float64bits"], unfollowed := true, recurses := true, apart := false }
def SinkRisesSaid : Prop := sinkRisesRow.holds Try.pinned (OpenSpec.ofChange sinkRisesSpec)

/-- ITS FALSE NEIGHBOUR: 'it returns false'. Refute it at one input. -/
def sinkRisesWrong : ChangeSpec := { name := "sinkRises", fn := fun _ => fun
  | [d] => { results := [.lit (.bool false)], args := [d] }
  | _ => none }
def SinkRisesWrongFalsely : Prop := sinkRisesRow.holds Try.pinned (OpenSpec.ofChange sinkRisesWrong)

/-- 'gafferlaw16.SinkAgain': WHATEVER THE INPUT: true; the input reads as it did. -/
def sinkAgainSpec : ChangeSpec := { name := "sinkAgain", fn := fun _ => fun
  | [d1, d2] => { results := [.lit (.bool true)], args := [d1, d2] }
  | _ => none }
def sinkAgainRow : OpenClaim := { program := "ytpnfdmglhonkmaa", sum := "7b9efac1d22278b6879d79c8022a0d7b4518e5b7103a1defca289133eb046146", func := "gaffer/gafferlaw16.SinkAgain", spec := "sinkAgain", inPlace := ["math.Float64frombits", "math.Float64bits"], unfollowed := true, recurses := true, apart := false }
def SinkAgainSaid : Prop := sinkAgainRow.holds Try.pinned (OpenSpec.ofChange sinkAgainSpec)

/-- ITS FALSE NEIGHBOUR: 'it returns false'. Refute it at one input. -/
def sinkAgainWrong : ChangeSpec := { name := "sinkAgain", fn := fun _ => fun
  | [d1, d2] => { results := [.lit (.bool false)], args := [d1, d2] }
  | _ => none }
def SinkAgainWrongFalsely : Prop := sinkAgainRow.holds Try.pinned (OpenSpec.ofChange sinkAgainWrong)

/-- 'gafferlaw16.SinkJobs': WHATEVER THE INPUT: true; the input reads as it did. -/
def sinkJobsSpec : ChangeSpec := { name := "sinkJobs", fn := fun _ => fun
  | [d] => { results := [.lit (.bool true)], args := [d] }
  | _ => none }
def sinkJobsRow : OpenClaim := { program := "ytpnfdmglhonkmaa", sum := "7b9efac1d22278b6879d79c8022a0d7b4518e5b7103a1defca289133eb046146", func := "gaffer/gafferlaw16.SinkJobs", spec := "sinkJobs", inPlace := ["math.Float64frombits", "math.Float64bits"], unfollowed := true, recurses := true, apart := false }
def SinkJobsSaid : Prop := sinkJobsRow.holds Try.pinned (OpenSpec.ofChange sinkJobsSpec)

/-- ITS FALSE NEIGHBOUR: 'it returns false'. Refute it at one input. -/
def sinkJobsWrong : ChangeSpec := { name := "sinkJobs", fn := fun _ => fun
  | [d] => { results := [.lit (.bool false)], args := [d] }
  | _ => none }
def SinkJobsWrongFalsely : Prop := sinkJobsRow.holds Try.pinned (OpenSpec.ofChange sinkJobsWrong)

/- THE SECOND FORM. 'bulk': how many values and letters a reading holds, each counted each time it is reached (what is shared counts as often as it is met; a slice's spare places count too). A statement '..UptoSaid' is the law's where the arguments, and the package variables that the reading takes, are together of bulk at most 1048576: NARROWER than '..Said'. Prove '..Said' where nothing that the law and all that it calls make is longer than what came in: it says more and counts as full. Else prove '..UptoSaid'. A law counts once. -/
mutual
def uptoBulk {H : Type} : DataW H → Nat
  | .lit (.string bytes) => bytes.length + 1
  | .lit _ => 1
  | .nil => 1
  | .ptr d => uptoBulk d + 1
  | .slice elems spare => uptoBulkAll elems + uptoBulkAll spare + 1
  | .agg parts => uptoBulkAll parts + 1
  | .iface _ d => uptoBulk d + 1
  | .map entries => uptoBulkEntries entries + 1
  | .held _ => 1
def uptoBulkAll {H : Type} : List (DataW H) → Nat
  | [] => 0
  | d :: r => uptoBulk d + uptoBulkAll r
def uptoBulkEntries {H : Type} : List (Lit × DataW H) → Nat
  | [] => 0
  | x :: r => uptoBulkEntry x + uptoBulkEntries r
def uptoBulkEntry {H : Type} : Lit × DataW H → Nat
  | (.string bytes, d) => bytes.length + uptoBulk d + 1
  | (_, d) => uptoBulk d + 1
 end
def uptoSmall : (H : Type) → List (DataW H) → Bool := fun _ ds => decide (uptoBulkAll ds ≤ 1048576)
def OpenSpec.upto (s : _root_.Go.ChangeSpec) : _root_.Go.OpenSpec := { _root_.Go.OpenSpec.ofChange s with cond := some uptoSmall }

/-- 'gafferlaw16.SinkRises', WHERE WHAT IT READS IS OF BULK AT MOST 1048576: true; the input reads as it did. -/
def sinkRisesUptoRow : OpenClaim := { program := "ytpnfdmglhonkmaa", sum := "7b9efac1d22278b6879d79c8022a0d7b4518e5b7103a1defca289133eb046146", func := "gaffer/gafferlaw16.SinkRises", spec := "sinkRises", inPlace := ["math.Float64frombits", "math.Float64bits"], unfollowed := true, recurses := true, apart := false, narrowed := true }
def SinkRisesUptoSaid : Prop := sinkRisesUptoRow.holds Try.pinned (OpenSpec.upto sinkRisesSpec)

/-- 'gafferlaw16.SinkAgain', WHERE WHAT IT READS IS OF BULK AT MOST 1048576: true; the input reads as it did. -/
def sinkAgainUptoRow : OpenClaim := { program := "ytpnfdmglhonkmaa", sum := "7b9efac1d22278b6879d79c8022a0d7b4518e5b7103a1defca289133eb046146", func := "gaffer/gafferlaw16.SinkAgain", spec := "sinkAgain", inPlace := ["math.Float64frombits", "math.Float64bits"], unfollowed := true, recurses := true, apart := false, narrowed := true }
def SinkAgainUptoSaid : Prop := sinkAgainUptoRow.holds Try.pinned (OpenSpec.upto sinkAgainSpec)

/-- 'gafferlaw16.SinkJobs', WHERE WHAT IT READS IS OF BULK AT MOST 1048576: true; the input reads as it did. -/
def sinkJobsUptoRow : OpenClaim := { program := "ytpnfdmglhonkmaa", sum := "7b9efac1d22278b6879d79c8022a0d7b4518e5b7103a1defca289133eb046146", func := "gaffer/gafferlaw16.SinkJobs", spec := "sinkJobs", inPlace := ["math.Float64frombits", "math.Float64bits"], unfollowed := true, recurses := true, apart := false, narrowed := true }
def SinkJobsUptoSaid : Prop := sinkJobsUptoRow.holds Try.pinned (OpenSpec.upto sinkJobsSpec)

end Rows
end Go.Proofs.Ytpnfdmglhonkmaa
