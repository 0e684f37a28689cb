/-
  NARROWER THAN 'FOR EVERY INPUT', by the rows' own cells (each row's printed sentence says how): NumAdds: laid · NumTimes: laid · NumDivides: laid · NumPicks: laid · NumWhole: laid · NumReads: laid.
  DERIVED. THE GIVEN ROWS OF THIS SEAT. 6 by the template 'for every input the law returns true; each argument reads behind the call as it read before'; 0 by the template 'total and deterministic' (their statements: YtjlnbfpjlladoaaGreatDoorTotals.lean).
  GIVEN WITH THE SEED: the statements are not yours to turn. If you find one false, say at which input.
  Laid BY PROGRAM, IN A SANDBOX (cutbox-rows.mjs): the forced cells as the released guide's own fill.sh prints them over the translation 5e87dac42185c52d… (all of the seat's roots in one cut). By AI agents, Wed Nov 11 2026. No macro, syntax, notation, axiom, sorry.
-/
import Derived.Test.YtjlnbfpjlladoaaGreatDoorChecked
import GoSem.Claim
import GoSem.ClaimJoined
import GoSem.ClaimMapViews
import Derived.JoinedTies
import Derived.KernelRfl
namespace Go.Proofs.YtjlnbfpjlladoaaGreatDoor
/- THE CELL 'sum', in the pinned program and in every row, IS THE sha256 OF THE DUMP (.gsa) THAT YtjlnbfpjlladoaaGreatDoorProg.lean LOADS. Nothing in Lean hashes anything: it is a label: what it is worth is what the hold of that sum in a sandbox is worth. -/
noncomputable def Tryz.pinned : Pinned := { name := "ytjlnbfpjlladoaagreatdoor", sum := "5e87dac42185c52df4cb312097266e6b1dfc3b0f5a76b368cfb920e0bcefb5d1", checked := Tryz.checked }
namespace Rows
def none {H : Type} : Left H := { results := [], args := [] }

/- WHAT THE LISTED PACKAGE-LEVEL VARIABLES READ AS WHEN THE CALL BEGINS. Each datum BY PROGRAM (the guide's laid-datum.mjs) off the statement by which the dump's own 'gosem.cut.vars' lays the variable. In a bare row this is a premise. The card (YtjlnbfpjlladoaaGreatDoorCards.lean) ties it to the program's text. -/
def laid_math_bits_deBruijn32tab {H : Type} : DataW H := .agg [.lit (.int .u8 0), .lit (.int .u8 1), .lit (.int .u8 28), .lit (.int .u8 2), .lit (.int .u8 29), .lit (.int .u8 14), .lit (.int .u8 24), .lit (.int .u8 3), .lit (.int .u8 30), .lit (.int .u8 22), .lit (.int .u8 20), .lit (.int .u8 15), .lit (.int .u8 25), .lit (.int .u8 17), .lit (.int .u8 4), .lit (.int .u8 8), .lit (.int .u8 31), .lit (.int .u8 27), .lit (.int .u8 13), .lit (.int .u8 23), .lit (.int .u8 21), .lit (.int .u8 19), .lit (.int .u8 16), .lit (.int .u8 7), .lit (.int .u8 26), .lit (.int .u8 12), .lit (.int .u8 18), .lit (.int .u8 6), .lit (.int .u8 11), .lit (.int .u8 5), .lit (.int .u8 10), .lit (.int .u8 9)]
def laid_math_bits_deBruijn64tab {H : Type} : DataW H := .agg [.lit (.int .u8 0), .lit (.int .u8 1), .lit (.int .u8 56), .lit (.int .u8 2), .lit (.int .u8 57), .lit (.int .u8 49), .lit (.int .u8 28), .lit (.int .u8 3), .lit (.int .u8 61), .lit (.int .u8 58), .lit (.int .u8 42), .lit (.int .u8 50), .lit (.int .u8 38), .lit (.int .u8 29), .lit (.int .u8 17), .lit (.int .u8 4), .lit (.int .u8 62), .lit (.int .u8 47), .lit (.int .u8 59), .lit (.int .u8 36), .lit (.int .u8 45), .lit (.int .u8 43), .lit (.int .u8 51), .lit (.int .u8 22), .lit (.int .u8 53), .lit (.int .u8 39), .lit (.int .u8 33), .lit (.int .u8 30), .lit (.int .u8 24), .lit (.int .u8 18), .lit (.int .u8 12), .lit (.int .u8 5), .lit (.int .u8 63), .lit (.int .u8 55), .lit (.int .u8 48), .lit (.int .u8 27), .lit (.int .u8 60), .lit (.int .u8 41), .lit (.int .u8 37), .lit (.int .u8 16), .lit (.int .u8 46), .lit (.int .u8 35), .lit (.int .u8 44), .lit (.int .u8 21), .lit (.int .u8 52), .lit (.int .u8 32), .lit (.int .u8 23), .lit (.int .u8 11), .lit (.int .u8 54), .lit (.int .u8 26), .lit (.int .u8 40), .lit (.int .u8 15), .lit (.int .u8 34), .lit (.int .u8 20), .lit (.int .u8 31), .lit (.int .u8 10), .lit (.int .u8 25), .lit (.int .u8 14), .lit (.int .u8 19), .lit (.int .u8 9), .lit (.int .u8 13), .lit (.int .u8 8), .lit (.int .u8 7), .lit (.int .u8 6)]
def laid_internal_strconv_uint64pow10 {H : Type} : DataW H := .agg [.lit (.int .u64 1), .lit (.int .u64 10), .lit (.int .u64 100), .lit (.int .u64 1000), .lit (.int .u64 10000), .lit (.int .u64 100000), .lit (.int .u64 1000000), .lit (.int .u64 10000000), .lit (.int .u64 100000000), .lit (.int .u64 1000000000), .lit (.int .u64 10000000000), .lit (.int .u64 100000000000), .lit (.int .u64 1000000000000), .lit (.int .u64 10000000000000), .lit (.int .u64 100000000000000), .lit (.int .u64 1000000000000000), .lit (.int .u64 10000000000000000), .lit (.int .u64 100000000000000000), .lit (.int .u64 1000000000000000000), .lit (.int .u64 10000000000000000000)]
def laid_strconv_ErrRange {H : Type} : DataW H := .iface "*errors.errorString" (.ptr (.agg [.lit (.string [118, 97, 108, 117, 101, 32, 111, 117, 116, 32, 111, 102, 32, 114, 97, 110, 103, 101])]))
def laid_strconv_ErrSyntax {H : Type} : DataW H := .iface "*errors.errorString" (.ptr (.agg [.lit (.string [105, 110, 118, 97, 108, 105, 100, 32, 115, 121, 110, 116, 97, 120])]))

/-- 'gafferlaw01.NumAdds': WHATEVER THE INPUT: true; the input reads as it did. -/
def numAddsSpec : ChangeSpec := { name := "numAdds", fn := fun _ => fun
  | [d1, d2] => { results := [.lit (.bool true)], args := [d1, d2] }
  | _ => none }
def numAddsRow : OpenClaim := { program := "ytjlnbfpjlladoaagreatdoor", sum := "5e87dac42185c52df4cb312097266e6b1dfc3b0f5a76b368cfb920e0bcefb5d1", func := "gaffer/gafferlaw01.NumAdds", spec := "numAdds", inPlace := ["math.Float64frombits", "math.Float64bits", "internal/bytealg.IndexByteString", "internal/bytealg.IndexString", "math.archFloor", "math.archTrunc"], recurses := true, named := ["internal/bytealg.MaxLen", "strconv.ErrSyntax", "strconv.ErrRange", "internal/strconv.uint64pow10", "math/bits.deBruijn32tab", "math/bits.deBruijn64tab"], apart := false, laid := [("math/bits.deBruijn32tab", laid_math_bits_deBruijn32tab), ("math/bits.deBruijn64tab", laid_math_bits_deBruijn64tab), ("internal/strconv.uint64pow10", laid_internal_strconv_uint64pow10), ("strconv.ErrRange", laid_strconv_ErrRange), ("strconv.ErrSyntax", laid_strconv_ErrSyntax)] }
def NumAddsSaid : Prop := numAddsRow.holds Tryz.pinned (OpenSpec.ofChange numAddsSpec)

/-- ITS FALSE NEIGHBOUR: 'it returns false'. Refute it at one input. -/
def numAddsWrong : ChangeSpec := { name := "numAdds", fn := fun _ => fun
  | [d1, d2] => { results := [.lit (.bool false)], args := [d1, d2] }
  | _ => none }
def NumAddsWrongFalsely : Prop := numAddsRow.holds Tryz.pinned (OpenSpec.ofChange numAddsWrong)

/-- 'gafferlaw01.NumTimes': WHATEVER THE INPUT: true; the input reads as it did. -/
def numTimesSpec : ChangeSpec := { name := "numTimes", fn := fun _ => fun
  | [d1, d2] => { results := [.lit (.bool true)], args := [d1, d2] }
  | _ => none }
def numTimesRow : OpenClaim := { program := "ytjlnbfpjlladoaagreatdoor", sum := "5e87dac42185c52df4cb312097266e6b1dfc3b0f5a76b368cfb920e0bcefb5d1", func := "gaffer/gafferlaw01.NumTimes", spec := "numTimes", inPlace := ["math.Float64frombits", "math.Float64bits", "internal/bytealg.IndexByteString", "internal/bytealg.IndexString", "math.archFloor", "math.archTrunc"], named := ["internal/bytealg.MaxLen", "strconv.ErrSyntax", "strconv.ErrRange", "internal/strconv.uint64pow10", "math/bits.deBruijn32tab", "math/bits.deBruijn64tab"], apart := false, laid := [("math/bits.deBruijn32tab", laid_math_bits_deBruijn32tab), ("math/bits.deBruijn64tab", laid_math_bits_deBruijn64tab), ("internal/strconv.uint64pow10", laid_internal_strconv_uint64pow10), ("strconv.ErrRange", laid_strconv_ErrRange), ("strconv.ErrSyntax", laid_strconv_ErrSyntax)] }
def NumTimesSaid : Prop := numTimesRow.holds Tryz.pinned (OpenSpec.ofChange numTimesSpec)

/-- ITS FALSE NEIGHBOUR: 'it returns false'. Refute it at one input. -/
def numTimesWrong : ChangeSpec := { name := "numTimes", fn := fun _ => fun
  | [d1, d2] => { results := [.lit (.bool false)], args := [d1, d2] }
  | _ => none }
def NumTimesWrongFalsely : Prop := numTimesRow.holds Tryz.pinned (OpenSpec.ofChange numTimesWrong)

/-- 'gafferlaw01.NumDivides': WHATEVER THE INPUT: true; the input reads as it did. -/
def numDividesSpec : ChangeSpec := { name := "numDivides", fn := fun _ => fun
  | [d1, d2] => { results := [.lit (.bool true)], args := [d1, d2] }
  | _ => none }
def numDividesRow : OpenClaim := { program := "ytjlnbfpjlladoaagreatdoor", sum := "5e87dac42185c52df4cb312097266e6b1dfc3b0f5a76b368cfb920e0bcefb5d1", func := "gaffer/gafferlaw01.NumDivides", spec := "numDivides", inPlace := ["math.Float64frombits", "math.Float64bits", "internal/bytealg.IndexByteString", "internal/bytealg.IndexString", "math.archFloor", "math.archTrunc"], named := ["internal/bytealg.MaxLen", "strconv.ErrSyntax", "strconv.ErrRange", "internal/strconv.uint64pow10", "math/bits.deBruijn32tab", "math/bits.deBruijn64tab"], apart := false, laid := [("math/bits.deBruijn32tab", laid_math_bits_deBruijn32tab), ("math/bits.deBruijn64tab", laid_math_bits_deBruijn64tab), ("internal/strconv.uint64pow10", laid_internal_strconv_uint64pow10), ("strconv.ErrRange", laid_strconv_ErrRange), ("strconv.ErrSyntax", laid_strconv_ErrSyntax)] }
def NumDividesSaid : Prop := numDividesRow.holds Tryz.pinned (OpenSpec.ofChange numDividesSpec)

/-- ITS FALSE NEIGHBOUR: 'it returns false'. Refute it at one input. -/
def numDividesWrong : ChangeSpec := { name := "numDivides", fn := fun _ => fun
  | [d1, d2] => { results := [.lit (.bool false)], args := [d1, d2] }
  | _ => none }
def NumDividesWrongFalsely : Prop := numDividesRow.holds Tryz.pinned (OpenSpec.ofChange numDividesWrong)

/-- 'gafferlaw01.NumPicks': WHATEVER THE INPUT: true; the input reads as it did. -/
def numPicksSpec : ChangeSpec := { name := "numPicks", fn := fun _ => fun
  | [d1, d2] => { results := [.lit (.bool true)], args := [d1, d2] }
  | _ => none }
def numPicksRow : OpenClaim := { program := "ytjlnbfpjlladoaagreatdoor", sum := "5e87dac42185c52df4cb312097266e6b1dfc3b0f5a76b368cfb920e0bcefb5d1", func := "gaffer/gafferlaw01.NumPicks", spec := "numPicks", inPlace := ["math.Float64frombits", "math.Float64bits", "internal/bytealg.IndexByteString", "internal/bytealg.IndexString", "math.archFloor", "math.archTrunc"], named := ["internal/bytealg.MaxLen", "strconv.ErrSyntax", "strconv.ErrRange", "internal/strconv.uint64pow10", "math/bits.deBruijn32tab", "math/bits.deBruijn64tab"], apart := false, laid := [("math/bits.deBruijn32tab", laid_math_bits_deBruijn32tab), ("math/bits.deBruijn64tab", laid_math_bits_deBruijn64tab), ("internal/strconv.uint64pow10", laid_internal_strconv_uint64pow10), ("strconv.ErrRange", laid_strconv_ErrRange), ("strconv.ErrSyntax", laid_strconv_ErrSyntax)] }
def NumPicksSaid : Prop := numPicksRow.holds Tryz.pinned (OpenSpec.ofChange numPicksSpec)

/-- ITS FALSE NEIGHBOUR: 'it returns false'. Refute it at one input. -/
def numPicksWrong : ChangeSpec := { name := "numPicks", fn := fun _ => fun
  | [d1, d2] => { results := [.lit (.bool false)], args := [d1, d2] }
  | _ => none }
def NumPicksWrongFalsely : Prop := numPicksRow.holds Tryz.pinned (OpenSpec.ofChange numPicksWrong)

/-- 'gafferlaw01.NumWhole': WHATEVER THE INPUT: true; the input reads as it did. -/
def numWholeSpec : ChangeSpec := { name := "numWhole", fn := fun _ => fun
  | [d1, d2] => { results := [.lit (.bool true)], args := [d1, d2] }
  | _ => none }
def numWholeRow : OpenClaim := { program := "ytjlnbfpjlladoaagreatdoor", sum := "5e87dac42185c52df4cb312097266e6b1dfc3b0f5a76b368cfb920e0bcefb5d1", func := "gaffer/gafferlaw01.NumWhole", spec := "numWhole", inPlace := ["math.Float64frombits", "math.archFloor", "math.Float64bits", "math.archTrunc", "internal/bytealg.IndexByteString", "internal/bytealg.IndexString"], named := ["internal/bytealg.MaxLen", "strconv.ErrSyntax", "strconv.ErrRange", "internal/strconv.uint64pow10", "math/bits.deBruijn32tab", "math/bits.deBruijn64tab"], apart := false, laid := [("math/bits.deBruijn32tab", laid_math_bits_deBruijn32tab), ("math/bits.deBruijn64tab", laid_math_bits_deBruijn64tab), ("internal/strconv.uint64pow10", laid_internal_strconv_uint64pow10), ("strconv.ErrRange", laid_strconv_ErrRange), ("strconv.ErrSyntax", laid_strconv_ErrSyntax)] }
def NumWholeSaid : Prop := numWholeRow.holds Tryz.pinned (OpenSpec.ofChange numWholeSpec)

/-- ITS FALSE NEIGHBOUR: 'it returns false'. Refute it at one input. -/
def numWholeWrong : ChangeSpec := { name := "numWhole", fn := fun _ => fun
  | [d1, d2] => { results := [.lit (.bool false)], args := [d1, d2] }
  | _ => none }
def NumWholeWrongFalsely : Prop := numWholeRow.holds Tryz.pinned (OpenSpec.ofChange numWholeWrong)

/-- 'gafferlaw01.NumReads': WHATEVER THE INPUT: true; the input reads as it did. -/
def numReadsSpec : ChangeSpec := { name := "numReads", fn := fun _ => fun
  | [d] => { results := [.lit (.bool true)], args := [d] }
  | _ => none }
def numReadsRow : OpenClaim := { program := "ytjlnbfpjlladoaagreatdoor", sum := "5e87dac42185c52df4cb312097266e6b1dfc3b0f5a76b368cfb920e0bcefb5d1", func := "gaffer/gafferlaw01.NumReads", spec := "numReads", inPlace := ["math.Float64frombits", "math.Float64bits", "internal/bytealg.IndexByteString", "internal/bytealg.IndexString", "math.archFloor", "math.archTrunc"], recurses := true, named := ["internal/bytealg.MaxLen", "strconv.ErrSyntax", "strconv.ErrRange", "internal/strconv.uint64pow10", "math/bits.deBruijn32tab", "math/bits.deBruijn64tab"], apart := false, laid := [("math/bits.deBruijn32tab", laid_math_bits_deBruijn32tab), ("math/bits.deBruijn64tab", laid_math_bits_deBruijn64tab), ("internal/strconv.uint64pow10", laid_internal_strconv_uint64pow10), ("strconv.ErrRange", laid_strconv_ErrRange), ("strconv.ErrSyntax", laid_strconv_ErrSyntax)] }
def NumReadsSaid : Prop := numReadsRow.holds Tryz.pinned (OpenSpec.ofChange numReadsSpec)

/-- ITS FALSE NEIGHBOUR: 'it returns false'. Refute it at one input. -/
def numReadsWrong : ChangeSpec := { name := "numReads", fn := fun _ => fun
  | [d] => { results := [.lit (.bool false)], args := [d] }
  | _ => none }
def NumReadsWrongFalsely : Prop := numReadsRow.holds Tryz.pinned (OpenSpec.ofChange numReadsWrong)

/- THE SECOND FORM. 'bulk': how many values and letters a reading holds, each counted each time it is reached (what is shared counts as often as it is met; a slice's spare places count too). A statement '..UptoSaid' is the law's where the arguments, and the package variables that the reading takes, are together of bulk at most 1048576: NARROWER than '..Said'. Prove '..Said' where nothing that the law and all that it calls make is longer than what came in: it says more and counts as full. Else prove '..UptoSaid'. A law counts once. -/
mutual
def uptoBulk {H : Type} : DataW H → Nat
  | .lit (.string bytes) => bytes.length + 1
  | .lit _ => 1
  | .nil => 1
  | .ptr d => uptoBulk d + 1
  | .slice elems spare => uptoBulkAll elems + uptoBulkAll spare + 1
  | .agg parts => uptoBulkAll parts + 1
  | .iface _ d => uptoBulk d + 1
  | .map entries => uptoBulkEntries entries + 1
  | .held _ => 1
def uptoBulkAll {H : Type} : List (DataW H) → Nat
  | [] => 0
  | d :: r => uptoBulk d + uptoBulkAll r
def uptoBulkEntries {H : Type} : List (Lit × DataW H) → Nat
  | [] => 0
  | x :: r => uptoBulkEntry x + uptoBulkEntries r
def uptoBulkEntry {H : Type} : Lit × DataW H → Nat
  | (.string bytes, d) => bytes.length + uptoBulk d + 1
  | (_, d) => uptoBulk d + 1
 end
def uptoSmall : (H : Type) → List (DataW H) → Bool := fun _ ds => decide (uptoBulkAll ds ≤ 1048576)
def OpenSpec.upto (s : _root_.Go.ChangeSpec) : _root_.Go.OpenSpec := { _root_.Go.OpenSpec.ofChange s with cond := some uptoSmall }

/-- 'gafferlaw01.NumAdds', WHERE WHAT IT READS IS OF BULK AT MOST 1048576: true; the input reads as it did. -/
def numAddsUptoRow : OpenClaim := { program := "ytjlnbfpjlladoaagreatdoor", sum := "5e87dac42185c52df4cb312097266e6b1dfc3b0f5a76b368cfb920e0bcefb5d1", func := "gaffer/gafferlaw01.NumAdds", spec := "numAdds", inPlace := ["math.Float64frombits", "math.Float64bits", "internal/bytealg.IndexByteString", "internal/bytealg.IndexString", "math.archFloor", "math.archTrunc"], recurses := true, named := ["internal/bytealg.MaxLen", "strconv.ErrSyntax", "strconv.ErrRange", "internal/strconv.uint64pow10", "math/bits.deBruijn32tab", "math/bits.deBruijn64tab"], apart := false, laid := [("math/bits.deBruijn32tab", laid_math_bits_deBruijn32tab), ("math/bits.deBruijn64tab", laid_math_bits_deBruijn64tab), ("internal/strconv.uint64pow10", laid_internal_strconv_uint64pow10), ("strconv.ErrRange", laid_strconv_ErrRange), ("strconv.ErrSyntax", laid_strconv_ErrSyntax)], narrowed := true }
def NumAddsUptoSaid : Prop := numAddsUptoRow.holds Tryz.pinned (OpenSpec.upto numAddsSpec)

/-- 'gafferlaw01.NumTimes', WHERE WHAT IT READS IS OF BULK AT MOST 1048576: true; the input reads as it did. -/
def numTimesUptoRow : OpenClaim := { program := "ytjlnbfpjlladoaagreatdoor", sum := "5e87dac42185c52df4cb312097266e6b1dfc3b0f5a76b368cfb920e0bcefb5d1", func := "gaffer/gafferlaw01.NumTimes", spec := "numTimes", inPlace := ["math.Float64frombits", "math.Float64bits", "internal/bytealg.IndexByteString", "internal/bytealg.IndexString", "math.archFloor", "math.archTrunc"], named := ["internal/bytealg.MaxLen", "strconv.ErrSyntax", "strconv.ErrRange", "internal/strconv.uint64pow10", "math/bits.deBruijn32tab", "math/bits.deBruijn64tab"], apart := false, laid := [("math/bits.deBruijn32tab", laid_math_bits_deBruijn32tab), ("math/bits.deBruijn64tab", laid_math_bits_deBruijn64tab), ("internal/strconv.uint64pow10", laid_internal_strconv_uint64pow10), ("strconv.ErrRange", laid_strconv_ErrRange), ("strconv.ErrSyntax", laid_strconv_ErrSyntax)], narrowed := true }
def NumTimesUptoSaid : Prop := numTimesUptoRow.holds Tryz.pinned (OpenSpec.upto numTimesSpec)

/-- 'gafferlaw01.NumDivides', WHERE WHAT IT READS IS OF BULK AT MOST 1048576: true; the input reads as it did. -/
def numDividesUptoRow : OpenClaim := { program := "ytjlnbfpjlladoaagreatdoor", sum := "5e87dac42185c52df4cb312097266e6b1dfc3b0f5a76b368cfb920e0bcefb5d1", func := "gaffer/gafferlaw01.NumDivides", spec := "numDivides", inPlace := ["math.Float64frombits", "math.Float64bits", "internal/bytealg.IndexByteString", "internal/bytealg.IndexString", "math.archFloor", "math.archTrunc"], named := ["internal/bytealg.MaxLen", "strconv.ErrSyntax", "strconv.ErrRange", "internal/strconv.uint64pow10", "math/bits.deBruijn32tab", "math/bits.deBruijn64tab"], apart := false, laid := [("math/bits.deBruijn32tab", laid_math_bits_deBruijn32tab), ("math/bits.deBruijn64tab", laid_math_bits_deBruijn64tab), ("internal/strconv.uint64pow10", laid_internal_strconv_uint64pow10), ("strconv.ErrRange", laid_strconv_ErrRange), ("strconv.ErrSyntax", laid_strconv_ErrSyntax)], narrowed := true }
def NumDividesUptoSaid : Prop := numDividesUptoRow.holds Tryz.pinned (OpenSpec.upto numDividesSpec)

/-- 'gafferlaw01.NumPicks', WHERE WHAT IT READS IS OF BULK AT MOST 1048576: true; the input reads as it did. -/
def numPicksUptoRow : OpenClaim := { program := "ytjlnbfpjlladoaagreatdoor", sum := "5e87dac42185c52df4cb312097266e6b1dfc3b0f5a76b368cfb920e0bcefb5d1", func := "gaffer/gafferlaw01.NumPicks", spec := "numPicks", inPlace := ["math.Float64frombits", "math.Float64bits", "internal/bytealg.IndexByteString", "internal/bytealg.IndexString", "math.archFloor", "math.archTrunc"], named := ["internal/bytealg.MaxLen", "strconv.ErrSyntax", "strconv.ErrRange", "internal/strconv.uint64pow10", "math/bits.deBruijn32tab", "math/bits.deBruijn64tab"], apart := false, laid := [("math/bits.deBruijn32tab", laid_math_bits_deBruijn32tab), ("math/bits.deBruijn64tab", laid_math_bits_deBruijn64tab), ("internal/strconv.uint64pow10", laid_internal_strconv_uint64pow10), ("strconv.ErrRange", laid_strconv_ErrRange), ("strconv.ErrSyntax", laid_strconv_ErrSyntax)], narrowed := true }
def NumPicksUptoSaid : Prop := numPicksUptoRow.holds Tryz.pinned (OpenSpec.upto numPicksSpec)

/-- 'gafferlaw01.NumWhole', WHERE WHAT IT READS IS OF BULK AT MOST 1048576: true; the input reads as it did. -/
def numWholeUptoRow : OpenClaim := { program := "ytjlnbfpjlladoaagreatdoor", sum := "5e87dac42185c52df4cb312097266e6b1dfc3b0f5a76b368cfb920e0bcefb5d1", func := "gaffer/gafferlaw01.NumWhole", spec := "numWhole", inPlace := ["math.Float64frombits", "math.archFloor", "math.Float64bits", "math.archTrunc", "internal/bytealg.IndexByteString", "internal/bytealg.IndexString"], named := ["internal/bytealg.MaxLen", "strconv.ErrSyntax", "strconv.ErrRange", "internal/strconv.uint64pow10", "math/bits.deBruijn32tab", "math/bits.deBruijn64tab"], apart := false, laid := [("math/bits.deBruijn32tab", laid_math_bits_deBruijn32tab), ("math/bits.deBruijn64tab", laid_math_bits_deBruijn64tab), ("internal/strconv.uint64pow10", laid_internal_strconv_uint64pow10), ("strconv.ErrRange", laid_strconv_ErrRange), ("strconv.ErrSyntax", laid_strconv_ErrSyntax)], narrowed := true }
def NumWholeUptoSaid : Prop := numWholeUptoRow.holds Tryz.pinned (OpenSpec.upto numWholeSpec)

/-- 'gafferlaw01.NumReads', WHERE WHAT IT READS IS OF BULK AT MOST 1048576: true; the input reads as it did. -/
def numReadsUptoRow : OpenClaim := { program := "ytjlnbfpjlladoaagreatdoor", sum := "5e87dac42185c52df4cb312097266e6b1dfc3b0f5a76b368cfb920e0bcefb5d1", func := "gaffer/gafferlaw01.NumReads", spec := "numReads", inPlace := ["math.Float64frombits", "math.Float64bits", "internal/bytealg.IndexByteString", "internal/bytealg.IndexString", "math.archFloor", "math.archTrunc"], recurses := true, named := ["internal/bytealg.MaxLen", "strconv.ErrSyntax", "strconv.ErrRange", "internal/strconv.uint64pow10", "math/bits.deBruijn32tab", "math/bits.deBruijn64tab"], apart := false, laid := [("math/bits.deBruijn32tab", laid_math_bits_deBruijn32tab), ("math/bits.deBruijn64tab", laid_math_bits_deBruijn64tab), ("internal/strconv.uint64pow10", laid_internal_strconv_uint64pow10), ("strconv.ErrRange", laid_strconv_ErrRange), ("strconv.ErrSyntax", laid_strconv_ErrSyntax)], narrowed := true }
def NumReadsUptoSaid : Prop := numReadsUptoRow.holds Tryz.pinned (OpenSpec.upto numReadsSpec)

end Rows
end Go.Proofs.YtjlnbfpjlladoaaGreatDoor
