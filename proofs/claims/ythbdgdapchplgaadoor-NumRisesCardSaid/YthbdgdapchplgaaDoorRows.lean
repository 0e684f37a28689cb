/-
  NARROWER THAN 'FOR EVERY INPUT', by the rows' own cells (each row's printed sentence says how): NumStands: laid · NumTurns: laid · NumSterbenz: laid · NumRises: laid · NumLines: laid · NumFloors: laid · NumSigns: laid · NumScales: laid · NumCounts: laid · NumPairs: laid · NumNearest: laid.
  DERIVED. THE GIVEN ROWS OF THIS SEAT. 11 by the template 'for every input the law returns true; each argument reads behind the call as it read before'; 0 by the template 'total and deterministic' (their statements: YthbdgdapchplgaaDoorTotals.lean).
  GIVEN WITH THE SEED: the statements are not yours to turn. If you find one false, say at which input.
  Laid BY PROGRAM, IN A SANDBOX (cutbox-rows.mjs): the forced cells as the released guide's own fill.sh prints them over the translation 6673a72afd5a6020… (all of the seat's roots in one cut). By AI agents, Wed Nov 11 2026. No macro, syntax, notation, axiom, sorry.
-/
import Derived.Test.YthbdgdapchplgaaDoorChecked
import GoSem.Claim
import GoSem.ClaimJoined
import GoSem.ClaimMapViews
import Derived.JoinedTies
import Derived.KernelRfl
namespace Go.Proofs.YthbdgdapchplgaaDoor
/- THE CELL 'sum', in the pinned program and in every row, IS THE sha256 OF THE DUMP (.gsa) THAT YthbdgdapchplgaaDoorProg.lean LOADS. Nothing in Lean hashes anything: it is a label: what it is worth is what the hold of that sum in a sandbox is worth. -/
noncomputable def Tryd.pinned : Pinned := { name := "ythbdgdapchplgaadoor", sum := "6673a72afd5a602083bb40a5625ec9a54120d851189d6381dc7bc0cc22e2acfd", checked := Tryd.checked }
namespace Rows
def none {H : Type} : Left H := { results := [], args := [] }

/- WHAT THE LISTED PACKAGE-LEVEL VARIABLES READ AS WHEN THE CALL BEGINS. Each datum BY PROGRAM (the guide's laid-datum.mjs) off the statement by which the dump's own 'gosem.cut.vars' lays the variable. In a bare row this is a premise. The card (YthbdgdapchplgaaDoorCards.lean) ties it to the program's text. -/
def laid_math_bits_deBruijn32tab {H : Type} : DataW H := .agg [.lit (.int .u8 0), .lit (.int .u8 1), .lit (.int .u8 28), .lit (.int .u8 2), .lit (.int .u8 29), .lit (.int .u8 14), .lit (.int .u8 24), .lit (.int .u8 3), .lit (.int .u8 30), .lit (.int .u8 22), .lit (.int .u8 20), .lit (.int .u8 15), .lit (.int .u8 25), .lit (.int .u8 17), .lit (.int .u8 4), .lit (.int .u8 8), .lit (.int .u8 31), .lit (.int .u8 27), .lit (.int .u8 13), .lit (.int .u8 23), .lit (.int .u8 21), .lit (.int .u8 19), .lit (.int .u8 16), .lit (.int .u8 7), .lit (.int .u8 26), .lit (.int .u8 12), .lit (.int .u8 18), .lit (.int .u8 6), .lit (.int .u8 11), .lit (.int .u8 5), .lit (.int .u8 10), .lit (.int .u8 9)]
def laid_math_bits_deBruijn64tab {H : Type} : DataW H := .agg [.lit (.int .u8 0), .lit (.int .u8 1), .lit (.int .u8 56), .lit (.int .u8 2), .lit (.int .u8 57), .lit (.int .u8 49), .lit (.int .u8 28), .lit (.int .u8 3), .lit (.int .u8 61), .lit (.int .u8 58), .lit (.int .u8 42), .lit (.int .u8 50), .lit (.int .u8 38), .lit (.int .u8 29), .lit (.int .u8 17), .lit (.int .u8 4), .lit (.int .u8 62), .lit (.int .u8 47), .lit (.int .u8 59), .lit (.int .u8 36), .lit (.int .u8 45), .lit (.int .u8 43), .lit (.int .u8 51), .lit (.int .u8 22), .lit (.int .u8 53), .lit (.int .u8 39), .lit (.int .u8 33), .lit (.int .u8 30), .lit (.int .u8 24), .lit (.int .u8 18), .lit (.int .u8 12), .lit (.int .u8 5), .lit (.int .u8 63), .lit (.int .u8 55), .lit (.int .u8 48), .lit (.int .u8 27), .lit (.int .u8 60), .lit (.int .u8 41), .lit (.int .u8 37), .lit (.int .u8 16), .lit (.int .u8 46), .lit (.int .u8 35), .lit (.int .u8 44), .lit (.int .u8 21), .lit (.int .u8 52), .lit (.int .u8 32), .lit (.int .u8 23), .lit (.int .u8 11), .lit (.int .u8 54), .lit (.int .u8 26), .lit (.int .u8 40), .lit (.int .u8 15), .lit (.int .u8 34), .lit (.int .u8 20), .lit (.int .u8 31), .lit (.int .u8 10), .lit (.int .u8 25), .lit (.int .u8 14), .lit (.int .u8 19), .lit (.int .u8 9), .lit (.int .u8 13), .lit (.int .u8 8), .lit (.int .u8 7), .lit (.int .u8 6)]
def laid_internal_strconv_uint64pow10 {H : Type} : DataW H := .agg [.lit (.int .u64 1), .lit (.int .u64 10), .lit (.int .u64 100), .lit (.int .u64 1000), .lit (.int .u64 10000), .lit (.int .u64 100000), .lit (.int .u64 1000000), .lit (.int .u64 10000000), .lit (.int .u64 100000000), .lit (.int .u64 1000000000), .lit (.int .u64 10000000000), .lit (.int .u64 100000000000), .lit (.int .u64 1000000000000), .lit (.int .u64 10000000000000), .lit (.int .u64 100000000000000), .lit (.int .u64 1000000000000000), .lit (.int .u64 10000000000000000), .lit (.int .u64 100000000000000000), .lit (.int .u64 1000000000000000000), .lit (.int .u64 10000000000000000000)]
def laid_strconv_ErrRange {H : Type} : DataW H := .iface "*errors.errorString" (.ptr (.agg [.lit (.string [118, 97, 108, 117, 101, 32, 111, 117, 116, 32, 111, 102, 32, 114, 97, 110, 103, 101])]))
def laid_strconv_ErrSyntax {H : Type} : DataW H := .iface "*errors.errorString" (.ptr (.agg [.lit (.string [105, 110, 118, 97, 108, 105, 100, 32, 115, 121, 110, 116, 97, 120])]))

/-- 'gafferlaw01.NumStands': WHATEVER THE INPUT: true; the input reads as it did. -/
def numStandsSpec : ChangeSpec := { name := "numStands", fn := fun _ => fun
  | [d1, d2] => { results := [.lit (.bool true)], args := [d1, d2] }
  | _ => none }
def numStandsRow : OpenClaim := { program := "ythbdgdapchplgaadoor", sum := "6673a72afd5a602083bb40a5625ec9a54120d851189d6381dc7bc0cc22e2acfd", func := "gaffer/gafferlaw01.NumStands", spec := "numStands", inPlace := ["math.Float64frombits", "math.Float64bits", "internal/bytealg.IndexByteString", "internal/bytealg.IndexString", "math.archFloor", "math.archTrunc"], named := ["internal/bytealg.MaxLen", "strconv.ErrSyntax", "strconv.ErrRange", "internal/strconv.uint64pow10", "math/bits.deBruijn32tab", "math/bits.deBruijn64tab"], apart := false, laid := [("math/bits.deBruijn32tab", laid_math_bits_deBruijn32tab), ("math/bits.deBruijn64tab", laid_math_bits_deBruijn64tab), ("internal/strconv.uint64pow10", laid_internal_strconv_uint64pow10), ("strconv.ErrRange", laid_strconv_ErrRange), ("strconv.ErrSyntax", laid_strconv_ErrSyntax)] }
def NumStandsSaid : Prop := numStandsRow.holds Tryd.pinned (OpenSpec.ofChange numStandsSpec)

/-- ITS FALSE NEIGHBOUR: 'it returns false'. Refute it at one input. -/
def numStandsWrong : ChangeSpec := { name := "numStands", fn := fun _ => fun
  | [d1, d2] => { results := [.lit (.bool false)], args := [d1, d2] }
  | _ => none }
def NumStandsWrongFalsely : Prop := numStandsRow.holds Tryd.pinned (OpenSpec.ofChange numStandsWrong)

/-- 'gafferlaw01.NumTurns': WHATEVER THE INPUT: true; the input reads as it did. -/
def numTurnsSpec : ChangeSpec := { name := "numTurns", fn := fun _ => fun
  | [d1, d2] => { results := [.lit (.bool true)], args := [d1, d2] }
  | _ => none }
def numTurnsRow : OpenClaim := { program := "ythbdgdapchplgaadoor", sum := "6673a72afd5a602083bb40a5625ec9a54120d851189d6381dc7bc0cc22e2acfd", func := "gaffer/gafferlaw01.NumTurns", spec := "numTurns", inPlace := ["math.Float64frombits", "math.Float64bits", "internal/bytealg.IndexByteString", "internal/bytealg.IndexString", "math.archFloor", "math.archTrunc"], named := ["internal/bytealg.MaxLen", "strconv.ErrSyntax", "strconv.ErrRange", "internal/strconv.uint64pow10", "math/bits.deBruijn32tab", "math/bits.deBruijn64tab"], apart := false, laid := [("math/bits.deBruijn32tab", laid_math_bits_deBruijn32tab), ("math/bits.deBruijn64tab", laid_math_bits_deBruijn64tab), ("internal/strconv.uint64pow10", laid_internal_strconv_uint64pow10), ("strconv.ErrRange", laid_strconv_ErrRange), ("strconv.ErrSyntax", laid_strconv_ErrSyntax)] }
def NumTurnsSaid : Prop := numTurnsRow.holds Tryd.pinned (OpenSpec.ofChange numTurnsSpec)

/-- ITS FALSE NEIGHBOUR: 'it returns false'. Refute it at one input. -/
def numTurnsWrong : ChangeSpec := { name := "numTurns", fn := fun _ => fun
  | [d1, d2] => { results := [.lit (.bool false)], args := [d1, d2] }
  | _ => none }
def NumTurnsWrongFalsely : Prop := numTurnsRow.holds Tryd.pinned (OpenSpec.ofChange numTurnsWrong)

/-- 'gafferlaw01.NumSterbenz': WHATEVER THE INPUT: true; the input reads as it did. -/
def numSterbenzSpec : ChangeSpec := { name := "numSterbenz", fn := fun _ => fun
  | [d1, d2] => { results := [.lit (.bool true)], args := [d1, d2] }
  | _ => none }
def numSterbenzRow : OpenClaim := { program := "ythbdgdapchplgaadoor", sum := "6673a72afd5a602083bb40a5625ec9a54120d851189d6381dc7bc0cc22e2acfd", func := "gaffer/gafferlaw01.NumSterbenz", spec := "numSterbenz", inPlace := ["math.Float64frombits", "math.Float64bits", "internal/bytealg.IndexByteString", "internal/bytealg.IndexString", "math.archFloor", "math.archTrunc"], named := ["internal/bytealg.MaxLen", "strconv.ErrSyntax", "strconv.ErrRange", "internal/strconv.uint64pow10", "math/bits.deBruijn32tab", "math/bits.deBruijn64tab"], apart := false, laid := [("math/bits.deBruijn32tab", laid_math_bits_deBruijn32tab), ("math/bits.deBruijn64tab", laid_math_bits_deBruijn64tab), ("internal/strconv.uint64pow10", laid_internal_strconv_uint64pow10), ("strconv.ErrRange", laid_strconv_ErrRange), ("strconv.ErrSyntax", laid_strconv_ErrSyntax)] }
def NumSterbenzSaid : Prop := numSterbenzRow.holds Tryd.pinned (OpenSpec.ofChange numSterbenzSpec)

/-- ITS FALSE NEIGHBOUR: 'it returns false'. Refute it at one input. -/
def numSterbenzWrong : ChangeSpec := { name := "numSterbenz", fn := fun _ => fun
  | [d1, d2] => { results := [.lit (.bool false)], args := [d1, d2] }
  | _ => none }
def NumSterbenzWrongFalsely : Prop := numSterbenzRow.holds Tryd.pinned (OpenSpec.ofChange numSterbenzWrong)

/-- 'gafferlaw01.NumRises': WHATEVER THE INPUT: true; the input reads as it did. -/
def numRisesSpec : ChangeSpec := { name := "numRises", fn := fun _ => fun
  | [d1, d2, d3] => { results := [.lit (.bool true)], args := [d1, d2, d3] }
  | _ => none }
def numRisesRow : OpenClaim := { program := "ythbdgdapchplgaadoor", sum := "6673a72afd5a602083bb40a5625ec9a54120d851189d6381dc7bc0cc22e2acfd", func := "gaffer/gafferlaw01.NumRises", spec := "numRises", inPlace := ["math.Float64frombits", "math.Float64bits", "internal/bytealg.IndexByteString", "internal/bytealg.IndexString", "math.archFloor", "math.archTrunc"], named := ["internal/bytealg.MaxLen", "strconv.ErrSyntax", "strconv.ErrRange", "internal/strconv.uint64pow10", "math/bits.deBruijn32tab", "math/bits.deBruijn64tab"], apart := false, laid := [("math/bits.deBruijn32tab", laid_math_bits_deBruijn32tab), ("math/bits.deBruijn64tab", laid_math_bits_deBruijn64tab), ("internal/strconv.uint64pow10", laid_internal_strconv_uint64pow10), ("strconv.ErrRange", laid_strconv_ErrRange), ("strconv.ErrSyntax", laid_strconv_ErrSyntax)] }
def NumRisesSaid : Prop := numRisesRow.holds Tryd.pinned (OpenSpec.ofChange numRisesSpec)

/-- ITS FALSE NEIGHBOUR: 'it returns false'. Refute it at one input. -/
def numRisesWrong : ChangeSpec := { name := "numRises", fn := fun _ => fun
  | [d1, d2, d3] => { results := [.lit (.bool false)], args := [d1, d2, d3] }
  | _ => none }
def NumRisesWrongFalsely : Prop := numRisesRow.holds Tryd.pinned (OpenSpec.ofChange numRisesWrong)

/-- 'gafferlaw01.NumLines': WHATEVER THE INPUT: true; the input reads as it did. -/
def numLinesSpec : ChangeSpec := { name := "numLines", fn := fun _ => fun
  | [d1, d2, d3] => { results := [.lit (.bool true)], args := [d1, d2, d3] }
  | _ => none }
def numLinesRow : OpenClaim := { program := "ythbdgdapchplgaadoor", sum := "6673a72afd5a602083bb40a5625ec9a54120d851189d6381dc7bc0cc22e2acfd", func := "gaffer/gafferlaw01.NumLines", spec := "numLines", inPlace := ["math.Float64frombits", "math.Float64bits", "internal/bytealg.IndexByteString", "internal/bytealg.IndexString", "math.archFloor", "math.archTrunc"], named := ["internal/bytealg.MaxLen", "strconv.ErrSyntax", "strconv.ErrRange", "internal/strconv.uint64pow10", "math/bits.deBruijn32tab", "math/bits.deBruijn64tab"], apart := false, laid := [("math/bits.deBruijn32tab", laid_math_bits_deBruijn32tab), ("math/bits.deBruijn64tab", laid_math_bits_deBruijn64tab), ("internal/strconv.uint64pow10", laid_internal_strconv_uint64pow10), ("strconv.ErrRange", laid_strconv_ErrRange), ("strconv.ErrSyntax", laid_strconv_ErrSyntax)] }
def NumLinesSaid : Prop := numLinesRow.holds Tryd.pinned (OpenSpec.ofChange numLinesSpec)

/-- ITS FALSE NEIGHBOUR: 'it returns false'. Refute it at one input. -/
def numLinesWrong : ChangeSpec := { name := "numLines", fn := fun _ => fun
  | [d1, d2, d3] => { results := [.lit (.bool false)], args := [d1, d2, d3] }
  | _ => none }
def NumLinesWrongFalsely : Prop := numLinesRow.holds Tryd.pinned (OpenSpec.ofChange numLinesWrong)

/-- 'gafferlaw01.NumFloors': WHATEVER THE INPUT: true; the input reads as it did. -/
def numFloorsSpec : ChangeSpec := { name := "numFloors", fn := fun _ => fun
  | [d] => { results := [.lit (.bool true)], args := [d] }
  | _ => none }
def numFloorsRow : OpenClaim := { program := "ythbdgdapchplgaadoor", sum := "6673a72afd5a602083bb40a5625ec9a54120d851189d6381dc7bc0cc22e2acfd", func := "gaffer/gafferlaw01.NumFloors", spec := "numFloors", inPlace := ["math.Float64frombits", "math.archFloor", "math.Float64bits", "math.archTrunc", "internal/bytealg.IndexByteString", "internal/bytealg.IndexString"], named := ["internal/bytealg.MaxLen", "strconv.ErrSyntax", "strconv.ErrRange", "internal/strconv.uint64pow10", "math/bits.deBruijn32tab", "math/bits.deBruijn64tab"], apart := false, laid := [("math/bits.deBruijn32tab", laid_math_bits_deBruijn32tab), ("math/bits.deBruijn64tab", laid_math_bits_deBruijn64tab), ("internal/strconv.uint64pow10", laid_internal_strconv_uint64pow10), ("strconv.ErrRange", laid_strconv_ErrRange), ("strconv.ErrSyntax", laid_strconv_ErrSyntax)] }
def NumFloorsSaid : Prop := numFloorsRow.holds Tryd.pinned (OpenSpec.ofChange numFloorsSpec)

/-- ITS FALSE NEIGHBOUR: 'it returns false'. Refute it at one input. -/
def numFloorsWrong : ChangeSpec := { name := "numFloors", fn := fun _ => fun
  | [d] => { results := [.lit (.bool false)], args := [d] }
  | _ => none }
def NumFloorsWrongFalsely : Prop := numFloorsRow.holds Tryd.pinned (OpenSpec.ofChange numFloorsWrong)

/-- 'gafferlaw01.NumSigns': WHATEVER THE INPUT: true; the input reads as it did. -/
def numSignsSpec : ChangeSpec := { name := "numSigns", fn := fun _ => fun
  | [d1, d2] => { results := [.lit (.bool true)], args := [d1, d2] }
  | _ => none }
def numSignsRow : OpenClaim := { program := "ythbdgdapchplgaadoor", sum := "6673a72afd5a602083bb40a5625ec9a54120d851189d6381dc7bc0cc22e2acfd", func := "gaffer/gafferlaw01.NumSigns", spec := "numSigns", inPlace := ["math.Float64frombits", "math.Float64bits", "internal/bytealg.IndexByteString", "internal/bytealg.IndexString", "math.archFloor", "math.archTrunc"], named := ["internal/bytealg.MaxLen", "strconv.ErrSyntax", "strconv.ErrRange", "internal/strconv.uint64pow10", "math/bits.deBruijn32tab", "math/bits.deBruijn64tab"], apart := false, laid := [("math/bits.deBruijn32tab", laid_math_bits_deBruijn32tab), ("math/bits.deBruijn64tab", laid_math_bits_deBruijn64tab), ("internal/strconv.uint64pow10", laid_internal_strconv_uint64pow10), ("strconv.ErrRange", laid_strconv_ErrRange), ("strconv.ErrSyntax", laid_strconv_ErrSyntax)] }
def NumSignsSaid : Prop := numSignsRow.holds Tryd.pinned (OpenSpec.ofChange numSignsSpec)

/-- ITS FALSE NEIGHBOUR: 'it returns false'. Refute it at one input. -/
def numSignsWrong : ChangeSpec := { name := "numSigns", fn := fun _ => fun
  | [d1, d2] => { results := [.lit (.bool false)], args := [d1, d2] }
  | _ => none }
def NumSignsWrongFalsely : Prop := numSignsRow.holds Tryd.pinned (OpenSpec.ofChange numSignsWrong)

/-- 'gafferlaw01.NumScales': WHATEVER THE INPUT: true; the input reads as it did. -/
def numScalesSpec : ChangeSpec := { name := "numScales", fn := fun _ => fun
  | [d1, d2] => { results := [.lit (.bool true)], args := [d1, d2] }
  | _ => none }
def numScalesRow : OpenClaim := { program := "ythbdgdapchplgaadoor", sum := "6673a72afd5a602083bb40a5625ec9a54120d851189d6381dc7bc0cc22e2acfd", func := "gaffer/gafferlaw01.NumScales", spec := "numScales", inPlace := ["math.Float64frombits", "math.Float64bits", "internal/bytealg.IndexByteString", "internal/bytealg.IndexString", "math.archFloor", "math.archTrunc"], named := ["internal/bytealg.MaxLen", "strconv.ErrSyntax", "strconv.ErrRange", "internal/strconv.uint64pow10", "math/bits.deBruijn32tab", "math/bits.deBruijn64tab"], apart := false, laid := [("math/bits.deBruijn32tab", laid_math_bits_deBruijn32tab), ("math/bits.deBruijn64tab", laid_math_bits_deBruijn64tab), ("internal/strconv.uint64pow10", laid_internal_strconv_uint64pow10), ("strconv.ErrRange", laid_strconv_ErrRange), ("strconv.ErrSyntax", laid_strconv_ErrSyntax)] }
def NumScalesSaid : Prop := numScalesRow.holds Tryd.pinned (OpenSpec.ofChange numScalesSpec)

/-- ITS FALSE NEIGHBOUR: 'it returns false'. Refute it at one input. -/
def numScalesWrong : ChangeSpec := { name := "numScales", fn := fun _ => fun
  | [d1, d2] => { results := [.lit (.bool false)], args := [d1, d2] }
  | _ => none }
def NumScalesWrongFalsely : Prop := numScalesRow.holds Tryd.pinned (OpenSpec.ofChange numScalesWrong)

/-- 'gafferlaw01.NumCounts': WHATEVER THE INPUT: true; the input reads as it did. -/
def numCountsSpec : ChangeSpec := { name := "numCounts", fn := fun _ => fun
  | [d1, d2, d3] => { results := [.lit (.bool true)], args := [d1, d2, d3] }
  | _ => none }
def numCountsRow : OpenClaim := { program := "ythbdgdapchplgaadoor", sum := "6673a72afd5a602083bb40a5625ec9a54120d851189d6381dc7bc0cc22e2acfd", func := "gaffer/gafferlaw01.NumCounts", spec := "numCounts", inPlace := ["math.Float64frombits", "math.archFloor", "math.Float64bits", "math.archTrunc", "internal/bytealg.IndexByteString", "internal/bytealg.IndexString"], named := ["internal/bytealg.MaxLen", "strconv.ErrSyntax", "strconv.ErrRange", "internal/strconv.uint64pow10", "math/bits.deBruijn32tab", "math/bits.deBruijn64tab"], apart := false, laid := [("math/bits.deBruijn32tab", laid_math_bits_deBruijn32tab), ("math/bits.deBruijn64tab", laid_math_bits_deBruijn64tab), ("internal/strconv.uint64pow10", laid_internal_strconv_uint64pow10), ("strconv.ErrRange", laid_strconv_ErrRange), ("strconv.ErrSyntax", laid_strconv_ErrSyntax)] }
def NumCountsSaid : Prop := numCountsRow.holds Tryd.pinned (OpenSpec.ofChange numCountsSpec)

/-- ITS FALSE NEIGHBOUR: 'it returns false'. Refute it at one input. -/
def numCountsWrong : ChangeSpec := { name := "numCounts", fn := fun _ => fun
  | [d1, d2, d3] => { results := [.lit (.bool false)], args := [d1, d2, d3] }
  | _ => none }
def NumCountsWrongFalsely : Prop := numCountsRow.holds Tryd.pinned (OpenSpec.ofChange numCountsWrong)

/-- 'gafferlaw01.NumPairs': WHATEVER THE INPUT: true; the input reads as it did. -/
def numPairsSpec : ChangeSpec := { name := "numPairs", fn := fun _ => fun
  | [d1, d2] => { results := [.lit (.bool true)], args := [d1, d2] }
  | _ => none }
def numPairsRow : OpenClaim := { program := "ythbdgdapchplgaadoor", sum := "6673a72afd5a602083bb40a5625ec9a54120d851189d6381dc7bc0cc22e2acfd", func := "gaffer/gafferlaw01.NumPairs", spec := "numPairs", inPlace := ["math.Float64frombits", "math.Float64bits", "internal/bytealg.IndexByteString", "internal/bytealg.IndexString", "math.archFloor", "math.archTrunc"], named := ["internal/bytealg.MaxLen", "strconv.ErrSyntax", "strconv.ErrRange", "internal/strconv.uint64pow10", "math/bits.deBruijn32tab", "math/bits.deBruijn64tab"], apart := false, laid := [("math/bits.deBruijn32tab", laid_math_bits_deBruijn32tab), ("math/bits.deBruijn64tab", laid_math_bits_deBruijn64tab), ("internal/strconv.uint64pow10", laid_internal_strconv_uint64pow10), ("strconv.ErrRange", laid_strconv_ErrRange), ("strconv.ErrSyntax", laid_strconv_ErrSyntax)] }
def NumPairsSaid : Prop := numPairsRow.holds Tryd.pinned (OpenSpec.ofChange numPairsSpec)

/-- ITS FALSE NEIGHBOUR: 'it returns false'. Refute it at one input. -/
def numPairsWrong : ChangeSpec := { name := "numPairs", fn := fun _ => fun
  | [d1, d2] => { results := [.lit (.bool false)], args := [d1, d2] }
  | _ => none }
def NumPairsWrongFalsely : Prop := numPairsRow.holds Tryd.pinned (OpenSpec.ofChange numPairsWrong)

/-- 'gafferlaw01.NumNearest': WHATEVER THE INPUT: true; the input reads as it did. -/
def numNearestSpec : ChangeSpec := { name := "numNearest", fn := fun _ => fun
  | [d1, d2] => { results := [.lit (.bool true)], args := [d1, d2] }
  | _ => none }
def numNearestRow : OpenClaim := { program := "ythbdgdapchplgaadoor", sum := "6673a72afd5a602083bb40a5625ec9a54120d851189d6381dc7bc0cc22e2acfd", func := "gaffer/gafferlaw01.NumNearest", spec := "numNearest", inPlace := ["math.Float64frombits", "math.Float64bits", "internal/bytealg.IndexByteString", "internal/bytealg.IndexString", "math.archFloor", "math.archTrunc"], named := ["internal/bytealg.MaxLen", "strconv.ErrSyntax", "strconv.ErrRange", "internal/strconv.uint64pow10", "math/bits.deBruijn32tab", "math/bits.deBruijn64tab"], apart := false, laid := [("math/bits.deBruijn32tab", laid_math_bits_deBruijn32tab), ("math/bits.deBruijn64tab", laid_math_bits_deBruijn64tab), ("internal/strconv.uint64pow10", laid_internal_strconv_uint64pow10), ("strconv.ErrRange", laid_strconv_ErrRange), ("strconv.ErrSyntax", laid_strconv_ErrSyntax)] }
def NumNearestSaid : Prop := numNearestRow.holds Tryd.pinned (OpenSpec.ofChange numNearestSpec)

/-- ITS FALSE NEIGHBOUR: 'it returns false'. Refute it at one input. -/
def numNearestWrong : ChangeSpec := { name := "numNearest", fn := fun _ => fun
  | [d1, d2] => { results := [.lit (.bool false)], args := [d1, d2] }
  | _ => none }
def NumNearestWrongFalsely : Prop := numNearestRow.holds Tryd.pinned (OpenSpec.ofChange numNearestWrong)

/- THE SECOND FORM. 'bulk': how many values and letters a reading holds, each counted each time it is reached (what is shared counts as often as it is met; a slice's spare places count too). A statement '..UptoSaid' is the law's where the arguments, and the package variables that the reading takes, are together of bulk at most 1048576: NARROWER than '..Said'. Prove '..Said' where nothing that the law and all that it calls make is longer than what came in: it says more and counts as full. Else prove '..UptoSaid'. A law counts once. -/
mutual
def uptoBulk {H : Type} : DataW H → Nat
  | .lit (.string bytes) => bytes.length + 1
  | .lit _ => 1
  | .nil => 1
  | .ptr d => uptoBulk d + 1
  | .slice elems spare => uptoBulkAll elems + uptoBulkAll spare + 1
  | .agg parts => uptoBulkAll parts + 1
  | .iface _ d => uptoBulk d + 1
  | .map entries => uptoBulkEntries entries + 1
  | .held _ => 1
def uptoBulkAll {H : Type} : List (DataW H) → Nat
  | [] => 0
  | d :: r => uptoBulk d + uptoBulkAll r
def uptoBulkEntries {H : Type} : List (Lit × DataW H) → Nat
  | [] => 0
  | x :: r => uptoBulkEntry x + uptoBulkEntries r
def uptoBulkEntry {H : Type} : Lit × DataW H → Nat
  | (.string bytes, d) => bytes.length + uptoBulk d + 1
  | (_, d) => uptoBulk d + 1
 end
def uptoSmall : (H : Type) → List (DataW H) → Bool := fun _ ds => decide (uptoBulkAll ds ≤ 1048576)
def OpenSpec.upto (s : _root_.Go.ChangeSpec) : _root_.Go.OpenSpec := { _root_.Go.OpenSpec.ofChange s with cond := some uptoSmall }

/-- 'gafferlaw01.NumStands', WHERE WHAT IT READS IS OF BULK AT MOST 1048576: true; the input reads as it did. -/
def numStandsUptoRow : OpenClaim := { program := "ythbdgdapchplgaadoor", sum := "6673a72afd5a602083bb40a5625ec9a54120d851189d6381dc7bc0cc22e2acfd", func := "gaffer/gafferlaw01.NumStands", spec := "numStands", inPlace := ["math.Float64frombits", "math.Float64bits", "internal/bytealg.IndexByteString", "internal/bytealg.IndexString", "math.archFloor", "math.archTrunc"], named := ["internal/bytealg.MaxLen", "strconv.ErrSyntax", "strconv.ErrRange", "internal/strconv.uint64pow10", "math/bits.deBruijn32tab", "math/bits.deBruijn64tab"], apart := false, laid := [("math/bits.deBruijn32tab", laid_math_bits_deBruijn32tab), ("math/bits.deBruijn64tab", laid_math_bits_deBruijn64tab), ("internal/strconv.uint64pow10", laid_internal_strconv_uint64pow10), ("strconv.ErrRange", laid_strconv_ErrRange), ("strconv.ErrSyntax", laid_strconv_ErrSyntax)], narrowed := true }
def NumStandsUptoSaid : Prop := numStandsUptoRow.holds Tryd.pinned (OpenSpec.upto numStandsSpec)

/-- 'gafferlaw01.NumTurns', WHERE WHAT IT READS IS OF BULK AT MOST 1048576: true; the input reads as it did. -/
def numTurnsUptoRow : OpenClaim := { program := "ythbdgdapchplgaadoor", sum := "6673a72afd5a602083bb40a5625ec9a54120d851189d6381dc7bc0cc22e2acfd", func := "gaffer/gafferlaw01.NumTurns", spec := "numTurns", inPlace := ["math.Float64frombits", "math.Float64bits", "internal/bytealg.IndexByteString", "internal/bytealg.IndexString", "math.archFloor", "math.archTrunc"], named := ["internal/bytealg.MaxLen", "strconv.ErrSyntax", "strconv.ErrRange", "internal/strconv.uint64pow10", "math/bits.deBruijn32tab", "math/bits.deBruijn64tab"], apart := false, laid := [("math/bits.deBruijn32tab", laid_math_bits_deBruijn32tab), ("math/bits.deBruijn64tab", laid_math_bits_deBruijn64tab), ("internal/strconv.uint64pow10", laid_internal_strconv_uint64pow10), ("strconv.ErrRange", laid_strconv_ErrRange), ("strconv.ErrSyntax", laid_strconv_ErrSyntax)], narrowed := true }
def NumTurnsUptoSaid : Prop := numTurnsUptoRow.holds Tryd.pinned (OpenSpec.upto numTurnsSpec)

/-- 'gafferlaw01.NumSterbenz', WHERE WHAT IT READS IS OF BULK AT MOST 1048576: true; the input reads as it did. -/
def numSterbenzUptoRow : OpenClaim := { program := "ythbdgdapchplgaadoor", sum := "6673a72afd5a602083bb40a5625ec9a54120d851189d6381dc7bc0cc22e2acfd", func := "gaffer/gafferlaw01.NumSterbenz", spec := "numSterbenz", inPlace := ["math.Float64frombits", "math.Float64bits", "internal/bytealg.IndexByteString", "internal/bytealg.IndexString", "math.archFloor", "math.archTrunc"], named := ["internal/bytealg.MaxLen", "strconv.ErrSyntax", "strconv.ErrRange", "internal/strconv.uint64pow10", "math/bits.deBruijn32tab", "math/bits.deBruijn64tab"], apart := false, laid := [("math/bits.deBruijn32tab", laid_math_bits_deBruijn32tab), ("math/bits.deBruijn64tab", laid_math_bits_deBruijn64tab), ("internal/strconv.uint64pow10", laid_internal_strconv_uint64pow10), ("strconv.ErrRange", laid_strconv_ErrRange), ("strconv.ErrSyntax", laid_strconv_ErrSyntax)], narrowed := true }
def NumSterbenzUptoSaid : Prop := numSterbenzUptoRow.holds Tryd.pinned (OpenSpec.upto numSterbenzSpec)

/-- 'gafferlaw01.NumRises', WHERE WHAT IT READS IS OF BULK AT MOST 1048576: true; the input reads as it did. -/
def numRisesUptoRow : OpenClaim := { program := "ythbdgdapchplgaadoor", sum := "6673a72afd5a602083bb40a5625ec9a54120d851189d6381dc7bc0cc22e2acfd", func := "gaffer/gafferlaw01.NumRises", spec := "numRises", inPlace := ["math.Float64frombits", "math.Float64bits", "internal/bytealg.IndexByteString", "internal/bytealg.IndexString", "math.archFloor", "math.archTrunc"], named := ["internal/bytealg.MaxLen", "strconv.ErrSyntax", "strconv.ErrRange", "internal/strconv.uint64pow10", "math/bits.deBruijn32tab", "math/bits.deBruijn64tab"], apart := false, laid := [("math/bits.deBruijn32tab", laid_math_bits_deBruijn32tab), ("math/bits.deBruijn64tab", laid_math_bits_deBruijn64tab), ("internal/strconv.uint64pow10", laid_internal_strconv_uint64pow10), ("strconv.ErrRange", laid_strconv_ErrRange), ("strconv.ErrSyntax", laid_strconv_ErrSyntax)], narrowed := true }
def NumRisesUptoSaid : Prop := numRisesUptoRow.holds Tryd.pinned (OpenSpec.upto numRisesSpec)

/-- 'gafferlaw01.NumLines', WHERE WHAT IT READS IS OF BULK AT MOST 1048576: true; the input reads as it did. -/
def numLinesUptoRow : OpenClaim := { program := "ythbdgdapchplgaadoor", sum := "6673a72afd5a602083bb40a5625ec9a54120d851189d6381dc7bc0cc22e2acfd", func := "gaffer/gafferlaw01.NumLines", spec := "numLines", inPlace := ["math.Float64frombits", "math.Float64bits", "internal/bytealg.IndexByteString", "internal/bytealg.IndexString", "math.archFloor", "math.archTrunc"], named := ["internal/bytealg.MaxLen", "strconv.ErrSyntax", "strconv.ErrRange", "internal/strconv.uint64pow10", "math/bits.deBruijn32tab", "math/bits.deBruijn64tab"], apart := false, laid := [("math/bits.deBruijn32tab", laid_math_bits_deBruijn32tab), ("math/bits.deBruijn64tab", laid_math_bits_deBruijn64tab), ("internal/strconv.uint64pow10", laid_internal_strconv_uint64pow10), ("strconv.ErrRange", laid_strconv_ErrRange), ("strconv.ErrSyntax", laid_strconv_ErrSyntax)], narrowed := true }
def NumLinesUptoSaid : Prop := numLinesUptoRow.holds Tryd.pinned (OpenSpec.upto numLinesSpec)

/-- 'gafferlaw01.NumFloors', WHERE WHAT IT READS IS OF BULK AT MOST 1048576: true; the input reads as it did. -/
def numFloorsUptoRow : OpenClaim := { program := "ythbdgdapchplgaadoor", sum := "6673a72afd5a602083bb40a5625ec9a54120d851189d6381dc7bc0cc22e2acfd", func := "gaffer/gafferlaw01.NumFloors", spec := "numFloors", inPlace := ["math.Float64frombits", "math.archFloor", "math.Float64bits", "math.archTrunc", "internal/bytealg.IndexByteString", "internal/bytealg.IndexString"], named := ["internal/bytealg.MaxLen", "strconv.ErrSyntax", "strconv.ErrRange", "internal/strconv.uint64pow10", "math/bits.deBruijn32tab", "math/bits.deBruijn64tab"], apart := false, laid := [("math/bits.deBruijn32tab", laid_math_bits_deBruijn32tab), ("math/bits.deBruijn64tab", laid_math_bits_deBruijn64tab), ("internal/strconv.uint64pow10", laid_internal_strconv_uint64pow10), ("strconv.ErrRange", laid_strconv_ErrRange), ("strconv.ErrSyntax", laid_strconv_ErrSyntax)], narrowed := true }
def NumFloorsUptoSaid : Prop := numFloorsUptoRow.holds Tryd.pinned (OpenSpec.upto numFloorsSpec)

/-- 'gafferlaw01.NumSigns', WHERE WHAT IT READS IS OF BULK AT MOST 1048576: true; the input reads as it did. -/
def numSignsUptoRow : OpenClaim := { program := "ythbdgdapchplgaadoor", sum := "6673a72afd5a602083bb40a5625ec9a54120d851189d6381dc7bc0cc22e2acfd", func := "gaffer/gafferlaw01.NumSigns", spec := "numSigns", inPlace := ["math.Float64frombits", "math.Float64bits", "internal/bytealg.IndexByteString", "internal/bytealg.IndexString", "math.archFloor", "math.archTrunc"], named := ["internal/bytealg.MaxLen", "strconv.ErrSyntax", "strconv.ErrRange", "internal/strconv.uint64pow10", "math/bits.deBruijn32tab", "math/bits.deBruijn64tab"], apart := false, laid := [("math/bits.deBruijn32tab", laid_math_bits_deBruijn32tab), ("math/bits.deBruijn64tab", laid_math_bits_deBruijn64tab), ("internal/strconv.uint64pow10", laid_internal_strconv_uint64pow10), ("strconv.ErrRange", laid_strconv_ErrRange), ("strconv.ErrSyntax", laid_strconv_ErrSyntax)], narrowed := true }
def NumSignsUptoSaid : Prop := numSignsUptoRow.holds Tryd.pinned (OpenSpec.upto numSignsSpec)

/-- 'gafferlaw01.NumScales', WHERE WHAT IT READS IS OF BULK AT MOST 1048576: true; the input reads as it did. -/
def numScalesUptoRow : OpenClaim := { program := "ythbdgdapchplgaadoor", sum := "6673a72afd5a602083bb40a5625ec9a54120d851189d6381dc7bc0cc22e2acfd", func := "gaffer/gafferlaw01.NumScales", spec := "numScales", inPlace := ["math.Float64frombits", "math.Float64bits", "internal/bytealg.IndexByteString", "internal/bytealg.IndexString", "math.archFloor", "math.archTrunc"], named := ["internal/bytealg.MaxLen", "strconv.ErrSyntax", "strconv.ErrRange", "internal/strconv.uint64pow10", "math/bits.deBruijn32tab", "math/bits.deBruijn64tab"], apart := false, laid := [("math/bits.deBruijn32tab", laid_math_bits_deBruijn32tab), ("math/bits.deBruijn64tab", laid_math_bits_deBruijn64tab), ("internal/strconv.uint64pow10", laid_internal_strconv_uint64pow10), ("strconv.ErrRange", laid_strconv_ErrRange), ("strconv.ErrSyntax", laid_strconv_ErrSyntax)], narrowed := true }
def NumScalesUptoSaid : Prop := numScalesUptoRow.holds Tryd.pinned (OpenSpec.upto numScalesSpec)

/-- 'gafferlaw01.NumCounts', WHERE WHAT IT READS IS OF BULK AT MOST 1048576: true; the input reads as it did. -/
def numCountsUptoRow : OpenClaim := { program := "ythbdgdapchplgaadoor", sum := "6673a72afd5a602083bb40a5625ec9a54120d851189d6381dc7bc0cc22e2acfd", func := "gaffer/gafferlaw01.NumCounts", spec := "numCounts", inPlace := ["math.Float64frombits", "math.archFloor", "math.Float64bits", "math.archTrunc", "internal/bytealg.IndexByteString", "internal/bytealg.IndexString"], named := ["internal/bytealg.MaxLen", "strconv.ErrSyntax", "strconv.ErrRange", "internal/strconv.uint64pow10", "math/bits.deBruijn32tab", "math/bits.deBruijn64tab"], apart := false, laid := [("math/bits.deBruijn32tab", laid_math_bits_deBruijn32tab), ("math/bits.deBruijn64tab", laid_math_bits_deBruijn64tab), ("internal/strconv.uint64pow10", laid_internal_strconv_uint64pow10), ("strconv.ErrRange", laid_strconv_ErrRange), ("strconv.ErrSyntax", laid_strconv_ErrSyntax)], narrowed := true }
def NumCountsUptoSaid : Prop := numCountsUptoRow.holds Tryd.pinned (OpenSpec.upto numCountsSpec)

/-- 'gafferlaw01.NumPairs', WHERE WHAT IT READS IS OF BULK AT MOST 1048576: true; the input reads as it did. -/
def numPairsUptoRow : OpenClaim := { program := "ythbdgdapchplgaadoor", sum := "6673a72afd5a602083bb40a5625ec9a54120d851189d6381dc7bc0cc22e2acfd", func := "gaffer/gafferlaw01.NumPairs", spec := "numPairs", inPlace := ["math.Float64frombits", "math.Float64bits", "internal/bytealg.IndexByteString", "internal/bytealg.IndexString", "math.archFloor", "math.archTrunc"], named := ["internal/bytealg.MaxLen", "strconv.ErrSyntax", "strconv.ErrRange", "internal/strconv.uint64pow10", "math/bits.deBruijn32tab", "math/bits.deBruijn64tab"], apart := false, laid := [("math/bits.deBruijn32tab", laid_math_bits_deBruijn32tab), ("math/bits.deBruijn64tab", laid_math_bits_deBruijn64tab), ("internal/strconv.uint64pow10", laid_internal_strconv_uint64pow10), ("strconv.ErrRange", laid_strconv_ErrRange), ("strconv.ErrSyntax", laid_strconv_ErrSyntax)], narrowed := true }
def NumPairsUptoSaid : Prop := numPairsUptoRow.holds Tryd.pinned (OpenSpec.upto numPairsSpec)

/-- 'gafferlaw01.NumNearest', WHERE WHAT IT READS IS OF BULK AT MOST 1048576: true; the input reads as it did. -/
def numNearestUptoRow : OpenClaim := { program := "ythbdgdapchplgaadoor", sum := "6673a72afd5a602083bb40a5625ec9a54120d851189d6381dc7bc0cc22e2acfd", func := "gaffer/gafferlaw01.NumNearest", spec := "numNearest", inPlace := ["math.Float64frombits", "math.Float64bits", "internal/bytealg.IndexByteString", "internal/bytealg.IndexString", "math.archFloor", "math.archTrunc"], named := ["internal/bytealg.MaxLen", "strconv.ErrSyntax", "strconv.ErrRange", "internal/strconv.uint64pow10", "math/bits.deBruijn32tab", "math/bits.deBruijn64tab"], apart := false, laid := [("math/bits.deBruijn32tab", laid_math_bits_deBruijn32tab), ("math/bits.deBruijn64tab", laid_math_bits_deBruijn64tab), ("internal/strconv.uint64pow10", laid_internal_strconv_uint64pow10), ("strconv.ErrRange", laid_strconv_ErrRange), ("strconv.ErrSyntax", laid_strconv_ErrSyntax)], narrowed := true }
def NumNearestUptoSaid : Prop := numNearestUptoRow.holds Tryd.pinned (OpenSpec.upto numNearestSpec)

end Rows
end Go.Proofs.YthbdgdapchplgaaDoor
