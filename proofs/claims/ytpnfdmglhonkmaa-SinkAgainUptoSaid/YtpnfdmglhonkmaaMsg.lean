/- Messages, their fields, what layer 7 checks, lays and reads: plain functions, no program in sight. -/
import Derived.Test.YtpnfdmglhonkmaaMore
import Derived.Test.YtpnfdmglhonkmaaPlain
set_option maxRecDepth 100000
namespace Go.Proofs.Ytpnfdmglhonkmaa
open Go.RowKit

structure Mg where
  kind : Int
  sess : Int
  num : Int
  job : Int
  badge : Int
  idx : Int
  cnt : Int
  code : Int
  bits : Int
  text : ByteArray
  prog : ByteArray
deriving DecidableEq

def Mg.none (k : Int) : Mg := ⟨k, 0, 0, 0, 0, 0, 0, 0, 0, ⟨#[]⟩, ⟨#[]⟩⟩

abbrev Mg.cells (m : Mg) : Array Value := #[.int .i64 m.kind, .int .i64 m.sess, .int .i64 m.num, .int .i64 m.job, .int .i64 m.badge, .int .i64 m.idx, .int .i64 m.cnt, .int .i64 m.code, .int .u64 m.bits, .string m.text, .string m.prog]
abbrev Mg.val (m : Mg) : Value := .agg m.cells

/-- its numbers are what the types can hold -/
structure Mg.Fit (m : Mg) : Prop where
  kind : -9223372036854775808 ≤ m.kind ∧ m.kind ≤ 9223372036854775807
  sess : -9223372036854775808 ≤ m.sess ∧ m.sess ≤ 9223372036854775807
  num : -9223372036854775808 ≤ m.num ∧ m.num ≤ 9223372036854775807
  job : -9223372036854775808 ≤ m.job ∧ m.job ≤ 9223372036854775807
  badge : -9223372036854775808 ≤ m.badge ∧ m.badge ≤ 9223372036854775807
  idx : -9223372036854775808 ≤ m.idx ∧ m.idx ≤ 9223372036854775807
  cnt : -9223372036854775808 ≤ m.cnt ∧ m.cnt ≤ 9223372036854775807
  code : -9223372036854775808 ≤ m.code ∧ m.code ≤ 9223372036854775807
  bits : 0 ≤ m.bits ∧ m.bits ≤ 18446744073709551615
  text : m.text.size < 1073741824
  prog : m.prog.size < 1073741824

/-- the fields: a whole number (at the cell k) from lo to hi, a text (9: Text, 10: Program) of lo to hi bytes, the result -/
inductive Fd where
  | whole (k : Nat) (lo hi : Int)
  | text (k : Nat) (lo hi : Int)
  | result
deriving DecidableEq

def Mg.int (m : Mg) : Nat → Int
  | 1 => m.sess
  | 2 => m.num
  | 3 => m.job
  | 4 => m.badge
  | 5 => m.idx
  | _ => m.cnt
def Mg.str (m : Mg) : Nat → ByteArray
  | 9 => m.text
  | _ => m.prog
def Mg.setInt (m : Mg) (x : Int) : Nat → Mg
  | 1 => { m with sess := x }
  | 2 => { m with num := x }
  | 3 => { m with job := x }
  | 4 => { m with badge := x }
  | 5 => { m with idx := x }
  | _ => { m with cnt := x }
def Mg.setStr (m : Mg) (x : ByteArray) : Nat → Mg
  | 9 => { m with text := x }
  | _ => { m with prog := x }

/-- a float's bits with one NaN -/
def canon (a : Int) : Int := if 9218868437227405312 < a % 9223372036854775808 then 9221120237041090561 else a

def Fd.may (f : Fd) (m : Mg) : Bool :=
  match f with
  | .whole k lo hi => decide (lo ≤ m.int k) && decide (m.int k ≤ hi)
  | .text k lo hi => decide (lo ≤ (m.str k).size) && decide (((m.str k).size : Int) ≤ hi)
  | .result => decide (m.code = 0) && decide (canon m.bits = m.bits) || decide (0 < m.code) && decide (m.code ≤ 7) && decide (m.bits = 0)

def Fd.lay (f : Fd) (m : Mg) : List UInt8 :=
  match f with
  | .whole k _ _ => vb (m.int k).toNat
  | .text k _ _ => tb (m.str k).data.toList
  | .result => vb m.code.toNat ++ bb m.bits.toNat

/-- a reader that stands at p with the fault e, and a message under way: behind the field -/
def Fd.read (f : Fd) (b : ByteArray) (s : Mg × Nat × Int) : Mg × Nat × Int :=
  match f with
  | .whole k _ _ =>
    let r := rdrStep 0 (upR (numR (b.data.toList.drop s.2.1) 1099511627776 21)) s.2.1 s.2.2
    (s.1.setInt r.1 k, r.2)
  | .text k _ hi =>
    let r := rdrStep ⟨#[]⟩ (textR (b.data.toList.drop s.2.1) hi.toNat) s.2.1 s.2.2
    (s.1.setStr r.1 k, r.2)
  | .result =>
    let r := rdrStep 0 (upR (numR (b.data.toList.drop s.2.1) 7 21)) s.2.1 s.2.2
    let q := rdrStep 0 (bitsR (b.data.toList.drop r.2.1)) r.2.1 r.2.2
    ({ s.1 with code := r.1, bits := q.1 }, q.2)

abbrev fS : Fd := .whole 1 1 1099511627776
abbrev fN : Fd := .whole 2 1 1099511627776
abbrev fJ : Fd := .whole 3 1 8
abbrev fB : Fd := .whole 4 1 1099511627776
abbrev fI (most : Int) : Fd := .whole 5 0 most
abbrev fC (most : Int) : Fd := .whole 6 0 most
abbrev fT : Fd := .text 9 0 32
abbrev fP : Fd := .text 10 1 1024

/-- the fields of a kind, in the order of their bytes -/
def fieldsOf (kind : Nat) : List Fd :=
  match kind with
  | 1 => []
  | 3 => [fS, fN, fB]
  | 4 => [fS, fN, fB, fC 32, .result]
  | 5 => [fB, fI 31, fT]
  | 6 => [fJ, fB, fI 16, fT]
  | 7 => [fS]
  | 9 => [fS, fN, fJ, fB, fP]
  | 14 => [fB, fC 32]
  | 15 => [fJ, fB, fC 17]
  | 16 => [fJ, fB]
  | _ => [fS, fN]

/-- which fields a kind names, as letters -/
def wordOf (kind : Nat) : List UInt8 :=
  match kind with
  | 2 => [115, 110]
  | 3 => [115, 110, 98]
  | 4 => [115, 110, 98, 99, 114]
  | 5 => [98, 105, 116]
  | 6 => [106, 98, 105, 116]
  | 7 => [115]
  | 8 => [115, 110]
  | 9 => [115, 110, 106, 98, 112]
  | 10 => [115, 110]
  | 11 => [115, 110]
  | 12 => [115, 110]
  | 13 => [115, 110]
  | 14 => [98, 99]
  | 15 => [106, 98, 99]
  | 16 => [106, 98]
  | _ => []

/-- n with a field of m -/
def Mg.with1 (m : Mg) (n : Mg) (c : UInt8) : Mg :=
  match c.toNat with
  | 115 => { n with sess := m.sess }
  | 110 => { n with num := m.num }
  | 106 => { n with job := m.job }
  | 98 => { n with badge := m.badge }
  | 105 => { n with idx := m.idx }
  | 99 => { n with cnt := m.cnt }
  | 114 => { n with code := m.code, bits := m.bits }
  | 116 => { n with text := m.text }
  | 112 => { n with prog := m.prog }
  | _ => n

/-- a message with just the fields that its kind names -/
def Mg.named (m : Mg) : Mg := (wordOf m.kind.toNat).foldl m.with1 (Mg.none m.kind)

/-- may a message be? -/
def Mg.check (m : Mg) : Int :=
  if m.kind < 1 ∨ 16 < m.kind then 70
  else if m.named = m ∧ ¬ (m.kind = 6 ∧ m.idx = 0 ∧ m.text ≠ ⟨#[]⟩) ∧ (fieldsOf m.kind.toNat).all (fun f => f.may m) = true then 0 else 71

/-- its bytes -/
def Mg.bytes (m : Mg) : List UInt8 := vb m.kind.toNat ++ ((fieldsOf m.kind.toNat).map fun f => f.lay m).flatten

/-- the kind, and then the fields one by one -/
def readKind (b : ByteArray) : Mg × Nat × Int :=
  let r := rdrStep (0 : Int) (upR (numR (b.data.toList.drop 0) 16 21)) 0 0
  (Mg.none r.1, r.2)
def readAll (b : ByteArray) : Mg × Nat × Int := (fieldsOf (readKind b).1.kind.toNat).foldl (fun s f => f.read b s) (readKind b)

/-- the message of bytes -/
def decode (b : ByteArray) : Mg × Int :=
  if 2048 < b.size then (Mg.none 0, 73) else
  let s := readAll b
  if endE b s.2.1 s.2.2 ≠ 0 ∨ s.1.check ≠ 0 then (Mg.none 0, 72) else (s.1, 0)

end Go.Proofs.Ytpnfdmglhonkmaa
