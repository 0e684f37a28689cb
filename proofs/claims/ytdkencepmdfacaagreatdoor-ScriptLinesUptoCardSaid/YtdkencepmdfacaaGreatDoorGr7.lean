/- Arguments that are steps and a config, opened to their cells. The variables that the rows list, and a world that holds them. The document's package of numbers: how two stand (contracts of isNaN, rank, Order, Equal, Less). -/
import Derived.Test.YtdkencepmdfacaaGreatDoorSd
import Derived.Test.YtdkencepmdfacaaGreatDoorGr5
import Derived.Test.YtdkencepmdfacaaGreatDoorRows
import Derived.ProofKit
import Derived.OpenShut
import Derived.Test.YtdkencepmdfacaaGreatDoorGr4
import Derived.Stop.LaidErr
import Derived.Test.YtdkencepmdfacaaGreatDoorShelf
import Derived.Laws.RangeAny
import Derived.Lib.OthersKept
import Derived.Deep.LoopGhost
import Derived.Lib.Strings
import Derived.Lib.Walk
import Derived.Lib.ConvBytes
import Derived.Lib.ParseIntBMem
import Derived.Laws.Strings3
import Derived.Laws.Closers25
import Derived.Laws.Closers25b
import Derived.BigCall
import Derived.BigGuard
import Derived.Test.YtdkencepmdfacaaGreatDoorCards
import Derived.Test.YtdkencepmdfacaaGreatDoorTie
import Derived.Deep.DeepHandedRow
import Derived.Deep.DeepWitnessRowRef
import Derived.Deep.DeepLaidRun
import Derived.Lib.LaidTab
import Derived.BigQuiet
import Derived.Deep.QuietTactic
set_option maxRecDepth 100000
namespace Go.Proofs.YtdkencepmdfacaaGreatDoor
open Go.RowKit

def Stp.str (s : Stp) : ByteArray := ⟨s.text.toArray⟩

/-- a step in memory -/
def StepAt (w : World) (b off : Nat) (s : Stp) : Prop :=
  w.cell? ⟨b, off, none⟩ = some (.int .i64 s.kind) ∧ w.cell? ⟨b, off + 1, none⟩ = some (.int .i64 s.a) ∧ w.cell? ⟨b, off + 2, none⟩ = some (.int .i64 s.k) ∧ w.cell? ⟨b, off + 3, none⟩ = some (.int .i64 s.x) ∧ w.cell? ⟨b, off + 4, none⟩ = some (.string s.str)
/-- its numbers are ints -/
def Stp.W64 (s : Stp) : Prop := w64 s.kind ∧ w64 s.a ∧ w64 s.k ∧ w64 s.x
/-- steps in memory, in a block below B -/
def StepsIn (w : World) (B : Nat) (A : Option Addr) (l : List Stp) : Prop :=
  0 < l.length → ∃ b off, A = some ⟨b, off, none⟩ ∧ b < B ∧ ∀ (i : Nat) (x : Stp), l[i]? = some x → StepAt w b (off + i * 5) x ∧ x.W64
theorem StepAt.keep {w w' : World} {B b off : Nat} {x : Stp} (h : StepAt w b off x) (hb : Below B w w') (hlt : b < B) : StepAt w' b off x :=
  have key : ∀ (j : Nat) (v : Value), w.cell? ⟨b, j, none⟩ = some v → w'.cell? ⟨b, j, none⟩ = some v := fun j v hj => (hb.cell (p := ⟨b, j, none⟩) hlt).trans hj
  ⟨key _ _ h.1, key _ _ h.2.1, key _ _ h.2.2.1, key _ _ h.2.2.2.1, key _ _ h.2.2.2.2⟩
theorem StepsIn.keep {w w' : World} {B : Nat} {A : Option Addr} {l : List Stp} (h : StepsIn w B A l) (hb : Below B w w') : StepsIn w' B A l := fun hn => by
  obtain ⟨b, off, e, hlt, hc⟩ := h hn
  exact ⟨b, off, e, hlt, fun i x hx => ⟨((hc i x hx).1).keep hb hlt, (hc i x hx).2⟩⟩
theorem StepsIn.more {w : World} {B B' : Nat} {A : Option Addr} {l : List Stp} (h : StepsIn w B A l) (hB : B ≤ B') : StepsIn w B' A l := fun hn => by
  obtain ⟨b, off, e, hlt, hc⟩ := h hn
  exact ⟨b, off, e, by omega, hc⟩
theorem str_list2 (x : ByteArray) : (⟨x.data.toList.toArray⟩ : ByteArray) = x := ByteArray.ext (by simp)
open Go.ChangeShapes Go.WideShapes Go.Deep
theorem choose_stp {Q : Nat → Stp → Prop} : ∀ n : Nat, (∀ i, i < n → ∃ q, Q i q) → ∃ f : Nat → Stp, ∀ i, i < n → Q i (f i) := fun n h =>
  ⟨fun i => if hi : i < n then Classical.choose (h i hi) else default, fun i hi => by simp only [hi, dif_pos]; exact Classical.choose_spec (h i hi)⟩
theorem cells_stp : Tryz.prog.cellsOf 3 = 1 ∧ Tryz.prog.cellsOf 23 = 9 := by
  refine ⟨?_, ?_⟩ <;> kernel_rfl
theorem w64_of {n : Int} (h : (Lit.int .i64 n).wf = true) : w64 n := by
  unfold w64
  simpa [Lit.wf, IntKind.min, IntKind.max, IntKind.signed, IntKind.bits] using h
theorem open_steps {H : Type} {enc : TypeId × Value → H} {W : World} {base fuel : Nat} {c1 : Value} {y : DataW H × List MemPlace} (h : DataW.trod enc Tryz.prog W base (fun _ => true) true fuel 24 [c1] = some y) :
    ∃ (A : Option Addr) (l : List Stp) (cap : Nat), c1 = .slice A l.length cap ∧ StepsIn W W.heap.size A l := by
  rcases open_slice_fields Tryz.underlying24 Tryz.underlying34 (by kernel_rfl) (by kernel_rfl) h with ⟨hcs, hx⟩ | ⟨a, len, cap, m, D, Pl, hcs, hb, hl, hm, hmm, hx, hcell⟩
  · simp at hcs
    exact ⟨none, [], 0, hcs, fun h => absurd h (by simp)⟩
  · simp at hcs
    have hlm : len ≤ m := by rw [hmm]; split <;> omega
    have each : ∀ i, i < len → ∃ q : Stp, W.cell? (a.add (i * 5)) = some (.int .i64 q.kind) ∧ W.cell? (a.add (i * 5 + 1)) = some (.int .i64 q.a) ∧ W.cell? (a.add (i * 5 + 2)) = some (.int .i64 q.k) ∧ W.cell? (a.add (i * 5 + 3)) = some (.int .i64 q.x) ∧ W.cell? (a.add (i * 5 + 4)) = some (.string q.str) ∧ q.W64 := by
      intro i hi
      obtain ⟨ys, k, hD, _, hlen, hf⟩ := hcell i (by omega)
      obtain ⟨u0, y0, g0, _, t0⟩ := hf 0 _ rfl
      obtain ⟨u1, y1, g1, _, t1⟩ := hf 1 _ rfl
      obtain ⟨u2, y2, g2, _, t2⟩ := hf 2 _ rfl
      obtain ⟨u3, y3, g3, _, t3⟩ := hf 3 _ rfl
      obtain ⟨u4, y4, g4, _, t4⟩ := hf 4 _ rfl
      obtain ⟨x0, e0, _, w0⟩ := DataW.trod_int Tryz.underlying3 t0
      obtain ⟨x1, e1, _, w1⟩ := DataW.trod_int Tryz.underlying3 t1
      obtain ⟨x2, e2, _, w2⟩ := DataW.trod_int Tryz.underlying3 t2
      obtain ⟨x3, e3, _, w3⟩ := DataW.trod_int Tryz.underlying3 t3
      obtain ⟨x4, e4, _, w4⟩ := DataW.trod_string Tryz.underlying9 t4
      simp at e0 e1 e2 e3 e4
      subst e0 e1 e2 e3 e4
      refine ⟨⟨x0, x1, x2, x3, x4.data.toList⟩, g0, g1, g2, g3, ?_, w64_of w0, w64_of w1, w64_of w2, w64_of w3⟩
      rw [show (Stp.mk x0 x1 x2 x3 x4.data.toList).str = x4 from str_list2 x4]
      exact g4
    obtain ⟨Q, hQ⟩ := choose_stp len each
    refine ⟨some a, (List.range len).map Q, cap, by rw [hcs]; simp, fun hpos => ?_⟩
    have hn0 : 0 < len := by simpa using hpos
    have h0 := (hQ 0 hn0).1
    rw [show a.add (0 * 5) = a from rfl] at h0
    have ha := addr_plain h0
    refine ⟨a.block, a.off, by rw [← ha], World.block_lt_of_cell? W a h0, fun i x hx => ?_⟩
    have hi : i < len := by
      have := (List.getElem?_eq_some_iff.1 hx).1
      simpa using this
    have hxe : x = Q i := by
      simp [hi] at hx
      exact hx.symm
    subst hxe
    obtain ⟨q0, q1, q2, q3, q4, q5⟩ := hQ i hi
    rw [ha, add_plain] at q0 q1 q2 q3 q4
    exact ⟨⟨q0, q1, q2, q3, q4⟩, q5⟩
/-- a config as a value -/
def Cfg.val (c : Cfg) : Value := .agg #[.int .i64 c.ru, .int .i64 c.le, .int .i64 c.re, .int .i64 c.att, .int .i64 c.wi, .int .i64 c.qu, .int .i64 c.bl, .int .i64 c.ev, .int .i64 c.ha]
theorem open_cfg {H : Type} {enc : TypeId × Value → H} {W : World} {base : Nat} {v : Value} {d : DataW H} {ps : List MemPlace}
    (hv : Value.okWide Tryz.prog W .any base 23 v) (h : DataW.Trod enc Tryz.prog W 0 (fun _ => true) true 23 v d ps) :
    ∃ c : Cfg, v = c.val ∧ ∀ n ∈ c.nums, w64 n := by
  obtain ⟨ci, cm⟩ := cells_stp
  obtain ⟨cells, rfl, hsz⟩ := okWide_struct Tryz.underlying23 hv
  rw [cm] at hsz
  obtain ⟨l⟩ := cells
  match l, hsz with
  | [c0, c1, c2, c3, c4, c5, c6, c7, c8], _ =>
    obtain ⟨fuel, hf⟩ := h
    obtain ⟨xs, n, _, hx, _, hlen, hg⟩ := DataW.trod_struct Tryz.underlying23 hf
    match xs, hlen with
    | [y0, y1, y2, y3, y4, y5, y6, y7, y8], _ =>
      have t0 := hg 0 _ rfl
      have t1 := hg 1 _ rfl
      have t2 := hg 2 _ rfl
      have t3 := hg 3 _ rfl
      have t4 := hg 4 _ rfl
      have t5 := hg 5 _ rfl
      have t6 := hg 6 _ rfl
      have t7 := hg 7 _ rfl
      have t8 := hg 8 _ rfl
      simp [ci, Value.cells] at t0 t1 t2 t3 t4 t5 t6 t7 t8
      obtain ⟨x0, e0, z0, w0⟩ := DataW.trod_int Tryz.underlying3 t0
      obtain ⟨x1, e1, z1, w1⟩ := DataW.trod_int Tryz.underlying3 t1
      obtain ⟨x2, e2, z2, w2⟩ := DataW.trod_int Tryz.underlying3 t2
      obtain ⟨x3, e3, z3, w3⟩ := DataW.trod_int Tryz.underlying3 t3
      obtain ⟨x4, e4, z4, w4⟩ := DataW.trod_int Tryz.underlying3 t4
      obtain ⟨x5, e5, z5, w5⟩ := DataW.trod_int Tryz.underlying3 t5
      obtain ⟨x6, e6, z6, w6⟩ := DataW.trod_int Tryz.underlying3 t6
      obtain ⟨x7, e7, z7, w7⟩ := DataW.trod_int Tryz.underlying3 t7
      obtain ⟨x8, e8, z8, w8⟩ := DataW.trod_int Tryz.underlying3 t8
      simp at e0 e1 e2 e3 e4 e5 e6 e7 e8
      subst e0 e1 e2 e3 e4 e5 e6 e7 e8
      refine ⟨⟨x0, x1, x2, x3, x4, x5, x6, x7, x8⟩, rfl, fun m hm => ?_⟩
      unfold Cfg.nums at hm
      simp at hm
      rcases hm with rfl | rfl | rfl | rfl | rfl | rfl | rfl | rfl | rfl
      all_goals first | exact w64_of w0 | exact w64_of w1 | exact w64_of w2 | exact w64_of w3 | exact w64_of w4 | exact w64_of w5 | exact w64_of w6 | exact w64_of w7 | exact w64_of w8
end Go.Proofs.YtdkencepmdfacaaGreatDoor

set_option maxRecDepth 100000
namespace Go.Proofs.YtdkencepmdfacaaGreatDoor
open Go.RowKit Go.WideShapes Go.ChangeShapes Go.ChangeAt Ieee

/-! ### the variables -/
abbrev laidOf : List (String × DataW Unit) := [("math/bits.deBruijn32tab", Rows.laid_math_bits_deBruijn32tab), ("math/bits.deBruijn64tab", Rows.laid_math_bits_deBruijn64tab), ("internal/strconv.uint64pow10", Rows.laid_internal_strconv_uint64pow10), ("unicode/utf8.acceptRanges", Rows.laid_unicode_utf8_acceptRanges), ("strconv.ErrRange", Rows.laid_strconv_ErrRange), ("strconv.ErrSyntax", Rows.laid_strconv_ErrSyntax), ("unicode/utf8.first", Rows.laid_unicode_utf8_first)]
theorem gTab : Tryz.prog.globalNamed "math/bits.deBruijn64tab" = some 3 := by kernel_rfl
theorem gTabType : (Tryz.prog.globals[3]?).map (·.type) = some 172 := by kernel_rfl
theorem cells64 : Tryz.prog.cellsOf 172 = 64 := by kernel_rfl
theorem cells8 : Tryz.prog.cellsOf 5 = 1 := by kernel_rfl
def tab64 : List Int := [0, 1, 56, 2, 57, 49, 28, 3, 61, 58, 42, 50, 38, 29, 17, 4, 62, 47, 59, 36, 45, 43, 51, 22, 53, 39, 33, 30, 24, 18, 12, 5, 63, 55, 48, 27, 60, 41, 37, 16, 46, 35, 44, 21, 52, 32, 23, 11, 54, 26, 40, 15, 34, 20, 31, 10, 25, 14, 19, 9, 13, 8, 7, 6]
/-! ### a world that holds them -/
def tab32 : List Int := [0, 1, 28, 2, 29, 14, 24, 3, 30, 22, 20, 15, 25, 17, 4, 8, 31, 27, 13, 23, 21, 19, 16, 7, 26, 12, 18, 6, 11, 5, 10, 9]
def pow10s : List Int := [1, 10, 100, 1000, 10000, 100000, 1000000, 10000000, 100000000, 1000000000, 10000000000, 100000000000, 1000000000000, 10000000000000, 100000000000000, 1000000000000000, 10000000000000000, 100000000000000000, 1000000000000000000, 10000000000000000000]
def setCells (cs : Array Value) : Obj → Obj
  | .cells _ t frozen => .cells cs t frozen
  | o => o
def ranges : List Int := [128, 191, 160, 191, 128, 159, 144, 191, 128, 143, 0, 0, 0, 0, 0, 0, 0, 0, 0, 0, 0, 0, 0, 0, 0, 0, 0, 0, 0, 0, 0, 0]
noncomputable def low : Nat := (World.holding Tryz.prog default ⟨#[], #[], []⟩).heap.size
noncomputable def laidWorld (os : Os) : World :=
  let w0 := World.holding Tryz.prog os ⟨#[.cells #[.string { data := #[118, 97, 108, 117, 101, 32, 111, 117, 116, 32, 111, 102, 32, 114, 97, 110, 103, 101] }] 214, .cells #[.string { data := #[105, 110, 118, 97, 108, 105, 100, 32, 115, 121, 110, 116, 97, 120] }] 214], #[], []⟩
  { w0 with heap := ((((((w0.heap.modify 8 (setCells (tab32.map fun z => Value.int .u8 z).toArray)).modify 3 (setCells (tab64.map fun z => Value.int .u8 z).toArray)).modify 1 (setCells (pow10s.map fun z => Value.int .u64 z).toArray)).modify 7
      (setCells #[.iface 212 (.pointer (some ⟨low, 0, none⟩))])).modify 6 (setCells #[.iface 212 (.pointer (some ⟨low + 1, 0, none⟩))])).modify 5 (setCells (ranges.map fun z => Value.int .u8 z).toArray)).modify 4 (setCells (Go.Pinned.utf8FirstZ.map fun (z : Nat) => Value.int .u8 (z : Int)).toArray) }
set_option maxRecDepth 100000 in
theorem laid_here (os : Os) (args : Array Value) : laidMet Tryz.prog laidOf ((laidWorld os).forCall (fun _ _ => 0) ⟨#[], args, []⟩).memory :=
  laidMet_of_run3 8 (by kernel_rfl) (by kernel_rfl) (by kernel_rfl)

/-! ### small facts of the laws -/
end Go.Proofs.YtdkencepmdfacaaGreatDoor

set_option maxRecDepth 100000
namespace Go.Proofs.YtdkencepmdfacaaGreatDoor
open Go.RowKit Ieee

theorem and_sign {a : Nat} (ha : a < 2 * signB) : bits .and .u64 ((a : Nat) : Int) 9223372036854775808 = if 9223372036854775808 ≤ a then 9223372036854775808 else 0 := by
  unfold signB at ha
  have h : bits .and .u64 ((a : Nat) : Int) 9223372036854775808 = ((a &&& 9223372036854775808 : Nat) : Int) := u64_and_nat a 9223372036854775808 (by omega) (by decide)
  have h2 : a &&& 9223372036854775808 = a / 9223372036854775808 % 2 * 9223372036854775808 := nat_bit 63 a
  rw [h2] at h
  rw [h]
  split <;> omega

end Go.Proofs.YtdkencepmdfacaaGreatDoor
