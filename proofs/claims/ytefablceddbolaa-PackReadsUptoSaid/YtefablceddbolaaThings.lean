/- Things: what PackBack lays and reads; an argument that is a slice of them, opened; what reading them comes to. -/
import Derived.Test.YtefablceddbolaaOpen
import Derived.Test.YtefablceddbolaaAsks
namespace Go.Proofs.Ytefablceddbolaa
open Go.ChangeShapes Go.WideShapes Go.Deep Go.RowKit

structure Th where
  k : Int
  n : Nat
  s : List UInt8
  deriving Inhabited

def thCell (l : List Th) (j : Nat) : Value :=
  if j % 3 = 0 then .int .i64 (l.getD (j / 3) default).k else if j % 3 = 1 then .int .u64 ((l.getD (j / 3) default).n : Int) else .string (str (l.getD (j / 3) default).s)

theorem thCell0 (l : List Th) (i : Nat) : thCell l (i * 3) = .int .i64 (l.getD i default).k := by
  unfold thCell
  rw [if_pos (by omega), show i * 3 / 3 = i from by omega]
theorem thCell1 (l : List Th) (i : Nat) : thCell l (i * 3 + 1) = .int .u64 ((l.getD i default).n : Int) := by
  unfold thCell
  rw [if_neg (by omega), if_pos (by omega), show (i * 3 + 1) / 3 = i from by omega]
theorem thCell2 (l : List Th) (i : Nat) : thCell l (i * 3 + 2) = .string (str (l.getD i default).s) := by
  unfold thCell
  rw [if_neg (by omega), if_neg (by omega), show (i * 3 + 2) / 3 = i from by omega]

def thSize (l : List Th) : Nat := (l.map fun t => t.s.length + 4).sum

theorem thSize_mem {l : List Th} {t : Th} (h : t ∈ l) : t.s.length ≤ thSize l := by
  induction l with
  | nil => cases h
  | cons x xs ih =>
    simp only [thSize, List.map_cons, List.sum_cons]
    rcases List.mem_cons.1 h with rfl | h
    · omega
    · have := ih h
      simp only [thSize] at this
      omega

theorem str_eta (s : ByteArray) : str s.data.toList = s := by
  apply ByteArray.ext
  simp [str]

theorem bulk_sum {H : Type} {D : Nat → DataW H} {Q : Nat → Th} : ∀ is : List Nat, (∀ i ∈ is, Rows.uptoBulk (D i) = (Q i).s.length + 4) → Rows.uptoBulkAll (is.map D) = thSize (is.map Q)
  | [], _ => by simp [Rows.uptoBulkAll, thSize]
  | i :: is, h => by
    have ih := bulk_sum is (fun j hj => h j (List.mem_cons_of_mem _ hj))
    have h0 := h i (List.mem_cons_self ..)
    simp only [List.map_cons, Rows.uptoBulkAll, h0, ih, thSize, List.sum_cons]

theorem wf_u64 {n : Int} (h : (Lit.int .u64 n).wf = true) : 0 ≤ n ∧ n ≤ 18446744073709551615 := by
  simpa [Lit.wf, IntKind.min, IntKind.max, IntKind.signed, IntKind.bits] using h

theorem open_things {H : Type} {enc : TypeId × Value → H} {W : World} {base : Nat} {v : Value} {d : DataW H} {ps : List MemPlace}
    (hv : Value.okWide Try.prog W .any base 29 v) (h : DataW.Trod enc Try.prog W 0 (fun _ => true) true 29 v d ps) (hk : Rows.uptoBulk d ≤ 1048576) :
    ∃ (A : Option Addr) (n c : Nat) (l : List Th), v = .slice A n c ∧ Sl W W.heap.size 3 A n (thCell l) ∧ l.length = n ∧ n < 1048576 ∧ thSize l ≤ 1048576 ∧ ∀ t ∈ l, t.n < 18446744073709551616 := by
  obtain ⟨A, n, c, D, rfl, hn, hsum, a, hA, hrow⟩ := open_rows Try.underlying29 Try.underlying32 (by kernel_rfl) (by kernel_rfl) hv h hk
  have each : ∀ i, i < n → ∃ q : Th, W.cell? (a.add (i * 3)) = some (.int .i64 q.k) ∧ W.cell? (a.add (i * 3 + 1)) = some (.int .u64 (q.n : Int)) ∧ W.cell? (a.add (i * 3 + 2)) = some (.string (str q.s)) ∧ q.n < 18446744073709551616 ∧ Rows.uptoBulk (D i) = q.s.length + 4 := by
    intro i hi
    obtain ⟨ys, k, hD, hl, hf⟩ := hrow i hi
    obtain ⟨u0, y0, c0, g0, t0⟩ := hf 0 _ rfl
    obtain ⟨u1, y1, c1, g1, t1⟩ := hf 1 _ rfl
    obtain ⟨u2, y2, c2, g2, t2⟩ := hf 2 _ rfl
    obtain ⟨x0, e0, z0, _⟩ := DataW.trod_int Try.underlying3 t0
    obtain ⟨x1, e1, z1, w1⟩ := DataW.trod_int Try.underlying22 t1
    obtain ⟨x2, e2, z2, _⟩ := DataW.trod_string Try.underlying9 t2
    simp at e0 e1 e2
    subst e0 e1 e2
    have w1' := wf_u64 w1
    obtain ⟨m, rfl⟩ := Int.eq_ofNat_of_zero_le w1'.1
    refine ⟨⟨x0, m, x2.data.toList⟩, c0, c1, by rw [str_eta]; exact c2, by simp; omega, ?_⟩
    have hys : ys = [y0, y1, y2] := by
      match ys, hl with
      | [a, b, c], _ =>
        simp at g0 g1 g2
        rw [g0, g1, g2]
    rw [hD, hys, z0, z1, z2]
    simp [Rows.uptoBulk, Rows.uptoBulkAll]
    omega
  obtain ⟨Q, hQ⟩ := choose_lt each
  refine ⟨A, n, c, (List.range n).map Q, rfl, fun hn0 => ?_, by simp, hn, ?_, ?_⟩
  · have h0 := (hQ 0 hn0).1
    rw [show a.add (0 * 3) = a from rfl] at h0
    have ha := addr_plain h0
    refine ⟨a.block, a.off, by rw [hA hn0, ← ha], World.block_lt_of_cell? W a h0, fun j hj => ?_⟩
    have hk2 : j / 3 < n := by omega
    have g : ((List.range n).map Q).getD (j / 3) default = Q (j / 3) := by simp [hk2]
    unfold thCell
    rw [g]
    obtain ⟨q0, q1, q2, _⟩ := hQ (j / 3) hk2
    rw [ha, add_plain] at q0 q1 q2
    by_cases hj0 : j % 3 = 0
    · rw [if_pos hj0, ← q0]
      congr 2
      omega
    · rw [if_neg hj0]
      by_cases hj1 : j % 3 = 1
      · rw [if_pos hj1, ← q1]
        congr 2
        omega
      · rw [if_neg hj1, ← q2]
        congr 2
        omega
  · rw [← bulk_sum (D := D) (List.range n) (fun i hi => (hQ i (by simpa using hi)).2.2.2.2)]
    exact hsum
  · intro t ht
    simp only [List.mem_map, List.mem_range] at ht
    obtain ⟨i, hi, rfl⟩ := ht
    exact (hQ i hi).2.2.2.1

/-- what reading a thing comes to: was it that; where the reader stands; its fault -/
def rd1 (b : ByteArray) (t : Th) (p : Nat) (e : Int) : Bool × Nat × Int :=
  if t.k = 1 then
    let s := rdrStep 0 (upR (numR (b.data.toList.drop p) 18446744073709551615 21)) p e
    (s.1 == (t.n : Int), s.2)
  else if t.k = 2 then
    let s := rdrStep 0 (bitsR (b.data.toList.drop p)) p e
    (s.1 == (t.n : Int), s.2)
  else
    let s := rdrStep ⟨#[]⟩ (textR (b.data.toList.drop p) t.s.length) p e
    (s.1.toList == (str t.s).toList, s.2)

def rdAll (b : ByteArray) : List Th → Nat × Int × Bool → Nat × Int × Bool
  | [], s => s
  | t :: ts, (p, e, ok) => rdAll b ts ((rd1 b t p e).2.1, (rd1 b t p e).2.2, (rd1 b t p e).1 && ok)

theorem rd1_le {b : ByteArray} {t : Th} {p : Nat} {e : Int} (hp : p ≤ b.size) : (rd1 b t p e).2.1 ≤ b.size := by
  unfold rd1
  split
  · exact rdrStep_le hp (fun v k h => num_le hp h)
  · split
    · exact rdrStep_le hp (fun v k h => bits_le hp h)
    · exact rdrStep_le hp (fun v k h => text_le hp h)
end Go.Proofs.Ytefablceddbolaa
