/- Programs' bytes (plain): packed, unpacked, there and back, cut short. -/
import Derived.Test.YtdkencepmdfacaaGreatDoorQa
import Derived.Test.YtdkencepmdfacaaGreatDoorPk
import Derived.Test.YtdkencepmdfacaaGreatDoorPl
set_option maxRecDepth 100000
namespace Go.Proofs.YtdkencepmdfacaaGreatDoor
open Ieee

/-- the bytes of an instruction -/
def Ins.regB (x : Ins) : List UInt8 := (List.range (opRegs x.op).toNat).flatMap fun i => vb (x.regI i).toNat
def Ins.tailB (x : Ins) : List UInt8 := (if opN x.op = true then vb x.n.toNat else []) ++ (if opK x.op = true then bb x.k else [])
def Ins.bytes (x : Ins) : List UInt8 := vb x.op.toNat ++ (x.regB ++ x.tailB)
def codeB (l : List Ins) : List UInt8 := l.flatMap Ins.bytes
/-- a program's bytes -/
def progB (fuel : Nat) (l : List Ins) : List UInt8 := vb fuel ++ (vb l.length ++ codeB l)

/-- a number read, where the reader stands, its fault -/
def rn (L : List UInt8) (most : Nat) (s : Nat × Int) : Int × Nat × Int := rdrStep 0 (upR (numR (L.drop s.1) most 21)) s.1 s.2
def rl (L : List UInt8) (most : Nat) (s : Nat × Int) : Int × Nat × Int := rdrStep 0 (upR (numR (L.drop s.1) most 23)) s.1 s.2
def rb (L : List UInt8) (s : Nat × Int) : Int × Nat × Int := rdrStep 0 (bitsR (L.drop s.1)) s.1 s.2
/-- a register read, if there is one -/
def rr (L : List UInt8) (r : Int) (i : Nat) (s : Nat × Int) : Int × Nat × Int := if (i : Int) < r then rn L 7 s else (0, s)
def readB (L : List UInt8) (s : Nat × Int) : Ins × Nat × Int :=
  let o := rn L 24 s
  let a := rr L (opRegs o.1) 0 o.2
  let b := rr L (opRegs o.1) 1 a.2
  let c := rr L (opRegs o.1) 2 b.2
  let n := if opN o.1 = true then rn L 64 c.2 else (0, c.2)
  let k := if opK o.1 = true then rb L n.2 else (0, n.2)
  (⟨o.1, a.1, b.1, c.1, n.1, k.1.toNat⟩, k.2)
def readC (L : List UInt8) : Nat → Nat × Int → List Ins × Nat × Int
  | 0, s => ([], s)
  | m + 1, s => ((readB L s).1 :: (readC L m (readB L s).2).1, (readC L m (readB L s).2).2)
/-- the program of bytes: the error, the fuel, the instructions -/
def unpackP (L : List UInt8) : Int × Nat × List Ins :=
  if 1024 < L.length then (57, 0, [])
  else
    let f := rn L 1024 (0, 0)
    let m := rl L 64 f.2
    let c := readC L m.1.toNat m.2
    if c.2.2 = 0 ∧ ¬ c.2.1 < L.length ∧ (progCheck f.1 c.1).1 = 0 then (0, f.1.toNat, c.1) else (54, 0, [])

/-! ### what was laid is read -/
theorem rn_laid {L rest : List UInt8} {most v p : Nat} (hL : L.drop p = vb v ++ rest) (hv : v ≤ most) (hm : most ≤ 1048576) : rn L most (p, 0) = ((v : Int), p + (vb v).length, 0) := by
  have h := rdv_laid v rest (by omega)
  have e : numR (L.drop p) most 21 = .ok (v, (vb v).length) := by
    unfold numR
    rw [hL, h]
    simp only
    rw [if_pos hv]
  unfold rn
  rw [e]
  rfl
theorem rl_laid {L rest : List UInt8} {most v p : Nat} (hL : L.drop p = vb v ++ rest) (hv : v ≤ most) (hm : most ≤ 1048576) : rl L most (p, 0) = ((v : Int), p + (vb v).length, 0) := by
  have h := rdv_laid v rest (by omega)
  have e : numR (L.drop p) most 23 = .ok (v, (vb v).length) := by
    unfold numR
    rw [hL, h]
    simp only
    rw [if_pos hv]
  unfold rl
  rw [e]
  rfl
theorem rb_laid {L rest : List UInt8} {v p : Nat} (hL : L.drop p = bb v ++ rest) (hv : v < 18446744073709551616) : rb L (p, 0) = ((v : Int), p + (bb v).length, 0) := by
  have hl := bb_len v
  have e : bitsR (L.drop p) = .ok ((v : Int), 8) := by
    unfold bitsR
    rw [hL, if_pos (by rw [List.length_append]; omega), List.take_left' hl, bitsOf_bb v hv]
  unfold rb
  rw [e, hl]
  rfl
theorem drop_next {L a rest : List UInt8} {p : Nat} (h : L.drop p = a ++ rest) : L.drop (p + a.length) = rest := by
  rw [← List.drop_drop, h, List.drop_left]
/-- the bytes of a register that may be there -/
def ob (r : Int) (i : Nat) (v : Int) : List UInt8 := if (i : Int) < r then vb v.toNat else []
theorem rr_laid {L rest : List UInt8} {r v : Int} {i p : Nat} (hL : L.drop p = ob r i v ++ rest) (hv : 0 ≤ v ∧ v < 8) (hu : r ≤ (i : Int) → v = 0) : rr L r i (p, 0) = (v, p + (ob r i v).length, 0) := by
  unfold rr ob at *
  split
  · rename_i h
    rw [if_pos h] at hL
    rw [rn_laid (v := v.toNat) hL (by omega) (by omega)]
    congr 1
    omega
  · rename_i h
    rw [hu (by omega)]
    simp
theorem regB_ob (x : Ins) : x.regB = ob (opRegs x.op) 0 x.a ++ (ob (opRegs x.op) 1 x.b ++ ob (opRegs x.op) 2 x.c) := by
  unfold Ins.regB ob
  rcases regs_cases x.op with h | h | h | h <;> rw [h] <;> simp [Ins.regI, List.range_succ]
theorem tail_laid {L rest : List UInt8} {x : Ins} {P : Nat} (h : x.Full) (hn : x.n ≤ 64) (hL : L.drop P = x.tailB ++ rest) :
    (if opN x.op = true then rn L 64 (P, 0) else (0, (P, 0))).1 = x.n ∧ (if opK x.op = true then rb L (if opN x.op = true then rn L 64 (P, 0) else (0, (P, 0))).2 else (0, (if opN x.op = true then rn L 64 (P, 0) else (0, (P, 0))).2)).1.toNat = x.k ∧
    (if opK x.op = true then rb L (if opN x.op = true then rn L 64 (P, 0) else (0, (P, 0))).2 else (0, (if opN x.op = true then rn L 64 (P, 0) else (0, (P, 0))).2)).2 = (P + x.tailB.length, 0) := by
  have hnn := h.n
  have hkb := h.kb
  unfold Ins.tailB at hL ⊢
  cases hN : opN x.op with
  | true =>
    have hK : opK x.op = false := by
      cases h2 : opK x.op
      · rfl
      · exact absurd ⟨hN, h2⟩ (nk_not x.op)
    rw [hN, hK] at hL
    simp only [if_true, if_false, Bool.false_eq_true, List.append_nil] at hL
    have e := rn_laid (most := 64) (v := x.n.toNat) hL (by omega) (by omega)
    have hk0 := h.uk hK
    simp only [hK, if_true, if_false, Bool.false_eq_true, List.append_nil, e]
    exact ⟨by omega, by rw [hk0]; rfl, trivial⟩
  | false =>
    have hn0 := h.un hN
    rw [hN] at hL
    cases hK : opK x.op with
    | true =>
      rw [hK] at hL
      simp only [if_true, if_false, Bool.false_eq_true, List.nil_append] at hL
      have e := rb_laid (v := x.k) hL (by unfold signB at hkb; omega)
      simp only [if_true, if_false, Bool.false_eq_true, List.nil_append, e]
      exact ⟨hn0.symm, by simp, trivial⟩
    | false =>
      have hk0 := h.uk hK
      simp only [if_false, Bool.false_eq_true, List.append_nil, List.length_nil, Nat.add_zero]
      exact ⟨hn0.symm, hk0.symm, trivial⟩
theorem readB_laid {L rest : List UInt8} {x : Ins} {p : Nat} (h : x.Full) (hn : x.n ≤ 64) (hL : L.drop p = x.bytes ++ rest) : readB L (p, 0) = (x, p + x.bytes.length, 0) := by
  have hop := h.op
  unfold Ins.bytes at hL ⊢
  rw [regB_ob] at hL ⊢
  simp only [List.append_assoc] at hL
  have h1 := rn_laid (most := 24) (v := x.op.toNat) hL (by omega) (by omega)
  have e : ((x.op.toNat : Nat) : Int) = x.op := by omega
  rw [e] at h1
  have L1 := drop_next hL
  have h2 := rr_laid L1 h.a h.ua
  have L2 := drop_next L1
  have h3 := rr_laid L2 h.b h.ub
  have L3 := drop_next L2
  have h4 := rr_laid L3 h.c h.uc
  have L4 := drop_next L3
  obtain ⟨t1, t2, t3⟩ := tail_laid h hn L4
  unfold readB
  simp only [h1, h2, h3, h4]
  rw [t1, t2, t3]
  simp only [List.length_append]
  refine Prod.ext rfl (Prod.ext ?_ rfl)
  show _ + _ = _ + _
  omega
theorem readC_laid : ∀ (l : List Ins) {L rest : List UInt8} {p : Nat}, (∀ x ∈ l, x.Full ∧ x.n ≤ 64) → L.drop p = codeB l ++ rest → readC L l.length (p, 0) = (l, p + (codeB l).length, 0)
  | [], L, rest, p, _, _ => by simp [readC, codeB]
  | x :: l, L, rest, p, h, hL => by
    have e : codeB (x :: l) = x.bytes ++ codeB l := by simp [codeB]
    rw [e, List.append_assoc] at hL
    have h1 := readB_laid (h x (by simp)).1 (h x (by simp)).2 hL
    have h2 := readC_laid l (fun y hy => h y (List.mem_cons_of_mem _ hy)) (drop_next hL)
    rw [List.length_cons, readC, h1]
    simp only
    rw [h2, e, List.length_append, Nat.add_assoc]
/-- what a reader makes of a program's bytes, with more behind them -/
theorem prog_laid {fuel : Nat} {l : List Ins} (h : (progCheck fuel l).1 = 0) (hk : ∀ x ∈ l, x.k < 2 * signB) (rest : List UInt8) :
    rn (progB fuel l ++ rest) 1024 (0, 0) = ((fuel : Int), (vb fuel).length, 0) ∧ rl (progB fuel l ++ rest) 64 ((vb fuel).length, 0) = ((l.length : Int), (vb fuel).length + (vb l.length).length, 0) ∧
    readC (progB fuel l ++ rest) l.length ((vb fuel).length + (vb l.length).length, 0) = (l, (progB fuel l).length, 0) := by
  obtain ⟨hfu, hl, _⟩ := progCheck_ok h
  have hf := prog_full h hk
  have L0 : (progB fuel l ++ rest).drop 0 = vb fuel ++ (vb l.length ++ (codeB l ++ rest)) := by simp [progB]
  have h1 := rn_laid (most := 1024) L0 (by omega) (by omega)
  have L1 := drop_next L0
  rw [Nat.zero_add] at h1 L1
  have h2 := rl_laid (most := 64) L1 (by omega) (by omega)
  have L2 := drop_next L1
  have h3 := readC_laid l (fun x hx => ⟨(hf x hx).1, by have := (hf x hx).2; omega⟩) L2
  refine ⟨h1, h2, ?_⟩
  rw [h3]
  congr 2
  simp [progB]
  omega
theorem vb_one {v : Nat} (h : v < 128) : (vb v).length = 1 := by rw [vb_lt h]; rfl
theorem ob_le (r : Int) (i : Nat) {v : Int} (h : 0 ≤ v ∧ v < 8) : (ob r i v).length ≤ 1 := by
  unfold ob
  split
  · rw [vb_one (by omega)]
    omega
  · simp
theorem bytes_le {x : Ins} (h : x.Full) (hn : x.n ≤ 64) : x.bytes.length ≤ 12 := by
  have hop := h.op
  have hnn := h.n
  unfold Ins.bytes
  rw [regB_ob]
  simp only [List.length_append]
  rw [vb_one (v := x.op.toNat) (by omega)]
  have a := ob_le (opRegs x.op) 0 h.a
  have b := ob_le (opRegs x.op) 1 h.b
  have c := ob_le (opRegs x.op) 2 h.c
  have t : x.tailB.length ≤ 8 := by
    unfold Ins.tailB
    have hnk := nk_not x.op
    cases h1 : opN x.op <;> cases h2 : opK x.op
    · simp
    · simp [bb_len]
    · simp [vb_one (v := x.n.toNat) (by omega)]
    · exact absurd ⟨h1, h2⟩ hnk
  omega
theorem codeB_le : ∀ (l : List Ins), (∀ x ∈ l, x.Full ∧ x.n ≤ 64) → (codeB l).length ≤ 12 * l.length
  | [], _ => by simp [codeB]
  | x :: l, h => by
    have e : codeB (x :: l) = x.bytes ++ codeB l := by simp [codeB]
    have h1 := bytes_le (h x (by simp)).1 (h x (by simp)).2
    have h2 := codeB_le l fun y hy => h y (List.mem_cons_of_mem _ hy)
    rw [e, List.length_append, List.length_cons]
    omega
theorem progB_le {fuel : Nat} {l : List Ins} (h : (progCheck fuel l).1 = 0) (hk : ∀ x ∈ l, x.k < 2 * signB) : (progB fuel l).length ≤ 1024 := by
  obtain ⟨hfu, hl, _⟩ := progCheck_ok h
  have hf := prog_full h hk
  have h1 := codeB_le l fun x hx => ⟨(hf x hx).1, by have := (hf x hx).2; omega⟩
  have h2 : (vb fuel).length ≤ 2 := vb_len 1 fuel (by omega)
  have h3 := vb_one (v := l.length) (by omega)
  unfold progB
  simp only [List.length_append]
  omega
theorem unpack_more {fuel : Nat} {l : List Ins} (h : (progCheck fuel l).1 = 0) (hk : ∀ x ∈ l, x.k < 2 * signB) (rest : List UInt8) :
    unpackP (progB fuel l ++ rest) = if 1024 < (progB fuel l ++ rest).length then (57, 0, []) else if rest = [] then (0, fuel, l) else (54, 0, []) := by
  obtain ⟨h1, h2, h3⟩ := prog_laid h hk rest
  unfold unpackP
  split
  · rfl
  · simp only
    rw [h1]
    simp only
    rw [h2]
    simp only [Int.toNat_natCast]
    rw [h3]
    simp only [List.length_append, h, and_true, true_and]
    by_cases hr : rest = []
    · subst hr
      simp
    · rw [if_neg hr, if_neg]
      have : 0 < rest.length := by
        cases rest with
        | nil => exact absurd rfl hr
        | cons a b => simp
      omega
theorem unpack_pack {fuel : Nat} {l : List Ins} (h : (progCheck fuel l).1 = 0) (hk : ∀ x ∈ l, x.k < 2 * signB) : unpackP (progB fuel l) = (0, fuel, l) := by
  have := unpack_more h hk []
  rw [List.append_nil] at this
  rw [this, if_neg (by have := progB_le h hk; omega), if_pos rfl]

/-! ### what is read was laid so -/
theorem rdr_zero {r : Except Int (Int × Nat)} {p : Nat} {e : Int} {x : Int × Nat × Int} (hx : rdrStep 0 r p e = x) (h : x.2.2 = 0) : e = 0 := by
  unfold rdrStep at hx
  by_cases he : e ≠ 0
  · rw [if_pos he] at hx
    subst hx
    exact h
  · exact Classical.byContradiction he
/-- bytes of L from p to q -/
def Span (L : List UInt8) (p q : Nat) (S : List UInt8) : Prop := p ≤ q ∧ q ≤ L.length ∧ L.take q = L.take p ++ S
theorem Span.refl {L : List UInt8} {p : Nat} (h : p ≤ L.length) : Span L p p [] := ⟨Nat.le_refl _, h, by simp⟩
theorem Span.trans {L : List UInt8} {p q r : Nat} {S T : List UInt8} (h : Span L p q S) (k : Span L q r T) : Span L p r (S ++ T) :=
  ⟨Nat.le_trans h.1 k.1, k.2.1, by rw [k.2.2, h.2.2, List.append_assoc]⟩
theorem span_step {L S : List UInt8} {p q : Nat} (h : StepOk (str L) p S q 0) : Span L p q S := by
  rcases h with ⟨h, _⟩ | ⟨_, h1, h2, h3⟩
  · exact absurd rfl h
  · rw [str_data] at h3
    rw [str_size] at h2
    exact ⟨h1, h2, by rw [h3, take_more h1]⟩
theorem rn_zero {L : List UInt8} {most p : Nat} {e : Int} (hp : p ≤ L.length) (h : (rn L most (p, e)).2.2 = 0) : e = 0 ∧ ∃ n q : Nat, rn L most (p, e) = ((n : Int), q, 0) ∧ n ≤ most ∧ Span L p q (vb n) := by
  have he : e = 0 := rdr_zero (r := upR (numR (L.drop p) most 21)) (p := p) rfl h
  subst he
  obtain ⟨n, q, f, h1, h2, h3, h4⟩ := step_num (str L) p most 21 (by rw [str_size]; exact hp) (by decide)
  rw [str_data] at h1
  have e2 : rn L most (p, 0) = ((n : Int), q, f) := h1
  rw [e2] at h
  replace h : f = 0 := h
  subst h
  exact ⟨rfl, n, q, e2, h3, span_step h4⟩
theorem rl_zero {L : List UInt8} {most p : Nat} {e : Int} (hp : p ≤ L.length) (h : (rl L most (p, e)).2.2 = 0) : e = 0 ∧ ∃ n q : Nat, rl L most (p, e) = ((n : Int), q, 0) ∧ n ≤ most ∧ Span L p q (vb n) := by
  have he : e = 0 := rdr_zero (r := upR (numR (L.drop p) most 23)) (p := p) rfl h
  subst he
  obtain ⟨n, q, f, h1, h2, h3, h4⟩ := step_num (str L) p most 23 (by rw [str_size]; exact hp) (by decide)
  rw [str_data] at h1
  have e2 : rl L most (p, 0) = ((n : Int), q, f) := h1
  rw [e2] at h
  replace h : f = 0 := h
  subst h
  exact ⟨rfl, n, q, e2, h3, span_step h4⟩
theorem rb_zero {L : List UInt8} {p : Nat} {e : Int} (hp : p ≤ L.length) (h : (rb L (p, e)).2.2 = 0) : e = 0 ∧ ∃ n q : Nat, rb L (p, e) = ((n : Int), q, 0) ∧ n < 18446744073709551616 ∧ Span L p q (bb n) := by
  have he : e = 0 := rdr_zero (r := bitsR (L.drop p)) (p := p) rfl h
  subst he
  obtain ⟨n, q, f, h1, h2, h4⟩ := step_bits (str L) p (by rw [str_size]; exact hp)
  rw [str_data] at h1
  have e2 : rb L (p, 0) = ((n : Int), q, f) := h1
  rw [e2] at h
  replace h : f = 0 := h
  subst h
  exact ⟨rfl, n, q, e2, h2, span_step h4⟩

theorem rr_zero {L : List UInt8} {r : Int} {i p : Nat} {e : Int} (hp : p ≤ L.length) (h : (rr L r i (p, e)).2.2 = 0) : e = 0 ∧ ∃ n q : Nat, rr L r i (p, e) = ((n : Int), q, 0) ∧ n < 8 ∧ (r ≤ (i : Int) → n = 0) ∧ Span L p q (ob r i (n : Int)) := by
  unfold rr ob at *
  split at h
  · rename_i hi
    rw [if_pos hi]
    obtain ⟨he, n, q, h1, h2, h3⟩ := rn_zero hp h
    exact ⟨he, n, q, h1, by omega, fun hh => by omega, by rw [if_pos hi, Int.toNat_natCast]; exact h3⟩
  · rename_i hi
    rw [if_neg hi]
    replace h : e = 0 := h
    subst h
    exact ⟨rfl, 0, p, rfl, by omega, fun _ => rfl, by rw [if_neg hi]; exact Span.refl hp⟩
theorem readB_zero {L : List UInt8} {p : Nat} {e : Int} (hp : p ≤ L.length) (h : (readB L (p, e)).2.2 = 0) :
    e = 0 ∧ ∃ q, (readB L (p, e)).2 = (q, 0) ∧ Span L p q (readB L (p, e)).1.bytes ∧ (readB L (p, e)).1.k < 2 * signB := by
  obtain ⟨o, ho⟩ : ∃ o, rn L 24 (p, e) = o := ⟨_, rfl⟩
  obtain ⟨a, ha⟩ : ∃ a, rr L (opRegs o.1) 0 o.2 = a := ⟨_, rfl⟩
  obtain ⟨b, hb⟩ : ∃ b, rr L (opRegs o.1) 1 a.2 = b := ⟨_, rfl⟩
  obtain ⟨c, hc⟩ : ∃ c, rr L (opRegs o.1) 2 b.2 = c := ⟨_, rfl⟩
  obtain ⟨n, hn⟩ : ∃ n, (if opN o.1 = true then rn L 64 c.2 else (0, c.2)) = n := ⟨_, rfl⟩
  obtain ⟨k, hk⟩ : ∃ k, (if opK o.1 = true then rb L n.2 else (0, n.2)) = k := ⟨_, rfl⟩
  have e0 : readB L (p, e) = (⟨o.1, a.1, b.1, c.1, n.1, k.1.toNat⟩, k.2) := by
    unfold readB
    simp only [ho, ha, hb, hc, hn, hk]
  rw [e0] at h ⊢
  replace h : k.2.2 = 0 := h
  -- the faults, from the last to the first
  have fk : n.2.2 = 0 := by
    by_cases hK : opK o.1 = true
    · rw [if_pos hK] at hk
      exact rdr_zero hk h
    · rw [if_neg hK] at hk
      rw [← hk] at h
      exact h
  have fn : c.2.2 = 0 := by
    by_cases hN : opN o.1 = true
    · rw [if_pos hN] at hn
      exact rdr_zero hn fk
    · rw [if_neg hN] at hn
      rw [← hn] at fk
      exact fk
  have fr : ∀ {i : Nat} {s : Nat × Int} {x : Int × Nat × Int}, rr L (opRegs o.1) i s = x → x.2.2 = 0 → s.2 = 0 := fun {i s x} hx h0 => by
    unfold rr at hx
    split at hx
    · exact rdr_zero hx h0
    · rw [← hx] at h0
      exact h0
  have fc := fr hc fn
  have fb := fr hb fc
  have fo := fr ha fb
  obtain ⟨he, on, oq, o1, o2, o3⟩ := rn_zero hp (show (rn L 24 (p, e)).2.2 = 0 by rw [ho]; exact fo)
  rw [ho] at o1
  subst o1
  obtain ⟨_, an, aq, a1, a2, a3, a4⟩ := rr_zero (r := opRegs ((on : Nat) : Int)) (i := 0) (e := 0) o3.2.1 (by rw [ha]; exact fb)
  rw [ha] at a1
  subst a1
  obtain ⟨_, bn, bq, b1, b2, b3, b4⟩ := rr_zero (r := opRegs ((on : Nat) : Int)) (i := 1) (e := 0) a4.2.1 (by rw [hb]; exact fc)
  rw [hb] at b1
  subst b1
  obtain ⟨_, cn, cq, c1, c2, c3, c4⟩ := rr_zero (r := opRegs ((on : Nat) : Int)) (i := 2) (e := 0) b4.2.1 (by rw [hc]; exact fn)
  rw [hc] at c1
  subst c1
  dsimp only at *
  obtain ⟨nn, nq, n1, n2⟩ : ∃ nn nq : Nat, n = ((nn : Int), nq, 0) ∧ Span L cq nq (if opN ((on : Nat) : Int) = true then vb nn else []) := by
    by_cases hN : opN ((on : Nat) : Int) = true
    · rw [if_pos hN] at hn
      obtain ⟨_, x, y, h1, _, h3⟩ := rn_zero c4.2.1 (show (rn L 64 (cq, 0)).2.2 = 0 by rw [hn]; exact fk)
      exact ⟨x, y, hn ▸ h1, by rw [if_pos hN]; exact h3⟩
    · rw [if_neg hN] at hn
      exact ⟨0, cq, hn.symm, by rw [if_neg hN]; exact Span.refl c4.2.1⟩
  subst n1
  dsimp only at *
  obtain ⟨kn, kq, k1, k2, k3⟩ : ∃ kn kq : Nat, k = ((kn : Int), kq, 0) ∧ kn < 18446744073709551616 ∧ Span L nq kq (if opK ((on : Nat) : Int) = true then bb kn else []) := by
    by_cases hK : opK ((on : Nat) : Int) = true
    · rw [if_pos hK] at hk
      obtain ⟨_, x, y, h1, h2, h3⟩ := rb_zero n2.2.1 (show (rb L (nq, 0)).2.2 = 0 by rw [hk]; exact h)
      exact ⟨x, y, hk ▸ h1, h2, by rw [if_pos hK]; exact h3⟩
    · rw [if_neg hK] at hk
      exact ⟨0, nq, hk.symm, by omega, by rw [if_neg hK]; exact Span.refl n2.2.1⟩
  subst k1
  dsimp only at *
  refine ⟨he, kq, rfl, ?_, by rw [Int.toNat_natCast]; unfold signB; omega⟩
  have hs := o3.trans ((a4.trans (b4.trans c4)).trans (n2.trans k3))
  have eb : (⟨(on : Int), (an : Int), (bn : Int), (cn : Int), (nn : Int), ((kn : Nat) : Int).toNat⟩ : Ins).bytes = vb on ++ ((ob (opRegs (on : Int)) 0 (an : Int) ++ (ob (opRegs (on : Int)) 1 (bn : Int) ++ ob (opRegs (on : Int)) 2 (cn : Int))) ++ ((if opN (on : Int) = true then vb nn else []) ++ (if opK (on : Int) = true then bb kn else []))) := by
    unfold Ins.bytes
    rw [regB_ob]
    unfold Ins.tailB
    simp only [Int.toNat_natCast]
  rw [eb]
  exact hs
theorem readB_fault {L : List UInt8} {q : Nat} {f : Int} (hf : f ≠ 0) : (readB L (q, f)).2.2 ≠ 0 := by
  have rnf : ∀ {most : Nat} {s : Nat × Int}, s.2 ≠ 0 → (rn L most s).2.2 ≠ 0 := fun hs h0 => hs (rdr_zero rfl h0)
  have rbf : ∀ {s : Nat × Int}, s.2 ≠ 0 → (rb L s).2.2 ≠ 0 := fun hs h0 => hs (rdr_zero rfl h0)
  have rrf : ∀ {r : Int} {i : Nat} {s : Nat × Int}, s.2 ≠ 0 → (rr L r i s).2.2 ≠ 0 := fun {r i s} hs => by
    unfold rr
    split
    · exact rnf hs
    · exact hs
  have s1 := rnf (most := 24) (s := (q, f)) hf
  have s2 := rrf (r := opRegs (rn L 24 (q, f)).1) (i := 0) s1
  have s3 := rrf (r := opRegs (rn L 24 (q, f)).1) (i := 1) s2
  have s4 := rrf (r := opRegs (rn L 24 (q, f)).1) (i := 2) s3
  unfold readB
  dsimp only
  generalize rr L (opRegs (rn L 24 (q, f)).1) 2 (rr L (opRegs (rn L 24 (q, f)).1) 1 (rr L (opRegs (rn L 24 (q, f)).1) 0 (rn L 24 (q, f)).2).2).2 = c at *
  have s5 : (if opN (rn L 24 (q, f)).1 = true then rn L 64 c.2 else (0, c.2)).2.2 ≠ 0 := by
    split
    · exact rnf s4
    · exact s4
  generalize (if opN (rn L 24 (q, f)).1 = true then rn L 64 c.2 else (0, c.2)) = n at *
  split
  · exact rbf s5
  · exact s5
theorem readC_fault {L : List UInt8} : ∀ (k q : Nat) (f : Int), (readC L k (q, f)).2.2 = 0 → f = 0
  | 0, q, f, h => h
  | k + 1, q, f, h => by
    have h' : (readC L k ((readB L (q, f)).2.1, (readB L (q, f)).2.2)).2.2 = 0 := h
    exact Classical.byContradiction fun hf => readB_fault hf (readC_fault k _ _ h')
theorem readC_zero : ∀ (m : Nat) {L : List UInt8} {p : Nat} {e : Int}, p ≤ L.length → (readC L m (p, e)).2.2 = 0 →
    e = 0 ∧ (readC L m (p, e)).1.length = m ∧ ∃ q, (readC L m (p, e)).2 = (q, 0) ∧ Span L p q (codeB (readC L m (p, e)).1) ∧ ∀ x ∈ (readC L m (p, e)).1, x.k < 2 * signB
  | 0, L, p, e, hp, h => by
    replace h : e = 0 := h
    subst h
    exact ⟨rfl, rfl, p, rfl, Span.refl hp, fun x hx => by cases hx⟩
  | m + 1, L, p, e, hp, h => by
    obtain ⟨q, f, hqf⟩ : ∃ q f, (readB L (p, e)).2 = (q, f) := ⟨_, _, rfl⟩
    have e1 : readC L (m + 1) (p, e) = ((readB L (p, e)).1 :: (readC L m (q, f)).1, (readC L m (q, f)).2) := by rw [readC, hqf]
    rw [e1] at h ⊢
    have hf := readC_fault m q f h
    subst hf
    obtain ⟨he, q2, h1, h2, h3⟩ := readB_zero hp (by rw [hqf])
    rw [hqf] at h1
    injection h1 with h1 _
    subst h1
    obtain ⟨_, i1, q3, i2, i3, i4⟩ := readC_zero m h2.2.1 h
    refine ⟨he, by simp [i1], q3, i2, ?_, fun x hx => ?_⟩
    · have e2 : codeB ((readB L (p, e)).1 :: (readC L m (q, 0)).1) = (readB L (p, e)).1.bytes ++ codeB (readC L m (q, 0)).1 := by simp [codeB]
      rw [e2]
      exact h2.trans i3
    · rcases List.mem_cons.1 hx with rfl | hx
      · exact h3
      · exact i4 x hx
theorem unpack_back {L : List UInt8} {f : Nat} {l : List Ins} (h : unpackP L = (0, f, l)) : progB f l = L ∧ (progCheck f l).1 = 0 ∧ (∀ x ∈ l, x.k < 2 * signB) ∧ L.length ≤ 1024 := by
  unfold unpackP at h
  split at h
  · simp at h
  rename_i hlen
  simp only at h
  by_cases hc : (readC L (rl L 64 (rn L 1024 (0, 0)).2).1.toNat (rl L 64 (rn L 1024 (0, 0)).2).2).2.2 = 0 ∧ ¬ (readC L (rl L 64 (rn L 1024 (0, 0)).2).1.toNat (rl L 64 (rn L 1024 (0, 0)).2).2).2.1 < L.length ∧ (progCheck (rn L 1024 (0, 0)).1 (readC L (rl L 64 (rn L 1024 (0, 0)).2).1.toNat (rl L 64 (rn L 1024 (0, 0)).2).2).1).1 = 0
  case neg =>
    rw [if_neg hc] at h
    simp at h
  rw [if_pos hc] at h
  obtain ⟨c1, c2, c3⟩ := hc
  injection h with _ h
  injection h with h1 h2
  obtain ⟨m, hm⟩ : ∃ m, rl L 64 (rn L 1024 (0, 0)).2 = m := ⟨_, rfl⟩
  rw [hm] at c1 c2 c3 h2
  obtain ⟨mq, mf, hmq⟩ : ∃ mq mf, m.2 = (mq, mf) := ⟨_, _, rfl⟩
  rw [hmq] at c1 c2 c3 h2
  have hmf := readC_fault _ _ _ c1
  subst hmf
  have hf0 : (rn L 1024 (0, 0)).2.2 = 0 := rdr_zero hm (by rw [hmq])
  obtain ⟨_, fn, fq, f1, f2, f3⟩ := rn_zero (Nat.zero_le _) hf0
  rw [f1] at hm h1 c3
  obtain ⟨_, mn, mq2, m1, m2, m3⟩ := rl_zero f3.2.1 (show (rl L 64 (fq, 0)).2.2 = 0 by rw [hm, hmq])
  have em : m = ((mn : Int), mq2, 0) := hm ▸ m1
  subst em
  injection hmq with hmq _
  subst hmq
  dsimp only at c1 c2 c3 h1 h2
  rw [Int.toNat_natCast] at c1 c2 c3 h1 h2
  obtain ⟨_, g1, gq, g2, g3, g4⟩ := readC_zero mn m3.2.1 c1
  subst h1
  subst h2
  rw [g2] at c2
  have hall := f3.trans (m3.trans g3)
  have hq : gq = L.length := by have := g3.2.1; dsimp only at c2; omega
  refine ⟨?_, c3, g4, by omega⟩
  have h4 := hall.2.2
  rw [hq, List.take_length, List.take_zero, List.nil_append] at h4
  unfold progB
  rw [g1]
  simpa only [List.append_assoc] using h4.symm
end Go.Proofs.YtdkencepmdfacaaGreatDoor
