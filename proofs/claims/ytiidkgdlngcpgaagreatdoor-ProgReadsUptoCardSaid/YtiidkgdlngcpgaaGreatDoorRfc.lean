/- A range over a function whose iterator keeps its state in one cell of its own (a captured variable): the loop's law. -/
import Derived.RangeFuncWrites
import Derived.Test.YtiidkgdlngcpgaaGreatDoorProg
set_option maxRecDepth 100000
namespace Go.Proofs.YtiidkgdlngcpgaaGreatDoor
open Go.RowKit

variable {F : Fence} {n : Nat} {P : Program}

/-- a caller's invariant does not mind a store into the iterator's own cell -/
def CellFree {β : Type} (B0 : Nat) (I : β → World → Prop) : Prop := ∀ s W v, I s W → I s (W.setCell ⟨B0, 0, none⟩ v)
/-- what a round leaves of the iterator's own block -/
def KeepsBlock (B0 : Nat) (W W' : World) : Prop := W'.heap[B0]? = W.heap[B0]?

/-- the contract of an iterator value that keeps its state in the cell of block B0 -/
def SeqC {α : Type} (F : Fence) (n : Nat) (P : Program) (g : Nat) (lb : Array Value) (encs : α → Array Value) (B0 : Nat) (S Sp : List α → Prop) (N : Nat) (G : α → Prop) (w : World) : Prop :=
  ∀ (l : Nat) (J Jx : List α → World → Prop) (W : World), Below w.heap.size w W → AbidesFrom W.heap.size J → AbidesFrom W.heap.size Jx → CellFree B0 J → CellFree B0 Jx →
    (∀ pre x W1, G x → J pre W1 → pre.length < N → YieldAt F (n - 1) P l (encs x) W1 fun e W' =>
      (e = .returned (.bool true) ∧ J (pre ++ [x]) W' ∧ KeepsBlock B0 W1 W') ∨ (e = .returned (.bool false) ∧ Jx (pre ++ [x]) W')) →
    J [] W →
    CallsIn F n P g (#[.func (.yield l) #[] #[]] ++ lb) W fun e W' => (∃ v, e = .returned v) ∧ ((∃ xs, S xs ∧ J xs W') ∨ (∃ pre, Sp pre ∧ Jx pre W'))

/-- how a round's body may be left -/
def postC {α : Type} (B B0 : Nat) (I : List α → World → Prop) (Ix : Code → List α → World → Prop) (xs : List α) (W : World) (e : Exit) (_a : Act) (W' : World) : Prop :=
  match e with
  | .normal => KeepsFrom B W W' ∧ KeepsBlock B0 W W' ∧ I xs W'
  | .ret => KeepsFrom B W W' ∧ Ix .ret xs W'
  | _ => False

theorem heap_setCell_obj (W : World) (B0 k : Nat) (v : Value) {o : Obj} (h : W.heap[k]? = some o) (ho : o.isCells = false) : (W.setCell ⟨B0, 0, none⟩ v).heap[k]? = some o :=
  (KeepsOthers.setCell W ⟨B0, 0, none⟩ v).same k o h ho

/-- the two facts of book-keeping that the loop carries: its record, and the block of its rounds' deferred calls -/
structure Kept2 (D : Nat) (r : Loop) (W : World) : Prop where
  lrec : W.heap[D + 1]? = some (.loop r)
  defs : W.heap[D]? = some (.deferred (some []))
theorem Kept2.cell {D B0 : Nat} {r : Loop} {W : World} (h : Kept2 D r W) (v : Value) : Kept2 D r (W.setCell ⟨B0, 0, none⟩ v) :=
  ⟨heap_setCell_obj _ _ _ _ h.lrec rfl, heap_setCell_obj _ _ _ _ h.defs rfl⟩
theorem Kept2.abide {D : Nat} {r : Loop} {W W' : World} {row : Option Nat} (h : Kept2 D r W) (hg : W.grownBy W' row) (hr : ∀ k, row = some k → ∃ o : Obj, W.heap[k]? = some o ∧ o.isWalk = true) : Kept2 D r W' :=
  ⟨(grownBy_keeps hg hr h.lrec rfl).trans h.lrec, (grownBy_keeps hg hr h.defs rfl).trans h.defs⟩

theorem wpIn_rangeFunc_cell {α : Type} {g : Operand} {ps : Array Tmp} {assign body : Code} {Q : Exit → Act → World → Prop} {a : Act} {w : World}
    (hro : F.round = none) (h1 : 1 ≤ n) {gf : Nat} {lb : Array Value} (hg : a.eval g = .func (.func gf) #[] lb) (hFg : F.fn gf) (eg : ∀ args w, (callFunc gf args).run P w = .ok (.enter gf args) w)
    {encs : α → Array Value} {B0 : Nat} {S Sp : List α → Prop} {N : Nat} {G : α → Prop} {w0 : World} (hseq : SeqC F (n - 1) P gf lb encs B0 S Sp N G w0) (hB0 : B0 < w.heap.size) (hb0 : Below w0.heap.size w0 w) (hps : ∀ x, (encs x).size = ps.size)
    (I : List α → World → Prop) (Ix : Code → List α → World → Prop) (hI : OwnFrom w.heap.size I) (hIx : OwnFrom w.heap.size (Ix .ret)) (cI : CellFree B0 I) (cIx : CellFree B0 (Ix .ret)) (h0 : I [] w) (a₁ : α → Act)
    (hassign : ∀ (l : Nat) (x : α) (W : World) (K : Act → World → Prop), K (a₁ x) W →
      assign.wpIn (F.inRound l) (n - 1 - 1) P (Exit.then K (fun _ _ _ => False)) { tmps := (ps.zip (encs x)).foldl (fun t (p, v) => t.setIfInBounds p v) a.tmps, defers := [] } W)
    (hbody : ∀ (l : Nat) (pre : List α) (x : α) (W : World), G x → I pre W → pre.length < N → body.wpIn (F.inRound l) (n - 1 - 1) P (postC w.heap.size B0 I Ix (pre ++ [x]) W) (a₁ x) W)
    (hdone : ∀ (D : Nat) (xs : List α) (W : World), w.heap.size ≤ D → S xs → I xs W → W.heap[D]? = some (.deferred (some [])) → Q .normal { a with defers := { target := .collected D, args := #[] } :: a.defers } W)
    (hstop : ∀ (D : Nat) (pre : List α) (W : World), w.heap.size ≤ D → Sp pre → Ix .ret pre W → W.heap[D]? = some (.deferred (some [])) → Code.ret.wpIn F n P Q { a with defers := { target := .collected D, args := #[] } :: a.defers } W) :
    (Code.rangeFunc g ps assign body).wpIn F n P Q a w := by
  obtain ⟨D, hD⟩ : ∃ D, D = w.heap.size := ⟨_, rfl⟩
  refine wpIn_rangeFunc fun fn hfn => ?_
  rw [hro]
  -- the record, by its state and its pending jump
  obtain ⟨R, hR⟩ : ∃ R : LoopState → Option Code → Loop, R = fun st pe => { state := st, pending := pe, fn, tmps := a.tmps, params := ps, assign, body, defers := D } := ⟨_, rfl⟩
  have start := run_enterLoop_outer (P := P) (w := w) fn a.tmps ps assign body
  obtain ⟨W1, hW1⟩ : ∃ W1, W1 = (w.alloc (.deferred (some []))).alloc (.loop (R .ready none)) := ⟨_, rfl⟩
  have hsz : W1.heap.size = D + 2 := by rw [hW1, hD]; simp
  have hal : w.grownBy W1 none := by
    rw [hW1]
    have a1 := World.grownBy_alloc w (.deferred (some [])) none
    have a2 := World.grownBy_alloc (w.alloc (.deferred (some []))) (.loop (R .ready none)) none
    exact ⟨a2.os.trans a1.os, a2.tape.trans a1.tape, a2.output.trans a1.output, Nat.le_trans a1.size a2.size, fun i hi hne => (a2.block i (Nat.lt_of_lt_of_le hi a1.size) hne).trans (a1.block i hi hne)⟩
  have k1 : Kept2 D (R .ready none) W1 := by
    refine ⟨?_, ?_⟩
    · rw [hW1, hD]
      have := World.alloc_heap_new (w.alloc (.deferred (some []))) (.loop (R .ready none))
      rwa [World.size_alloc] at this
    · rw [hW1, hD]
      exact (Below.heap_alloc _ _ _ (by simp)).trans (World.alloc_heap_new w _)
  have i1 : I [] W1 := hI _ _ _ _ h0 hal fun r e => by cases e
  have hb1 : Below w0.heap.size w0 W1 := hb0.trans ((Below.refl _ w).grown hal hb0.size fun k e => by cases e)
  refine ⟨D + 1, [{ target := .collected D, args := #[] }], W1, { target := .fn (.func gf) lb, args := #[.func (.yield (D + 1)) #[] #[]] }, W1, gf, #[.func (.yield (D + 1)) #[] #[]] ++ lb, W1, ?_, ?_, ?_, ?_, fun _ => h1, ?_⟩
  · rw [hW1, hR, hD]
    exact start
  · simp only [resolve, hg]
    simp [go_sem]
  · intro f' hf'
    simp [Target.leads] at hf'
    subst hf'
    exact hFg
  · simp [invoke, go_sem, eg]
  -- the record's block, turned by the law itself
  have turn : ∀ {pre : List α} {J : List α → World → Prop} {W : World} {st : LoopState} {pe : Option Code} (st' : LoopState) (pe' : Option Code), OwnFrom w.heap.size J → J pre W → Kept2 D (R st pe) W →
      J pre (W.putObj (D + 1) (.loop (R st' pe'))) ∧ Kept2 D (R st' pe') (W.putObj (D + 1) (.loop (R st' pe'))) := fun st' pe' hJ hj hk =>
    ⟨hJ.putObj _ hj (by omega) hk.lrec rfl, World.putObj_heap_same (Array.getElem?_eq_some_iff.1 hk.lrec).1, (World.putObj_heap_other (by omega)).trans hk.defs⟩
  have walkOwn : ∀ {A B : World} {row : Option Nat}, (∀ r, row = some r → W1.heap.size ≤ r ∧ ∃ o : Obj, A.heap[r]? = some o ∧ o.isWalk = true) → (∀ r, row = some r → w.heap.size ≤ r ∧ ∃ o : Obj, A.heap[r]? = some o ∧ o.isCells = false) := fun hr r e => by
    obtain ⟨hle, o, ho, hw⟩ := hr r e
    exact ⟨by omega, o, ho, Obj.not_cells_of_walk hw⟩
  have call := hseq (D + 1) (fun pre W => I pre W ∧ Kept2 D (R .ready none) W) (fun pre W => Ix .ret pre W ∧ Kept2 D (R .done (some .ret)) W) W1 hb1
    (fun s A B row hs hgr hr => ⟨hI s A B row hs.1 hgr (walkOwn (B := B) hr), hs.2.abide hgr fun k e => (hr k e).2⟩)
    (fun s A B row hs hgr hr => ⟨hIx s A B row hs.1 hgr (walkOwn (B := B) hr), hs.2.abide hgr fun k e => (hr k e).2⟩)
    (fun s W v hs => ⟨cI s W v hs.1, hs.2.cell v⟩) (fun s W v hs => ⟨cIx s W v hs.1, hs.2.cell v⟩) ?round ⟨i1, k1⟩
  · refine call.mono ?_
    rintro e W2 ⟨⟨v, rfl⟩, (⟨xs, hS, hi, hk⟩ | ⟨pre, hSp, hi, hk⟩)⟩
    · have hend := run_endLoop (P := P) hk.lrec (by rw [hR]; simp)
      obtain ⟨t1, t2⟩ := turn .exhausted none hI hi hk
      exact ⟨none, _, by rw [hR] at hend ⊢; exact hend, hdone D xs _ (by omega) hS t1 t2.defs⟩
    · have hend := run_endLoop (P := P) hk.lrec (by rw [hR]; simp)
      obtain ⟨t1, t2⟩ := turn .exhausted (some .ret) hIx hi hk
      exact ⟨some .ret, _, by rw [hR] at hend ⊢; exact hend, hstop D pre _ (by omega) hSp t1 t2.defs⟩
  case round =>
    rintro pre x W hG ⟨hi, hk⟩ hlen
    have hy := run_yield (P := P) (args := encs x) hk.lrec (by rw [hR]; exact hps x)
    rw [hR] at hy
    refine ⟨fn, _, assign, body, hy, roundIn_of_wpIn hfn (hassign _ x W _ ⟨_, run_beginRound hk.lrec (by rw [hR]), ?_⟩)⟩
    obtain ⟨t1, t2⟩ := turn .busy none hI hi hk
    have hbusy : ({ R .ready none with state := .busy } : Loop) = R .busy none := by rw [hR]
    rw [hbusy]
    refine wpIn_mono (hbody _ pre x _ hG t1 hlen) ?_
    rintro e a3 W3 hp
    have past : KeepsFrom w.heap.size (W.putObj (D + 1) (.loop (R .busy none))) W3 → Kept2 D (R .busy none) W3 := fun h => ⟨h.same _ _ (by omega) t2.lrec rfl, h.same _ _ (by omega) t2.defs rfl⟩
    match e, hp with
    | .normal, hp =>
      obtain ⟨p1, p2, p3⟩ := hp
      have k3 := past p1
      have hend := run_endRound (P := P) none k3.lrec
      obtain ⟨u1, u2⟩ := turn .ready none hI p3 k3
      refine ⟨_, _, by rw [hR] at hend ⊢; exact hend, .inl ⟨rfl, ⟨u1, u2⟩, ?_⟩⟩
      unfold KeepsBlock at p2 ⊢
      rw [World.putObj_heap_other (by omega), p2, World.putObj_heap_other (by omega)]
    | .ret, hp =>
      obtain ⟨p1, p3⟩ := hp
      have k3 := past p1
      have hend := run_endRound (P := P) (some .ret) k3.lrec
      obtain ⟨u1, u2⟩ := turn .done (some .ret) hIx p3 k3
      exact ⟨_, _, by rw [hR] at hend ⊢; exact hend, .inr ⟨rfl, u1, u2⟩⟩
end Go.Proofs.YtiidkgdlngcpgaaGreatDoor
