/- A range over a function whose iterator keeps its state in one cell of its own (a captured variable): the loop's law. prog.lines: the iterator over a text's lines (contracts). -/
import Derived.RangeFuncWrites
import Derived.Test.YtdkencepmdfacaaGreatDoorProg
import Derived.RangeFuncNested
import Derived.RangeFuncBound
import Derived.RangeFuncCalls
import Derived.RangeFuncLeaves
import Derived.Shelf.Abstract
import Derived.Shelf.RegionOpen
import Derived.WalkKit
import Derived.OwnWalkIn
import Derived.TacticsInMore
import Derived.LoopNIn
import Derived.LoopIn
import Derived.Test.YtdkencepmdfacaaGreatDoorGr4
import Derived.Test.YtdkencepmdfacaaGreatDoorPn
import Derived.Test.YtdkencepmdfacaaGreatDoorGr3
set_option maxRecDepth 100000
namespace Go.Proofs.YtdkencepmdfacaaGreatDoor
open Go.RowKit

variable {F : Fence} {n : Nat} {P : Program}

/-- a caller's invariant does not mind a store into the iterator's own cell -/
def CellFree {β : Type} (B0 : Nat) (I : β → World → Prop) : Prop := ∀ s W v, I s W → I s (W.setCell ⟨B0, 0, none⟩ v)
/-- what a round leaves of the iterator's own block -/
def KeepsBlock (B0 : Nat) (W W' : World) : Prop := W'.heap[B0]? = W.heap[B0]?

/-- the contract of an iterator value that keeps its state in the cell of block B0 -/
def SeqC {α : Type} (F : Fence) (n : Nat) (P : Program) (g : Nat) (lb : Array Value) (encs : α → Array Value) (B0 : Nat) (S Sp : List α → Prop) (N : Nat) (G : α → Prop) (w : World) : Prop :=
  ∀ (l : Nat) (J Jx : List α → World → Prop) (W : World), Below w.heap.size w W → AbidesFrom W.heap.size J → AbidesFrom W.heap.size Jx → CellFree B0 J → CellFree B0 Jx →
    (∀ pre x W1, G x → J pre W1 → pre.length < N → YieldAt F (n - 1) P l (encs x) W1 fun e W' =>
      (e = .returned (.bool true) ∧ J (pre ++ [x]) W' ∧ KeepsBlock B0 W1 W') ∨ (e = .returned (.bool false) ∧ Jx (pre ++ [x]) W')) →
    J [] W →
    CallsIn F n P g (#[.func (.yield l) #[] #[]] ++ lb) W fun e W' => (∃ v, e = .returned v) ∧ ((∃ xs, S xs ∧ J xs W') ∨ (∃ pre, Sp pre ∧ Jx pre W'))

/-- how a round's body may be left -/
def postC {α : Type} (B B0 : Nat) (I : List α → World → Prop) (Ix : Code → List α → World → Prop) (xs : List α) (W : World) (e : Exit) (_a : Act) (W' : World) : Prop :=
  match e with
  | .normal => KeepsFrom B W W' ∧ KeepsBlock B0 W W' ∧ I xs W'
  | .ret => KeepsFrom B W W' ∧ Ix .ret xs W'
  | _ => False

theorem heap_setCell_obj (W : World) (B0 k : Nat) (v : Value) {o : Obj} (h : W.heap[k]? = some o) (ho : o.isCells = false) : (W.setCell ⟨B0, 0, none⟩ v).heap[k]? = some o :=
  (KeepsOthers.setCell W ⟨B0, 0, none⟩ v).same k o h ho

/-- the two facts of book-keeping that the loop carries: its record, and the block of its rounds' deferred calls -/
structure Kept2 (D : Nat) (r : Loop) (W : World) : Prop where
  lrec : W.heap[D + 1]? = some (.loop r)
  defs : W.heap[D]? = some (.deferred (some []))
theorem Kept2.cell {D B0 : Nat} {r : Loop} {W : World} (h : Kept2 D r W) (v : Value) : Kept2 D r (W.setCell ⟨B0, 0, none⟩ v) :=
  ⟨heap_setCell_obj _ _ _ _ h.lrec rfl, heap_setCell_obj _ _ _ _ h.defs rfl⟩
theorem Kept2.abide {D : Nat} {r : Loop} {W W' : World} {row : Option Nat} (h : Kept2 D r W) (hg : W.grownBy W' row) (hr : ∀ k, row = some k → ∃ o : Obj, W.heap[k]? = some o ∧ o.isWalk = true) : Kept2 D r W' :=
  ⟨(grownBy_keeps hg hr h.lrec rfl).trans h.lrec, (grownBy_keeps hg hr h.defs rfl).trans h.defs⟩

theorem wpIn_rangeFunc_cell {α : Type} {g : Operand} {ps : Array Tmp} {assign body : Code} {Q : Exit → Act → World → Prop} {a : Act} {w : World}
    (hro : F.round = none) (h1 : 1 ≤ n) {gf : Nat} {lb : Array Value} (hg : a.eval g = .func (.func gf) #[] lb) (hFg : F.fn gf) (eg : ∀ args w, (callFunc gf args).run P w = .ok (.enter gf args) w)
    {encs : α → Array Value} {B0 : Nat} {S Sp : List α → Prop} {N : Nat} {G : α → Prop} {w0 : World} (hseq : SeqC F (n - 1) P gf lb encs B0 S Sp N G w0) (hB0 : B0 < w.heap.size) (hb0 : Below w0.heap.size w0 w) (hps : ∀ x, (encs x).size = ps.size)
    (I : List α → World → Prop) (Ix : Code → List α → World → Prop) (hI : OwnFrom w.heap.size I) (hIx : OwnFrom w.heap.size (Ix .ret)) (cI : CellFree B0 I) (cIx : CellFree B0 (Ix .ret)) (h0 : I [] w) (a₁ : α → Act)
    (hassign : ∀ (l : Nat) (x : α) (W : World) (K : Act → World → Prop), K (a₁ x) W →
      assign.wpIn (F.inRound l) (n - 1 - 1) P (Exit.then K (fun _ _ _ => False)) { tmps := (ps.zip (encs x)).foldl (fun t (p, v) => t.setIfInBounds p v) a.tmps, defers := [] } W)
    (hbody : ∀ (l : Nat) (pre : List α) (x : α) (W : World), G x → I pre W → pre.length < N → body.wpIn (F.inRound l) (n - 1 - 1) P (postC w.heap.size B0 I Ix (pre ++ [x]) W) (a₁ x) W)
    (hdone : ∀ (D : Nat) (xs : List α) (W : World), w.heap.size ≤ D → S xs → I xs W → W.heap[D]? = some (.deferred (some [])) → Q .normal { a with defers := { target := .collected D, args := #[] } :: a.defers } W)
    (hstop : ∀ (D : Nat) (pre : List α) (W : World), w.heap.size ≤ D → Sp pre → Ix .ret pre W → W.heap[D]? = some (.deferred (some [])) → Code.ret.wpIn F n P Q { a with defers := { target := .collected D, args := #[] } :: a.defers } W) :
    (Code.rangeFunc g ps assign body).wpIn F n P Q a w := by
  obtain ⟨D, hD⟩ : ∃ D, D = w.heap.size := ⟨_, rfl⟩
  refine wpIn_rangeFunc fun fn hfn => ?_
  rw [hro]
  -- the record, by its state and its pending jump
  obtain ⟨R, hR⟩ : ∃ R : LoopState → Option Code → Loop, R = fun st pe => { state := st, pending := pe, fn, tmps := a.tmps, params := ps, assign, body, defers := D } := ⟨_, rfl⟩
  have start := run_enterLoop_outer (P := P) (w := w) fn a.tmps ps assign body
  obtain ⟨W1, hW1⟩ : ∃ W1, W1 = (w.alloc (.deferred (some []))).alloc (.loop (R .ready none)) := ⟨_, rfl⟩
  have hsz : W1.heap.size = D + 2 := by rw [hW1, hD]; simp
  have hal : w.grownBy W1 none := by
    rw [hW1]
    have a1 := World.grownBy_alloc w (.deferred (some [])) none
    have a2 := World.grownBy_alloc (w.alloc (.deferred (some []))) (.loop (R .ready none)) none
    exact ⟨a2.os.trans a1.os, a2.tape.trans a1.tape, a2.output.trans a1.output, Nat.le_trans a1.size a2.size, fun i hi hne => (a2.block i (Nat.lt_of_lt_of_le hi a1.size) hne).trans (a1.block i hi hne)⟩
  have k1 : Kept2 D (R .ready none) W1 := by
    refine ⟨?_, ?_⟩
    · rw [hW1, hD]
      have := World.alloc_heap_new (w.alloc (.deferred (some []))) (.loop (R .ready none))
      rwa [World.size_alloc] at this
    · rw [hW1, hD]
      exact (Below.heap_alloc _ _ _ (by simp)).trans (World.alloc_heap_new w _)
  have i1 : I [] W1 := hI _ _ _ _ h0 hal fun r e => by cases e
  have hb1 : Below w0.heap.size w0 W1 := hb0.trans ((Below.refl _ w).grown hal hb0.size fun k e => by cases e)
  refine ⟨D + 1, [{ target := .collected D, args := #[] }], W1, { target := .fn (.func gf) lb, args := #[.func (.yield (D + 1)) #[] #[]] }, W1, gf, #[.func (.yield (D + 1)) #[] #[]] ++ lb, W1, ?_, ?_, ?_, ?_, fun _ => h1, ?_⟩
  · rw [hW1, hR, hD]
    exact start
  · simp only [resolve, hg]
    simp [go_sem]
  · intro f' hf'
    simp [Target.leads] at hf'
    subst hf'
    exact hFg
  · simp [invoke, go_sem, eg]
  -- the record's block, turned by the law itself
  have turn : ∀ {pre : List α} {J : List α → World → Prop} {W : World} {st : LoopState} {pe : Option Code} (st' : LoopState) (pe' : Option Code), OwnFrom w.heap.size J → J pre W → Kept2 D (R st pe) W →
      J pre (W.putObj (D + 1) (.loop (R st' pe'))) ∧ Kept2 D (R st' pe') (W.putObj (D + 1) (.loop (R st' pe'))) := fun st' pe' hJ hj hk =>
    ⟨hJ.putObj _ hj (by omega) hk.lrec rfl, World.putObj_heap_same (Array.getElem?_eq_some_iff.1 hk.lrec).1, (World.putObj_heap_other (by omega)).trans hk.defs⟩
  have walkOwn : ∀ {A B : World} {row : Option Nat}, (∀ r, row = some r → W1.heap.size ≤ r ∧ ∃ o : Obj, A.heap[r]? = some o ∧ o.isWalk = true) → (∀ r, row = some r → w.heap.size ≤ r ∧ ∃ o : Obj, A.heap[r]? = some o ∧ o.isCells = false) := fun hr r e => by
    obtain ⟨hle, o, ho, hw⟩ := hr r e
    exact ⟨by omega, o, ho, Obj.not_cells_of_walk hw⟩
  have call := hseq (D + 1) (fun pre W => I pre W ∧ Kept2 D (R .ready none) W) (fun pre W => Ix .ret pre W ∧ Kept2 D (R .done (some .ret)) W) W1 hb1
    (fun s A B row hs hgr hr => ⟨hI s A B row hs.1 hgr (walkOwn (B := B) hr), hs.2.abide hgr fun k e => (hr k e).2⟩)
    (fun s A B row hs hgr hr => ⟨hIx s A B row hs.1 hgr (walkOwn (B := B) hr), hs.2.abide hgr fun k e => (hr k e).2⟩)
    (fun s W v hs => ⟨cI s W v hs.1, hs.2.cell v⟩) (fun s W v hs => ⟨cIx s W v hs.1, hs.2.cell v⟩) ?round ⟨i1, k1⟩
  · refine call.mono ?_
    rintro e W2 ⟨⟨v, rfl⟩, (⟨xs, hS, hi, hk⟩ | ⟨pre, hSp, hi, hk⟩)⟩
    · have hend := run_endLoop (P := P) hk.lrec (by rw [hR]; simp)
      obtain ⟨t1, t2⟩ := turn .exhausted none hI hi hk
      exact ⟨none, _, by rw [hR] at hend ⊢; exact hend, hdone D xs _ (by omega) hS t1 t2.defs⟩
    · have hend := run_endLoop (P := P) hk.lrec (by rw [hR]; simp)
      obtain ⟨t1, t2⟩ := turn .exhausted (some .ret) hIx hi hk
      exact ⟨some .ret, _, by rw [hR] at hend ⊢; exact hend, hstop D pre _ (by omega) hSp t1 t2.defs⟩
  case round =>
    rintro pre x W hG ⟨hi, hk⟩ hlen
    have hy := run_yield (P := P) (args := encs x) hk.lrec (by rw [hR]; exact hps x)
    rw [hR] at hy
    refine ⟨fn, _, assign, body, hy, roundIn_of_wpIn hfn (hassign _ x W _ ⟨_, run_beginRound hk.lrec (by rw [hR]), ?_⟩)⟩
    obtain ⟨t1, t2⟩ := turn .busy none hI hi hk
    have hbusy : ({ R .ready none with state := .busy } : Loop) = R .busy none := by rw [hR]
    rw [hbusy]
    refine wpIn_mono (hbody _ pre x _ hG t1 hlen) ?_
    rintro e a3 W3 hp
    have past : KeepsFrom w.heap.size (W.putObj (D + 1) (.loop (R .busy none))) W3 → Kept2 D (R .busy none) W3 := fun h => ⟨h.same _ _ (by omega) t2.lrec rfl, h.same _ _ (by omega) t2.defs rfl⟩
    match e, hp with
    | .normal, hp =>
      obtain ⟨p1, p2, p3⟩ := hp
      have k3 := past p1
      have hend := run_endRound (P := P) none k3.lrec
      obtain ⟨u1, u2⟩ := turn .ready none hI p3 k3
      refine ⟨_, _, by rw [hR] at hend ⊢; exact hend, .inl ⟨rfl, ⟨u1, u2⟩, ?_⟩⟩
      unfold KeepsBlock at p2 ⊢
      rw [World.putObj_heap_other (by omega), p2, World.putObj_heap_other (by omega)]
    | .ret, hp =>
      obtain ⟨p1, p3⟩ := hp
      have k3 := past p1
      have hend := run_endRound (P := P) (some .ret) k3.lrec
      obtain ⟨u1, u2⟩ := turn .done (some .ret) hIx p3 k3
      exact ⟨_, _, by rw [hR] at hend ⊢; exact hend, .inr ⟨rfl, u1, u2⟩⟩
end Go.Proofs.YtdkencepmdfacaaGreatDoor

set_option maxRecDepth 100000
namespace Go.Proofs.YtdkencepmdfacaaGreatDoor
open Go.RowKit Go.Shelf Ieee
attribute [local go_sem] Oper.semAt_some

def encL (x : List UInt8 × Bool) : Array Value := #[.string (strOf x.1), .bool x.2]
def leftT (B0 : Nat) (w : World) : Nat := match w.cell? ⟨B0, 0, none⟩ with | some (.string b) => b.size | _ => 0
def flagN : Value → Nat | .bool true => 1 | _ => 0
theorem leftT_eq {w : World} {B0 : Nat} {l : List UInt8} {t : TypeId} (h : Cells w B0 t #[.string (strOf l)]) : leftT B0 w = l.length := by
  unfold leftT
  rw [h.cell (j := 0) rfl]
  exact ba_size l
theorem str_ne {l : List UInt8} (h : l ≠ []) : (strOf l).toList.isEmpty = false := by
  rw [str_toList]
  cases l with
  | nil => exact absurd rfl h
  | cons _ _ => rfl

theorem lines_any (S : ByteArray) (w : World) : Calls Tryz.prog 128 #[.string S] w fun e w' => e = .returned (.func (.func 170) #[] #[.pointer (some ⟨w.heap.size, 0, none⟩)]) ∧ w' = w.alloc (.cells #[.string S] 9) := by
  go_enter Tryz.func128, Tryz.ntmps128
  go_wp2
  go_ret
  exact ⟨rfl, rfl⟩

set_option maxHeartbeats 2000000 in
set_option maxRecDepth 100000 in
theorem lines1_seq (n : Nat) (hn : 1 ≤ n) (B0 : Nat) (text : List UInt8) (hl : text.length < 1073741824) (w : World) (hC : Cells w B0 9 #[.string (strOf text)]) :
    SeqC Fence.wide n Tryz.prog 170 #[.pointer (some ⟨B0, 0, none⟩)] encL B0 (fun xs => xs = yl true (spl 10 text)) (fun pre => pre <+: yl true (spl 10 text)) (yl true (spl 10 text)).length (fun x => x.1.length < 1073741824) w := fun l J Jx W hW hJ hJx hF hFx hY h0 => by
  refine callsIn_of_wp Tryz.func170 rfl trivial ?_ rfl
  simp only [Tryz.ntmps170, List.size_toArray, List.length_cons, List.length_nil, Nat.reduceAdd, Nat.reduceSub, Array.replicate_succ, Array.replicate_zero, List.push_toArray, List.append_toArray, List.nil_append, List.cons_append]
  have hC0 : Cells W B0 9 #[.string (strOf text)] := hC.keep hW
  gi_wp2
  gi_loopw [3] (fun p wr => ∃ (pre : List (List UInt8 × Bool)) (rest : List UInt8) (f : Bool), p = .bool f ∧ yl true (spl 10 text) = pre ++ yl f (spl 10 rest) ∧ rest.length ≤ text.length ∧ Cells wr B0 9 #[.string (strOf rest)] ∧ J pre wr) (fun p wr => leftT B0 wr + flagN p)
  case atStart => exact ⟨[], text, true, rfl, rfl, Nat.le_refl _, hC0, h0⟩
  case round =>
    obtain ⟨pre, rest, f, rfl, hy, hlen, hcell, hJs⟩ := hrel
    have HY := Lib.hid hY
    have HC := Lib.hid hcell
    have c0 : wr.cell? ⟨B0, 0, none⟩ = some (.string (strOf rest)) := hcell.cell (j := 0) rfl
    have HL0 := Lib.hid (leftT_eq hcell)
    by_cases hgo : f = true ∨ rest ≠ []
    · -- the line, what is left, whether it is ended
      obtain ⟨a, b, en, hc, hstep, hab, hal⟩ : ∃ a b en, cutT 10 rest = (a, b, en) ∧ yl f (spl 10 rest) = (a, en) :: yl false (spl 10 b) ∧ (b.length < rest.length ∨ (b = [] ∧ rest = [] ∧ f = true)) ∧ a.length ≤ rest.length := by
        rcases cutT_cases 10 rest with ⟨hc, hs⟩ | ⟨a, b, hc, hs, hab⟩
        · refine ⟨rest, [], false, hc, (yl_step f rest hgo).1 hs, ?_, Nat.le_refl _⟩
          by_cases hr : rest = []
          · exact .inr ⟨rfl, hr, hgo.elim id fun h => absurd hr h⟩
          · exact .inl (by have := List.length_pos_iff.2 hr; simpa using this)
        · exact ⟨a, b, true, hc, (yl_step f rest hgo).2 a b hs, .inl (by omega), by omega⟩
      have k := fun W => cutT_any 10 rest (by omega) W
      rw [hc] at k
      have HREL : Hid (yl true (spl 10 text) = (pre ++ [(a, en)]) ++ yl false (spl 10 b) ∧ b.length ≤ text.length ∧ pre.length < (yl true (spl 10 text)).length) := Lib.hid ⟨by rw [hy, hstep]; simp, by rcases hab with h | h; omega; rw [h.1]; simp, by rw [hy, hstep]; simp⟩
      have HAL := Lib.hid (show a.length < 1073741824 from by omega)
      have HPRE : Hid ((pre ++ [(a, en)]) <+: yl true (spl 10 text)) := Lib.hid ⟨_, HREL.out.1.symm⟩
      have HM : Hid (b.length + flagN (.bool false) < leftT B0 wr + flagN (.bool f)) := Lib.hid (by
        rw [HL0.out]
        rcases hab with h | ⟨h1, h2, h3⟩
        · show b.length + 0 < _; omega
        · rw [h1, h2, h3]; decide)
      have HY2 : Hid (∀ k, J pre (wr.drewN k)) := Lib.hid fun k => hJ pre wr (wr.drewN k) none hJs (only_drewN (only_refl wr none) k) (fun r e => by cases e)
      have t1 : f = false → (strOf rest).toList.isEmpty = false := fun h => str_ne (hgo.elim (fun h2 => by rw [h] at h2; cases h2) id)
      have HB : Hid (∀ W' v, Cells W' B0 9 #[.string (strOf rest)] → Cells (W'.setCell ⟨B0, 0, none⟩ v) B0 9 #[v]) := Lib.hid fun W' v h => h.set 0 v
      clear hgo hc hstep hab hal hy hlen hJs hcell hC0 h0
      generalize hSr : strOf rest = Sr at *
      clear hSr
      cases f
      all_goals (try have t2 := t1 rfl)
      all_goals clear t1
      all_goals gi_wp2_with (refine ⟨trivial, ?_⟩; gi_at_call 28; refine (callsIn_wide.2 (k _)).mono ?_; rintro _ _ ⟨rfl, kk, rfl⟩; obtain ⟨f1, tm1, a1, b1, hy1, hR1⟩ := HY.out pre (a, en) (wr.drewN kk) HAL.out (HY2.out kk) HREL.out.2.2; dsimp only [encL] at hy1)
      all_goals refine hR1.mono ?_
      all_goals rintro e W' (⟨rfl, hJ', hk⟩ | ⟨rfl, hJx'⟩)
      · have hc' : Cells W' B0 9 #[.string Sr] := hk.trans HC.out
        have c1 := hc'.cell (j := 0) rfl
        have z1 := hc'.fz 0
        gi_wp2
        go_roundw
        case rel => exact ⟨pre ++ [(a, en)], b, false, rfl, HREL.out.1, HREL.out.2.1, hc'.set 0 _, hF _ _ _ hJ'⟩
        case measure => rw [leftT_eq (hc'.set 0 _)]; exact HM.out
      · gi_wp2
        refine bodyPost_ret (results_none rfl _ _ _) rfl ?_
        exact ⟨⟨_, rfl⟩, .inr ⟨pre ++ [(a, en)], HPRE.out, hJx'⟩⟩
      · have hc' : Cells W' B0 9 #[.string Sr] := hk.trans HC.out
        have c1 := hc'.cell (j := 0) rfl
        have z1 := hc'.fz 0
        gi_wp2
        go_roundw
        case rel => exact ⟨pre ++ [(a, en)], b, false, rfl, HREL.out.1, HREL.out.2.1, hc'.set 0 _, hF _ _ _ hJ'⟩
        case measure => rw [leftT_eq (hc'.set 0 _)]; exact HM.out
      · gi_wp2
        refine bodyPost_ret (results_none rfl _ _ _) rfl ?_
        exact ⟨⟨_, rfl⟩, .inr ⟨pre ++ [(a, en)], HPRE.out, hJx'⟩⟩
    · obtain rfl : f = false := by cases f; rfl; exact absurd (.inl rfl) hgo
      obtain rfl : rest = [] := Classical.byContradiction fun h => hgo (.inr h)
      have he : yl true (spl 10 text) = pre := by rw [hy, yl_end, List.append_nil]
      gi_wp2
      go_end0
      exact ⟨⟨_, rfl⟩, .inl ⟨pre, he.symm, hJs⟩⟩
end Go.Proofs.YtdkencepmdfacaaGreatDoor
