/- A deferred function whose first operation is recover(): behind it the plain walk goes on. -/
import Derived.WalkKit
import Derived.Recover
set_option maxRecDepth 100000
namespace Go.Proofs.Ytpnfdmglhonkmaa
open Go

theorem wpS_region_recover {P : Program} {Q : Exit → Act → List Frame → World → Prop} {a : Act} {cs cs' : List Frame} {w : World} {id : Nat} {ops : Array Oper} {o : Oper} {rest : List Nat} {v : Value}
    (hl : List.range ops.size = 0 :: rest) (ho : ops[0]? = some o) (hw : Region.wanted o (yielded ops a.tmps) = true) (hop : (execOp a.eval o).run P w = .ok .recover w)
    (hrec : recoverD cs = some (v, cs') ∨ (recoverD cs = none ∧ v = .nilIface ∧ cs' = cs))
    (h : wpOps P ops (fun e a w => Q e a cs' w) rest (a.put o.dst v) w) : (Code.region id ops false).wpS P Q a cs w := by
  intro b k hb hro
  obtain ⟨e, a', w', hq, harr⟩ := wp_ops rest _ _ h b k cs'
  refine ⟨e, a', cs', w', hq, .of_steps (.one step_region) ?_⟩
  rw [hl]
  have hg := stepG_op (P := P) (b := b) (k := k) (cs := cs) (w := w) (rest := rest) ho hw
  have hfin : ∀ v, (b.at a (.inRegion ops (0 :: rest) :: k)).finish v = b.at (a.put o.dst v) (.inRegion ops rest :: k) := by
    intro v; rw [Frame.finish_at, ho]; rfl
  have hk : (b.at a (.inRegion ops (0 :: rest) :: k)).kind = .deferred := hb
  have htr := tryRecover_deferred hk cs
  refine .of_steps (.one (step_lone_go ?_)) harr
  rcases hrec with hrec | ⟨hrec, rfl, rfl⟩
  · rw [hg, ← hfin]
    simp only [Frame.at] at htr ⊢
    simp [stepG.apply, hop, htr, hrec]
  · rw [hg, ← hfin]
    simp only [Frame.at] at htr ⊢
    simp [stepG.apply, hop, htr, hrec]

/-- the mode that recover() leaves the frame below in -/
def caught : FrameMode → FrameMode
  | .panicking ({ v, recovered := false, goexit := false } :: older) => .panicking ({ v, recovered := true } :: older)
  | u => u
/-- .. and what it answers -/
def thrown : FrameMode → Value
  | .panicking ({ v, recovered := false, goexit := false } :: _) => v
  | _ => .nilIface

theorem recoverD_caught (c : Frame) (cs : List Frame) :
    recoverD (c :: cs) = some (thrown c.mode, { c with mode := caught c.mode } :: cs) ∨ (recoverD (c :: cs) = none ∧ thrown c.mode = .nilIface ∧ { c with mode := caught c.mode } :: cs = c :: cs) := by
  obtain ⟨fn, tmps, todo, defers, mode, kind, roundOf⟩ := c
  cases mode with
  | run => simp [recoverD, thrown, caught]
  | returning => simp [recoverD, thrown, caught]
  | panicking chain =>
    cases chain with
    | nil => simp [recoverD, thrown, caught]
    | cons x xs =>
      obtain ⟨v, r, g⟩ := x
      cases r <;> cases g <;> simp [recoverD, thrown, caught]

theorem wp_mono2 {P : Program} {o : Oper} {a : Act} {w : World} {K K' : Act → World → Prop} {Q Q' : Exit → Act → World → Prop} (hK : ∀ a w, K a w → K' a w) (hQ : ∀ e a w, Q e a w → Q' e a w)
    (h : o.wp P a w K Q) : o.wp P a w K' Q' := by
  unfold Oper.wp at h ⊢
  generalize (execOp a.eval o).run P w = r at h ⊢
  cases r with
  | halt x w' => cases x <;> first | exact hQ _ _ _ h | exact h.elim
  | ok x w' =>
    cases x with
    | value v => exact hK _ _ h
    | skip => exact hK _ _ h
    | defer d => exact hK _ _ h
    | enter f args =>
      refine Calls.mono h fun e w'' he => ?_
      cases e with
      | returned v => exact hK _ _ he
      | panicked chain => exact hQ _ _ _ he
      | outgrown => obtain ⟨a0, w0, hq⟩ := he; exact ⟨a0, w0, hQ _ _ _ hq⟩
    | row row args => exact Rows.mono h fun v w'' hv => hK _ _ hv
    | _ => exact h.elim

theorem wpList_mono {P : Program} {ops : Array Oper} {Q Q' : Exit → Act → World → Prop} (hQ : ∀ e a w, Q e a w → Q' e a w) : ∀ (l : List Oper) (a : Act) (w : World), wpList P ops Q l a w → wpList P ops Q' l a w
  | [], a, w, h => hQ _ _ _ h
  | o :: l, a, w, h => by
    unfold wpList at h ⊢
    split
    · rename_i hw
      rw [if_pos hw] at h
      rcases h with h | ⟨h, a0, w0, hq⟩
      · exact .inl (wp_mono2 (wpList_mono hQ l) hQ h)
      · exact .inr ⟨h, a0, w0, hQ _ _ _ hq⟩
    · rename_i hw
      rw [if_neg hw] at h
      exact wpList_mono hQ l _ _ h

/-- a deferred function whose body is 'recover() and more' -/
theorem callsD_recover {P : Program} {f : FuncId} {fn : Func} {id : Nat} {o : Oper} {l : List Oper} {y : Code} {args : Array Value} {u : FrameMode} {w : World} {R : Ending → World → Prop}
    (hf : P.funcs[f]? = some fn) (hb : fn.body = some (.seq (.region id (o :: l).toArray false) y)) (hgd : o.guard = none)
    (hop : ∀ (a : Act), (execOp a.eval o).run P w = .ok .recover w)
    (h : wpList P (o :: l).toArray (Exit.then (fun a w => y.wp P (bodyPost P fn R) a w) (bodyPost P fn R)) l
      ((⟨args ++ Array.replicate (fn.ntmps - args.size) undef, []⟩ : Act).put o.dst (thrown u)) w) :
    CallsD P f args u w fun e u' w' => u' = caught u ∧ R e w' := by
  refine callsD_of_wpS hf hb fun c₀ cs hu => ?_
  apply wpS_seq
  refine wpS_region_recover (cs' := { c₀ with mode := caught u } :: cs) (v := thrown u) (o := o) (rest := List.range' 1 l.length) ?_ (by simp) (by simp [Region.wanted, hgd]) (hop _) (by subst hu; exact recoverD_caught c₀ cs) ?_
  · rw [List.range_eq_range']; simp [List.range'_succ]
  · rw [wpOps_eq_wpList l 1 (fun j => by rw [Nat.add_comm]; simp)]
    have hpost : ∀ e a w, bodyPost P fn R e a w → bodyPostS P fn c₀ cs (fun e u' w' => u' = caught u ∧ R e w') e a ({ c₀ with mode := caught u } :: cs) w := by
      intro e a w hq
      cases e with
      | normal => obtain ⟨hd, v, hr, hR⟩ := hq; exact ⟨hd, _, rfl, v, hr, rfl, hR⟩
      | ret => obtain ⟨hd, v, hr, hR⟩ := hq; exact ⟨hd, _, rfl, v, hr, rfl, hR⟩
      | panic chain => obtain ⟨hd, hR⟩ := hq; exact ⟨hd, _, rfl, rfl, hR⟩
      | exit id => exact hq.elim
      | goto l => exact hq.elim
      | outgrown => exact ⟨_, rfl, hq⟩
    refine wpList_mono ?_ l _ _ h
    intro e a w hq
    cases e with
    | normal => exact wpS_of_wp (Code.wp_mono hpost hq)
    | exit id => exact hpost (.exit id) a w hq
    | goto l => exact hpost (.goto l) a w hq
    | ret => exact hpost .ret a w hq
    | panic ch => exact hpost (.panic ch) a w hq
    | outgrown => exact hpost .outgrown a w hq
end Go.Proofs.Ytpnfdmglhonkmaa
