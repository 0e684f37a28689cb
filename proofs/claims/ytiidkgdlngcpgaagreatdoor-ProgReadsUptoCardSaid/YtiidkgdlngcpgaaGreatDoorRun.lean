/- A run of the machine that the kernel reckons: for calls with given arguments. -/
import Derived.Calls
import Derived.KernelRfl
import Derived.Deep.Draws
import Derived.WalkKit
set_option maxRecDepth 100000
namespace Go.Proofs.YtiidkgdlngcpgaaGreatDoor
open Go.RowKit

def aGo (fr : Frame) (cs : List Frame) : Goroutine := { frame := fr, callers := cs, status := .running, dying := none }
def plainGo (g : Goroutine) : Bool := (match g.status with | .running => true | _ => false) && g.dying.isNone && g.offers.isNone
theorem plainGo_eq {g : Goroutine} (h : plainGo g = true) : g = aGo g.frame g.callers := by
  obtain ⟨fr, cs, st, dy, of⟩ := g
  unfold plainGo at h
  cases st <;> cases dy <;> cases of <;> simp at h
  rfl

def runF (P : Program) : Nat → Goroutine → World → Option (Goroutine × World)
  | 0, g, w => some (g, w)
  | n + 1, g, w => match stepG P true g w with
    | .go g' w' _ => if plainGo g' then runF P n g' w' else none
    | _ => none

theorem runF_steps {P : Program} : ∀ (n : Nat) (g : Goroutine) (w : World) (g' : Goroutine) (w' : World), plainGo g = true → runF P n g w = some (g', w') → Steps P (lone g.frame g.callers w) (lone g'.frame g'.callers w')
  | 0, g, w, g', w', _, h => by
    unfold runF at h
    injection h with h
    injection h with h1 h2
    subst h1 h2
    exact Steps.refl _ _
  | n + 1, g, w, g', w', hg, h => by
    unfold runF at h
    cases hs : stepG P true g w with
    | go g1 w1 es =>
      rw [hs] at h
      simp only at h
      by_cases h1 : plainGo g1 = true
      · rw [if_pos h1] at h
        have h3 := runF_steps n g1 w1 g' w' h1 h
        refine Steps.head (step_lone_go ?_) h3
        have e := plainGo_eq hg
        have e1 := plainGo_eq h1
        show (stepG P true (aGo g.frame g.callers) w).bare = .go (aGo g1.frame g1.callers) w1
        rw [← e, ← e1, hs]
        rfl
      · rw [if_neg h1] at h
        cases h
    | _ =>
      rw [hs] at h
      cases h

def isBack (fr : Frame) : Bool := (match fr.mode with | .returning => true | _ => false) && (match fr.defers with | [] => true | _ => false) && (match fr.kind with | .normal => true | _ => false)
theorem isBack_is {fr : Frame} (h : isBack fr = true) : fr.mode = .returning ∧ fr.defers = [] ∧ fr.kind = .normal := by
  unfold isBack at h
  cases hm : fr.mode <;> rw [hm] at h <;> simp at h
  cases hd : fr.defers <;> rw [hd] at h <;> simp at h
  cases hk : fr.kind <;> rw [hk] at h <;> simp at h
  exact ⟨rfl, rfl, rfl⟩

/-- runs on till the frame of function f is about to be left -/
def runB (P : Program) (f : FuncId) : Nat → Goroutine → World → Option (Goroutine × World)
  | 0, _, _ => none
  | n + 1, g, w => if Nat.beq g.frame.fn f && isBack g.frame then some (g, w) else match stepG P true g w with
    | .go g' w' _ => if plainGo g' then runB P f n g' w' else none
    | _ => none
theorem runB_steps {P : Program} {f : FuncId} : ∀ (n : Nat) (g : Goroutine) (w : World) (g' : Goroutine) (w' : World), plainGo g = true → runB P f n g w = some (g', w') → Steps P (lone g.frame g.callers w) (lone g'.frame g'.callers w')
  | 0, g, w, g', w', _, h => by
    unfold runB at h
    cases h
  | n + 1, g, w, g', w', hg, h => by
    unfold runB at h
    by_cases hb : (Nat.beq g.frame.fn f && isBack g.frame) = true
    · rw [if_pos hb] at h
      injection h with h
      injection h with h1 h2
      subst h1 h2
      exact Steps.refl _ _
    rw [if_neg hb] at h
    cases hs : stepG P true g w with
    | go g1 w1 es =>
      rw [hs] at h
      simp only at h
      by_cases h1 : plainGo g1 = true
      · rw [if_pos h1] at h
        have h3 := runB_steps n g1 w1 g' w' h1 h
        refine Steps.head (step_lone_go ?_) h3
        have e := plainGo_eq hg
        have e1 := plainGo_eq h1
        show (stepG P true (aGo g.frame g.callers) w).bare = .go (aGo g1.frame g1.callers) w1
        rw [← e, ← e1, hs]
        rfl
      · rw [if_neg h1] at h
        cases h
    | _ =>
      rw [hs] at h
      cases h

def runEnd (P : Program) (n : Nat) (f : FuncId) (fn : Func) (args : Array Value) (cs : List Frame) (w : World) : Option (List Frame × World × FuncId × Bool × Result Value) :=
  match runB P f n (aGo (Frame.enter P f args .normal) cs) w with
  | some (g, w') => some (g.callers, w', g.frame.fn, isBack g.frame, (results fn g.frame.tmps).run P w')
  | none => none

theorem calls_run {P : Program} {f : FuncId} {fn : Func} {args : Array Value} {w w' : World} {v : Value} (n : Nat) (hf : P.funcs[f]? = some fn) (h : ∀ cs, runEnd P n f fn args cs w = some (cs, w', f, true, .ok v w')) :
    Calls P f args w fun e x => e = .returned v ∧ x = w' := by
  intro cs
  have h1 := h cs
  unfold runEnd at h1
  cases hr : runB P f n (aGo (Frame.enter P f args .normal) cs) w with
  | none => rw [hr] at h1; cases h1
  | some gw =>
    obtain ⟨g, w1⟩ := gw
    rw [hr] at h1
    simp only [Option.some.injEq, Prod.mk.injEq] at h1
    obtain ⟨c1, c2, c3, c4, c5⟩ := h1
    have hs := runB_steps n _ _ _ _ rfl hr
    rw [c1, c2] at hs
    obtain ⟨b1, b2, b3⟩ := isBack_is c4
    rw [c2] at c5
    refine ⟨.returned v, w', g.frame, ⟨rfl, rfl⟩, hs, c3, b1, b2, b3, fn, ?_, c5⟩
    rw [c3]
    exact hf

/-! ### a run that calls what is told elsewhere -/
theorem grow_trans {a b c : World} (h : Below a.heap.size a b) (k : Below b.heap.size b c) : Below a.heap.size a c :=
  ⟨k.os.trans h.os, k.tape.trans h.tape, k.output.trans h.output, Nat.le_trans h.size k.size, fun i hi => (k.block i (Nat.lt_of_lt_of_le hi h.size)).trans (h.block i hi)⟩
theorem grow_from {a b : World} {n : Nat} (h : Below (a.drewN n).heap.size (a.drewN n) b) : Below a.heap.size a b := ⟨h.os, h.tape, h.output, h.size, h.block⟩
theorem grow_drewN (a : World) (n : Nat) : Below a.heap.size a (a.drewN n) := ⟨rfl, rfl, rfl, Nat.le_refl _, fun _ _ => rfl⟩
theorem cell_lt {w : World} {a : Addr} {v : Value} (h : w.cell? a = some v) : a.block < w.heap.size := by
  rcases Nat.lt_or_ge a.block w.heap.size with h1 | h1
  · exact h1
  · simp [World.cell?, Array.getElem?_eq_none h1] at h
theorem cell_keeps {w x : World} {a : Addr} {v : Value} (h : Below w.heap.size w x) (hc : w.cell? a = some v) : x.cell? a = some v := (h.cell (cell_lt hc)).trans hc
/-- from a frame, with callers of its own ahead, on till function f is left with the value v; of what was there nothing has turned -/
def Goes (P : Program) (f : FuncId) (fn : Func) (w : World) (v : Value) (fr : Frame) (Cs : List Frame) : Prop :=
  ∀ cs, ∃ fr' x, Below w.heap.size w x ∧ Steps P (lone fr (Cs ++ cs) w) (lone fr' cs x) ∧ fr'.fn = f ∧ fr'.mode = .returning ∧ fr'.defers = [] ∧ fr'.kind = .normal ∧ (results fn fr'.tmps).run P x = .ok v x

theorem calls_of_goes {P : Program} {f : FuncId} {fn : Func} {args : Array Value} {w : World} {v : Value} (hf : P.funcs[f]? = some fn) (h : Goes P f fn w v (Frame.enter P f args .normal) []) :
    Calls P f args w fun e x => e = .returned v ∧ Below w.heap.size w x := by
  intro cs
  obtain ⟨fr', x, hb, hs, h1, h2, h3, h4, h5⟩ := h cs
  refine ⟨.returned v, x, fr', ⟨rfl, hb⟩, hs, h1, h2, h3, h4, fn, ?_, h5⟩
  rw [h1]
  exact hf

def lastEnd (P : Program) (n : Nat) (f : FuncId) (fn : Func) (fr : Frame) (cs : List Frame) (w : World) : Option (List Frame × World × FuncId × Bool × Result Value) :=
  match runB P f n (aGo fr cs) w with
  | some (g, w') => some (g.callers, w', g.frame.fn, isBack g.frame, (results fn g.frame.tmps).run P w')
  | none => none
theorem goes_end {P : Program} {f : FuncId} {fn : Func} {w : World} {v : Value} {fr : Frame} {Cs : List Frame} (n : Nat) (h : ∀ cs, lastEnd P n f fn fr (Cs ++ cs) w = some (cs, w, f, true, .ok v w)) : Goes P f fn w v fr Cs := by
  intro cs
  have h1 := h cs
  unfold lastEnd at h1
  cases hr : runB P f n (aGo fr (Cs ++ cs)) w with
  | none => rw [hr] at h1; cases h1
  | some gw =>
    obtain ⟨g, w1⟩ := gw
    rw [hr] at h1
    simp only [Option.some.injEq, Prod.mk.injEq] at h1
    obtain ⟨c1, c2, c3, c4, c5⟩ := h1
    have hs := runB_steps n _ _ _ _ rfl hr
    rw [c1, c2] at hs
    obtain ⟨b1, b2, b3⟩ := isBack_is c4
    rw [c2] at c5
    exact ⟨g.frame, w, Below.refl _ _, hs, c3, b1, b2, b3, c5⟩

/-- runs on till function t is entered -/
def runT (P : Program) (t : FuncId) : Nat → Goroutine → World → Option (Goroutine × World)
  | 0, _, _ => none
  | n + 1, g, w => if Nat.beq g.frame.fn t then some (g, w) else match stepG P true g w with
    | .go g' w' _ => if plainGo g' then runT P t n g' w' else none
    | _ => none
theorem runT_steps {P : Program} {t : FuncId} : ∀ (n : Nat) (g : Goroutine) (w : World) (g' : Goroutine) (w' : World), plainGo g = true → runT P t n g w = some (g', w') → Steps P (lone g.frame g.callers w) (lone g'.frame g'.callers w')
  | 0, g, w, g', w', _, h => by
    unfold runT at h
    cases h
  | n + 1, g, w, g', w', hg, h => by
    unfold runT at h
    by_cases hb : Nat.beq g.frame.fn t = true
    · rw [if_pos hb] at h
      injection h with h
      injection h with h1 h2
      subst h1 h2
      exact Steps.refl _ _
    rw [if_neg hb] at h
    cases hs : stepG P true g w with
    | go g1 w1 es =>
      rw [hs] at h
      simp only at h
      by_cases h1 : plainGo g1 = true
      · rw [if_pos h1] at h
        have h3 := runT_steps n g1 w1 g' w' h1 h
        refine Steps.head (step_lone_go ?_) h3
        have e := plainGo_eq hg
        have e1 := plainGo_eq h1
        show (stepG P true (aGo g.frame g.callers) w).bare = .go (aGo g1.frame g1.callers) w1
        rw [← e, ← e1, hs]
        rfl
      · rw [if_neg h1] at h
        cases h
    | _ =>
      rw [hs] at h
      cases h
def tillEnter (P : Program) (n : Nat) (t : FuncId) (fr : Frame) (cs : List Frame) (w : World) : Option (Frame × List Frame × World) :=
  match runT P t n (aGo fr cs) w with
  | some (g, w') => some (g.frame, g.callers, w')
  | none => none
/-- the frames that wait when function t is entered -/
def waiting (P : Program) (n : Nat) (t : FuncId) (fr : Frame) (cs : List Frame) (w : World) : List Frame :=
  match tillEnter P n t fr cs w with
  | some (_, l, _) => l
  | none => []
theorem goes_via {P : Program} {f : FuncId} {fn : Func} {w : World} {v : Value} {fr : Frame} {Cs : List Frame} (n : Nat) {t : FuncId} {targs : Array Value} {tv : Value} {c : Frame} {Ds : List Frame}
    (h1 : ∀ cs, tillEnter P n t fr (Cs ++ cs) w = some (Frame.enter P t targs .normal, c :: (Ds ++ cs), w))
    (h2 : Calls P t targs w fun e x => e = .returned tv ∧ Below w.heap.size w x) (h3 : ∀ x, Below w.heap.size w x → Goes P f fn x v (c.finish tv) Ds) : Goes P f fn w v fr Cs := by
  intro cs
  have h := h1 cs
  unfold tillEnter at h
  cases hr : runT P t n (aGo fr (Cs ++ cs)) w with
  | none => rw [hr] at h; cases h
  | some gw =>
    obtain ⟨g, w1⟩ := gw
    rw [hr] at h
    simp only [Option.some.injEq, Prod.mk.injEq] at h
    obtain ⟨c1, c2, c3⟩ := h
    have hs := runT_steps n _ _ _ _ rfl hr
    rw [c1, c2, c3] at hs
    obtain ⟨e, x, b, ⟨he, hx⟩, hc, hl⟩ := h2 (c :: (Ds ++ cs))
    subst he
    have hc' : Steps P (lone (Frame.enter P t targs .normal) (c :: (Ds ++ cs)) w) (lone b (c :: (Ds ++ cs)) x) := hc
    have hst := step_leave_returned (c := c) (cs := Ds ++ cs) hl.2
    obtain ⟨fr', y, hy, g1, g2⟩ := h3 x hx cs
    exact ⟨fr', y, grow_trans hx hy, Steps.trans hs (Steps.trans hc' (Steps.head hst g1)), g2⟩
end Go.Proofs.YtiidkgdlngcpgaaGreatDoor
