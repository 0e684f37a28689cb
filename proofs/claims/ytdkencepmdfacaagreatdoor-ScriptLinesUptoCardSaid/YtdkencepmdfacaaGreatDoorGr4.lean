/- What walks over memory lean on (no function of the program is named): rows of the call's own, what a call leaves as it was, bytes, slices of structs opened, a deferred function that begins with recover(). Package num's functions: what each answers (contracts). A run of the machine that the kernel reckons: for calls with given arguments. -/
import Derived.Test.YtdkencepmdfacaaGreatDoorPk
import Derived.Test.YtdkencepmdfacaaGreatDoorGr3
import Derived.Lib.Hide
import Derived.Maps.AppendAt
import Derived.Deep.AppendLies
import Derived.Deep.Onto
import Derived.Laws.BytesArg
import Derived.Laws.OwnMore
import Derived.Lib.AppendStr
import Derived.Lib.Strings
import Derived.Laws.MakeOwn
import Derived.Recover
import Derived.OneCell
import Derived.Deep.RegionHeld3
import Derived.Deep.SlicePairs
import Derived.Deep.Slices
import Derived.Deep.Fields
import Derived.ChangeSame
import Derived.Test.YtdkencepmdfacaaGreatDoorFl
import Derived.Test.YtdkencepmdfacaaGreatDoorGr1
import Derived.Calls
import Derived.KernelRfl
import Derived.Deep.Draws
import Derived.WalkKit
set_option maxRecDepth 100000
namespace Go.Proofs.YtdkencepmdfacaaGreatDoor
open Go.RowKit

section
variable {a b c w : World}
end

section
variable {a b c w : World} {S : List Nat}
end

section
variable {w w' : World} {B size n : Nat} {A : Option Addr} {C : Nat → Value}
end

theorem Cells.turns {w w' : World} {g : Nat} {t : TypeId} {c : Array Value} {S : List Nat} (h : Cells w g t c) (hb : Turns S w w') (hg : g ∉ S) : Cells w' g t c := hb.keep h hg
theorem row_turns {w w' : World} {S : List Nat} {base : Nat} {t : TypeId} {size : Nat} {v : Value} {n : Nat} {xs : List Value} (h : w.ownsRow base t size v n xs) (ht : Turns S w w') (hS : ∀ k, v.ownBlock = some k → k ∉ S) : w'.ownsRow base t size v n xs := by
  refine ⟨h.1, ?_⟩
  rcases h.2 with hn | ⟨k, cap, cur, rfl, hb, hg, rest⟩
  · exact .inl hn
  · exact .inr ⟨k, cap, cur, rfl, hb, (ht.block k (lt_of_block hg) (hS k rfl)).trans hg, rest⟩
end Go.Proofs.YtdkencepmdfacaaGreatDoor

namespace Go.Proofs.YtdkencepmdfacaaGreatDoor
open Go.RowKit

theorem own_block_type {w : World} {base : Nat} {t : TypeId} {size : Nat} {v : Value} {n : Nat} {xs : List Value} {g : Nat} (h : w.ownsRow base t size v n xs) (hv : v.ownBlock = some g) : ∃ cur, w.heap[g]? = some (.cells cur t (0, 0)) := by
  rcases h.2 with ⟨rfl, _⟩ | ⟨g', cap, cur, rfl, _, hh, _⟩
  · simp [Value.ownBlock] at hv
  · simp [Value.ownBlock] at hv
    subst hv
    exact ⟨cur, hh⟩

/-- append(s, u): u, of so many cells, lies in the newest block -/
theorem wpList_append_elem {P : Program} {w : World} {ops : Array Oper} {rest : List Oper} {o : Oper} {a : Act} {Q : Exit → Act → World → Prop} (hgd : o.guard = none) (s x : Operand) (t : TypeId)
    (ho : o.op = .call { callee := .builtin .append, args := #[s, x], argTypes := #[t, t] })
    (base : Nat) (e : TypeId) (i : TypeInfo) (z : Value) (size bytes : Nat) (ht : P.underlying t = some (.slice e)) (hi : P.info? e = some i) (hz : i.zero = some z)
    (hsize : i.size = size) (hby : i.bytes = bytes) (hzs : z.cells.size = size) (hsz : 0 < size)
    (v : Value) (n : Nat) (xs : List Value) (hs : a.eval s = v) (hown : w.ownsRow base e size v n xs) (us : Array Value) (hus : us.size = size) (h1 : ∀ u ∈ us.toList, u.oneCell' = true)
    (hx : a.eval x = .slice (some ⟨w.heap.size, 0, none⟩) 1 1) (hn : n < 1073741824) (hbytes : bytes ≤ 4096) (hbase : base ≤ w.heap.size)
    (h : ∀ v' w', w'.ownsRow base e size v' (n + 1) (xs ++ us.toList) → w.grownBy w' v.ownBlock → (v'.ownBlock = v.ownBlock ∨ ∃ k, v'.ownBlock = some k ∧ w.heap.size ≤ k) → wpList P ops Q rest (a.put o.dst v') w') :
    wpList P ops Q (o :: rest) a (w.alloc (.cells us e)) := by
  refine wpList_append_own_at (w := w.alloc (.cells us e)) hgd s x t ho base e i z size bytes ht hi hz hsize hby hzs hsz v n xs hs (hown.alloc _) ⟨w.heap.size, 0, none⟩ 1 1 us.toList hx (by simp [hus]) ?_ h1 ?_ ?_ ?_ ?_
  · intro j u hj
    have := World.cell?_alloc_mark w us e (0, 0) j
    rw [Array.getElem?_toList] at hj
    rw [← hj, ← this]
    by_cases hj0 : j = 0
    · subst hj0
      rfl
    · simp [Addr.add, hj0]
  · unfold maxLen; omega
  · calc (n + 1) * bytes ≤ 1073741824 * 4096 := Nat.mul_le_mul (by omega) hbytes
      _ ≤ _ := by decide
  · simp; omega
  · intro v' w' ho' hg _ hat
    have hg0 : w.grownBy w' v.ownBlock := by
      have ha := World.grownBy_alloc w (.cells us e) v.ownBlock
      exact ⟨hg.os.trans ha.os, hg.tape.trans ha.tape, hg.output.trans ha.output, Nat.le_trans ha.size hg.size, fun k hk hne => (hg.block k (Nat.lt_of_lt_of_le hk ha.size) hne).trans (ha.block k hk hne)⟩
    refine h v' w' ho' hg0 ?_
    rcases hat with hat | hat
    · exact .inl hat
    · exact .inr ⟨_, hat, by simp⟩

/-- .. where the newest block's number is written otherwise -/
theorem wpList_append_elem' {P : Program} {w : World} {ops : Array Oper} {rest : List Oper} {o : Oper} {a : Act} {Q : Exit → Act → World → Prop} (hgd : o.guard = none) (s x : Operand) (t : TypeId)
    (ho : o.op = .call { callee := .builtin .append, args := #[s, x], argTypes := #[t, t] })
    (base : Nat) (e : TypeId) (i : TypeInfo) (z : Value) (size bytes : Nat) (ht : P.underlying t = some (.slice e)) (hi : P.info? e = some i) (hz : i.zero = some z)
    (hsize : i.size = size) (hby : i.bytes = bytes) (hzs : z.cells.size = size) (hsz : 0 < size)
    (v : Value) (n : Nat) (xs : List Value) (hs : a.eval s = v) (hown : w.ownsRow base e size v n xs) (us : Array Value) (hus : us.size = size) (h1 : ∀ u ∈ us.toList, u.oneCell' = true)
    (k : Nat) (hx : a.eval x = .slice (some ⟨k, 0, none⟩) 1 1) (hk : k = w.heap.size) (hn : n < 1073741824) (hbytes : bytes ≤ 4096) (hbase : base ≤ w.heap.size)
    (h : ∀ v' w', w'.ownsRow base e size v' (n + 1) (xs ++ us.toList) → w.grownBy w' v.ownBlock → (v'.ownBlock = v.ownBlock ∨ ∃ k, v'.ownBlock = some k ∧ w.heap.size ≤ k) → wpList P ops Q rest (a.put o.dst v') w') :
    wpList P ops Q (o :: rest) a (w.alloc (.cells us e)) := by
  subst hk
  exact wpList_append_elem hgd s x t ho base e i z size bytes ht hi hz hsize hby hzs hsz v n xs hs hown us hus h1 hx hn hbytes hbase h

end Go.Proofs.YtdkencepmdfacaaGreatDoor

namespace Go.Proofs.YtdkencepmdfacaaGreatDoor
open Go

end Go.Proofs.YtdkencepmdfacaaGreatDoor

namespace Go.Proofs.YtdkencepmdfacaaGreatDoor
open Go.RowKit Go.WideShapes Go.ChangeShapes

/-- what the bound on bulk gives of each argument -/
theorem bulk_mem {H : Type} {ds : List (DataW H)} (hk : Rows.uptoSmall H ds = true) : ∀ d ∈ ds, Rows.uptoBulk d ≤ 1048576 := by
  have h : Rows.uptoBulkAll ds ≤ 1048576 := of_decide_eq_true hk
  have key : ∀ (l : List (DataW H)) (d : DataW H), d ∈ l → Rows.uptoBulk d ≤ Rows.uptoBulkAll l := by
    intro l
    induction l with
    | nil => intro d hd; cases hd
    | cons x xs ih =>
      intro d hd
      rw [Rows.uptoBulkAll]
      rcases List.mem_cons.1 hd with rfl | hd
      · omega
      · have := ih d hd
        omega
  intro d hd
  have := key ds d hd
  omega

theorem bulk_string {H : Type} {s : ByteArray} (h : Rows.uptoBulk (DataW.lit (H := H) (.string s.data.toList)) ≤ 1048576) : s.size < 1048576 := by
  rw [Rows.uptoBulk] at h
  have e : s.data.toList.length = s.size := by rw [Array.length_toList]; rfl
  omega

/-- an address whose cell is there has no spot -/
theorem addr_plain {w : World} {a : Addr} {v : Value} (h : w.cell? a = some v) : a = ⟨a.block, a.off, none⟩ := by
  obtain ⟨b, o, s⟩ := a
  cases s with
  | none => rfl
  | some x =>
    unfold World.cell? at h
    split at h <;> simp at h

theorem add_plain (b o j : Nat) : (⟨b, o, none⟩ : Addr).add j = ⟨b, o + j, none⟩ := by
  unfold Addr.add
  split
  · rename_i h; subst h; rfl
  · rfl
end Go.Proofs.YtdkencepmdfacaaGreatDoor

namespace Go.Proofs.YtdkencepmdfacaaGreatDoor
open Go.ChangeShapes Go.WideShapes Go.Deep Go.RowKit

section
variable {H : Type} {enc : TypeId × Value → H} {P : Program} {w : World} {base : Nat} {spare : Nat → Bool} {held : Bool}
theorem open_slice_fields {t e : TypeId} {fs : Array Field} {fuel : Nat} {cs : List Value} {x : DataW H × List MemPlace} (ht : P.underlying t = some (.slice e)) (he : P.underlying e = some (.struct fs))
    (hone : oneCellFields P fs = true) (hC : P.cellsOf e = fs.size) (h : DataW.trod enc P w base spare held fuel t cs = some x) :
    (cs = [.slice none 0 0] ∧ x = (.nil, [])) ∨
    ∃ (a : Addr) (len cap m : Nat) (D : Nat → DataW H) (Pl : Nat → List MemPlace), cs = [.slice (some a) len cap] ∧ base ≤ a.block ∧ len ≤ cap ∧ cap ≤ maxLen ∧ m = (if spare a.block then cap else len) ∧
      x = (.slice ((List.range len).map D) ((List.range (m - len)).map fun j => D (len + j)), MemPlace.row a (m * fs.size) ++ (List.range m).flatMap Pl) ∧
      ∀ i, i < m → ∃ (ys : List (DataW H × List MemPlace)) (n : Nat), D i = .agg (ys.map (·.1)) ∧ Pl i = ys.flatMap (·.2) ∧ ys.length = fs.size ∧
        ∀ (j : Nat) (f : Field), fs[j]? = some f → ∃ (v : Value) (y : DataW H × List MemPlace), w.cell? (a.add (i * fs.size + j)) = some v ∧ ys[j]? = some y ∧ DataW.trod enc P w base spare held n f.type [v] = some y := by
  rcases open_slice ht h with h0 | ⟨a, len, cap, m, n, D, Pl, hcs, hb, hl, hm, hmm, hx, hi⟩
  · exact .inl h0
  · refine .inr ⟨a, len, cap, m, D, Pl, hcs, hb, hl, hm, hmm, by rw [hC] at hx; exact hx, fun i him => ?_⟩
    obtain ⟨cs', hc, ht'⟩ := hi i him
    rw [hC] at hc
    obtain ⟨ys, n', hn', hy, hlen, hyl, hf⟩ := DataW.trod_struct he ht'
    obtain ⟨_, hcl, hat⟩ := World.cells?_some hc
    simp only [Prod.mk.injEq] at hy
    refine ⟨ys, n', hy.1, hy.2, hyl, fun j f hj => ?_⟩
    obtain ⟨ho, hk⟩ := hone_of hone j f hj
    have hjl : j < fs.size := (Array.getElem?_eq_some_iff.1 hj).1
    have hcell := hat j hjl
    have hv : cs'[j]? = some (cs'[j]'(by omega)) := List.getElem?_eq_getElem (by omega)
    have h1 := hf j f hj
    rw [ho, hk] at h1
    have hone' : (cs'.drop j).take 1 = [cs'[j]'(by omega)] := by
      rw [List.drop_eq_getElem_cons (by omega)]
      rfl
    rw [hone'] at h1
    have hys : ys[j]? = some (ys[j]'(by omega)) := List.getElem?_eq_getElem (by omega)
    refine ⟨_, _, ?_, hys, h1.trans hys⟩
    rw [← Go.Deep.add_add, hcell, hv]
end

end Go.Proofs.YtdkencepmdfacaaGreatDoor

set_option maxRecDepth 100000
namespace Go.Proofs.YtdkencepmdfacaaGreatDoor
open Go.RowKit Ieee

/-- a call that answers v and leaves the world as it was, but for what it draws -/
abbrev Told (f : FuncId) (args : Array Value) (v : Value) : Prop := ∀ w : World, Calls Tryz.prog f args w fun e w' => e = .returned v ∧ ∃ n, w' = w.drewN n

theorem raw_any (b : Nat) : Told 174 #[.float .f64 b] (.int .u64 ((fcan b : Nat) : Int)) := by
  intro w
  have hf := frombits_run
  have hb := bits_run
  have hcan : fcan b = if 9218868437227405312 < b % 9223372036854775808 then 9221120237041090561 else b := by
    unfold fcan isN nanB infB signB
    simp
  have HC := Lib.hid hcan
  clear hcan
  by_cases c : 9218868437227405312 < b % 9223372036854775808
  · have t := decide_eq_true c
    go_enter Tryz.func174, Tryz.ntmps174
    go_wp2_with (first | (go_at_call 103; refine (isnan_any _ _).mono ?_; rintro x w0 ⟨rfl, rfl⟩) | (go_at_call 181; go_in))
    go_ret
    exact ⟨by rw [HC.out, if_pos c]; rfl, 0, rfl⟩
  · have t := decide_eq_false c
    go_enter Tryz.func174, Tryz.ntmps174
    go_wp2_with (first | (go_at_call 103; refine (isnan_any _ _).mono ?_; rintro x w0 ⟨rfl, rfl⟩) | (go_at_call 181; go_in))
    go_ret
    exact ⟨by rw [HC.out, if_neg c]; rfl, 0, rfl⟩

theorem mabs_any {a : Nat} (ha : a < 2 * signB) (w : World) : Calls Tryz.prog 106 #[.float .f64 a] w fun e w' => e = .returned (.float .f64 (a % signB)) ∧ w = w' := by
  have hfb := frombits_run
  have hb := bits_run
  have hA := andNot_sign a (by unfold signB at ha; omega)
  clear ha
  go_enter Tryz.func106, Tryz.ntmps106
  go_wp2
  go_ret
  exact ⟨by unfold signB; simp, rfl⟩

end Go.Proofs.YtdkencepmdfacaaGreatDoor

set_option maxRecDepth 100000
namespace Go.Proofs.YtdkencepmdfacaaGreatDoor
open Go.RowKit

def aGo (fr : Frame) (cs : List Frame) : Goroutine := { frame := fr, callers := cs, status := .running, dying := none }
def plainGo (g : Goroutine) : Bool := (match g.status with | .running => true | _ => false) && g.dying.isNone && g.offers.isNone
theorem plainGo_eq {g : Goroutine} (h : plainGo g = true) : g = aGo g.frame g.callers := by
  obtain ⟨fr, cs, st, dy, of⟩ := g
  unfold plainGo at h
  cases st <;> cases dy <;> cases of <;> simp at h
  rfl

def isBack (fr : Frame) : Bool := (match fr.mode with | .returning => true | _ => false) && (match fr.defers with | [] => true | _ => false) && (match fr.kind with | .normal => true | _ => false)
theorem isBack_is {fr : Frame} (h : isBack fr = true) : fr.mode = .returning ∧ fr.defers = [] ∧ fr.kind = .normal := by
  unfold isBack at h
  cases hm : fr.mode <;> rw [hm] at h <;> simp at h
  cases hd : fr.defers <;> rw [hd] at h <;> simp at h
  cases hk : fr.kind <;> rw [hk] at h <;> simp at h
  exact ⟨rfl, rfl, rfl⟩

/-- runs on till the frame of function f is about to be left -/
def runB (P : Program) (f : FuncId) : Nat → Goroutine → World → Option (Goroutine × World)
  | 0, _, _ => none
  | n + 1, g, w => if Nat.beq g.frame.fn f && isBack g.frame then some (g, w) else match stepG P true g w with
    | .go g' w' _ => if plainGo g' then runB P f n g' w' else none
    | _ => none
theorem runB_steps {P : Program} {f : FuncId} : ∀ (n : Nat) (g : Goroutine) (w : World) (g' : Goroutine) (w' : World), plainGo g = true → runB P f n g w = some (g', w') → Steps P (lone g.frame g.callers w) (lone g'.frame g'.callers w')
  | 0, g, w, g', w', _, h => by
    unfold runB at h
    cases h
  | n + 1, g, w, g', w', hg, h => by
    unfold runB at h
    by_cases hb : (Nat.beq g.frame.fn f && isBack g.frame) = true
    · rw [if_pos hb] at h
      injection h with h
      injection h with h1 h2
      subst h1 h2
      exact Steps.refl _ _
    rw [if_neg hb] at h
    cases hs : stepG P true g w with
    | go g1 w1 es =>
      rw [hs] at h
      simp only at h
      by_cases h1 : plainGo g1 = true
      · rw [if_pos h1] at h
        have h3 := runB_steps n g1 w1 g' w' h1 h
        refine Steps.head (step_lone_go ?_) h3
        have e := plainGo_eq hg
        have e1 := plainGo_eq h1
        show (stepG P true (aGo g.frame g.callers) w).bare = .go (aGo g1.frame g1.callers) w1
        rw [← e, ← e1, hs]
        rfl
      · rw [if_neg h1] at h
        cases h
    | _ =>
      rw [hs] at h
      cases h

def runEnd (P : Program) (n : Nat) (f : FuncId) (fn : Func) (args : Array Value) (cs : List Frame) (w : World) : Option (List Frame × World × FuncId × Bool × Result Value) :=
  match runB P f n (aGo (Frame.enter P f args .normal) cs) w with
  | some (g, w') => some (g.callers, w', g.frame.fn, isBack g.frame, (results fn g.frame.tmps).run P w')
  | none => none

theorem calls_run {P : Program} {f : FuncId} {fn : Func} {args : Array Value} {w w' : World} {v : Value} (n : Nat) (hf : P.funcs[f]? = some fn) (h : ∀ cs, runEnd P n f fn args cs w = some (cs, w', f, true, .ok v w')) :
    Calls P f args w fun e x => e = .returned v ∧ x = w' := by
  intro cs
  have h1 := h cs
  unfold runEnd at h1
  cases hr : runB P f n (aGo (Frame.enter P f args .normal) cs) w with
  | none => rw [hr] at h1; cases h1
  | some gw =>
    obtain ⟨g, w1⟩ := gw
    rw [hr] at h1
    simp only [Option.some.injEq, Prod.mk.injEq] at h1
    obtain ⟨c1, c2, c3, c4, c5⟩ := h1
    have hs := runB_steps n _ _ _ _ rfl hr
    rw [c1, c2] at hs
    obtain ⟨b1, b2, b3⟩ := isBack_is c4
    rw [c2] at c5
    refine ⟨.returned v, w', g.frame, ⟨rfl, rfl⟩, hs, c3, b1, b2, b3, fn, ?_, c5⟩
    rw [c3]
    exact hf

/-! ### a run that calls what is told elsewhere -/
theorem grow_trans {a b c : World} (h : Below a.heap.size a b) (k : Below b.heap.size b c) : Below a.heap.size a c :=
  ⟨k.os.trans h.os, k.tape.trans h.tape, k.output.trans h.output, Nat.le_trans h.size k.size, fun i hi => (k.block i (Nat.lt_of_lt_of_le hi h.size)).trans (h.block i hi)⟩
theorem grow_drewN (a : World) (n : Nat) : Below a.heap.size a (a.drewN n) := ⟨rfl, rfl, rfl, Nat.le_refl _, fun _ _ => rfl⟩
theorem cell_lt {w : World} {a : Addr} {v : Value} (h : w.cell? a = some v) : a.block < w.heap.size := by
  rcases Nat.lt_or_ge a.block w.heap.size with h1 | h1
  · exact h1
  · simp [World.cell?, Array.getElem?_eq_none h1] at h
theorem cell_keeps {w x : World} {a : Addr} {v : Value} (h : Below w.heap.size w x) (hc : w.cell? a = some v) : x.cell? a = some v := (h.cell (cell_lt hc)).trans hc

end Go.Proofs.YtdkencepmdfacaaGreatDoor
