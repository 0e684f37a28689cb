/- Programs without jumps (plain): each instruction once, in order. -/
import Derived.Test.YtjloiclbknfomaaDoorKf
import Derived.Test.YtjloiclbknfomaaDoorKy
set_option maxRecDepth 100000
namespace Go.Proofs.YtjloiclbknfomaaDoor
open Ieee

/-- the op at a place -/
def opAt (l : List Ins) (i : Nat) : Int := (l.getD i default).op
/-- how often an op stands among the first so many -/
def cntTo (l : List Ins) (o : Int) : Nat → Nat
  | 0 => 0
  | n + 1 => cntTo l o n + if opAt l n = o then 1 else 0
/-- where it halts, as far as the first so many tell -/
def haltTo (l : List Ins) : Nat → Nat
  | 0 => l.length
  | n + 1 => if opAt l n = 24 ∨ opAt l n = 23 then min (haltTo l n) (n + 1) else haltTo l n
def StraightTo (l : List Ins) (n : Nat) : Prop := ∀ i, i < n → opAt l i < 14 ∨ 18 < opAt l i
theorem halt_le (l : List Ins) : ∀ n, haltTo l n ≤ l.length
  | 0 => Nat.le_refl _
  | n + 1 => by
    have := halt_le l n
    unfold haltTo
    split <;> omega
theorem halt_ge {l : List Ins} {k : Nat} (h : ∀ i, i < k → opAt l i ≠ 23 ∧ opAt l i ≠ 24) (hk : k < l.length) : ∀ n, k + 1 ≤ haltTo l n
  | 0 => hk
  | n + 1 => by
    have := halt_ge h hk n
    unfold haltTo
    split
    · rename_i h1
      have : ¬ n < k := fun hn => by have := h n hn; omega
      omega
    · exact this
theorem halt_hit {l : List Ins} {k : Nat} (h : opAt l k = 24 ∨ opAt l k = 23) : ∀ n, k < n → haltTo l n ≤ k + 1
  | 0, hn => by omega
  | n + 1, hn => by
    unfold haltTo
    by_cases e : k = n
    · subst e
      rw [if_pos h]
      omega
    · have := halt_hit h n (by omega)
      split <;> omega
theorem cnt_le (l : List Ins) (o : Int) : ∀ n, cntTo l o n ≤ n
  | 0 => Nat.le_refl _
  | n + 1 => by
    have := cnt_le l o n
    unfold cntTo
    split <;> omega

structure Str (l : List Ins) (f : Nat) (m : Mach) (acts : List (Int × List UInt8)) : Prop where
  code : m.code = l
  fuel : m.fuel = f
  at_ : m.at_ = m.done
  lt : m.done < l.length
  over : m.over = false
  no : ∀ i, i < m.done → opAt l i ≠ 23 ∧ opAt l i ≠ 24
  c : m.chunks = cntTo l 21 m.done
  p : m.pieces = cntTo l 22 m.done
  cl : (chunksOf acts).length = cntTo l 21 m.done
  pl : (piecesOf acts).length = cntTo l 22 m.done
def StrFin (l : List Ins) (f : Nat) (code : Int) (done cl pl : Nat) : Prop :=
  (code = 0 ∨ code = 7) ∧ done = haltTo l l.length ∧ done ≤ f ∧ cl = cntTo l 21 done ∧ pl = cntTo l 22 done ∨
  code = 1 ∧ done = f ∧ f < haltTo l l.length ∧ cl = cntTo l 21 done ∧ pl = cntTo l 22 done ∨
  (code = 2 ∨ code = 3) ∧ done ≤ haltTo l l.length ∧ done ≤ f ∧ (opAt l (done - 1) = 19 ∨ opAt l (done - 1) = 20) ∨
  code = 5 ∧ done ≤ haltTo l l.length ∧ cl = 32 ∨
  code = 6 ∧ done ≤ haltTo l l.length ∧ pl = 16
structure StrEnd (l : List Ins) (f : Nat) (m : Mach) (acts : List (Int × List UInt8)) : Prop where
  one : 1 ≤ m.done
  le : m.done ≤ l.length
  fin : StrFin l f m.rcode m.done (chunksOf acts).length (piecesOf acts).length

theorem next_str {l : List Ins} {f : Nat} {m : Mach} {x : Ins} {acts : List (Int × List UInt8)} {d : Nat} (hx : x.op = opAt l d) (h1 : m.code = l) (h2 : m.fuel = f) (h3 : m.done = d + 1) (h4 : d < l.length) (h5 : m.over = false) (hat : m.at_ = d + 1) (hf : d + 1 ≤ f)
    (hno : ∀ i, i < d → opAt l i ≠ 23 ∧ opAt l i ≠ 24) (h23 : x.op ≠ 23) (hc : m.chunks = cntTo l 21 (d + 1)) (hp : m.pieces = cntTo l 22 (d + 1)) (hcl : (chunksOf acts).length = cntTo l 21 (d + 1)) (hpl : (piecesOf acts).length = cntTo l 22 (d + 1)) :
    ((nextM m x).over = false → Str l f (nextM m x) acts) ∧ ((nextM m x).over = true → StrEnd l f (nextM m x) acts) := by
  have hge := halt_ge hno h4 l.length
  have hle := halt_le l l.length
  unfold nextM
  by_cases e1 : x.op = 24 ∨ m.at_ = m.code.length
  · rw [if_pos e1]
    refine ⟨fun h => by simp [endM] at h, fun _ => ⟨?_, ?_, .inl ⟨.inl rfl, ?_, ?_, ?_, ?_⟩⟩⟩
    · show 1 ≤ m.done; omega
    · show m.done ≤ l.length; omega
    · show m.done = _
      rcases e1 with e | e
      · have := halt_hit (k := d) (.inl (hx ▸ e)) l.length h4
        omega
      · rw [h1] at e
        omega
    · show m.done ≤ f; omega
    · show _ = cntTo l 21 m.done; rw [h3]; exact hcl
    · show _ = cntTo l 22 m.done; rw [h3]; exact hpl
  · rw [if_neg e1]
    have hno' : ∀ i, i < d + 1 → opAt l i ≠ 23 ∧ opAt l i ≠ 24 := fun i hi => by
      by_cases e : i = d
      · subst e
        exact ⟨hx ▸ h23, fun h => e1 (.inl (hx.trans h))⟩
      · exact hno i (by omega)
    have hlt : d + 1 < l.length := by
      have : ¬ m.at_ = m.code.length := fun h => e1 (.inr h)
      rw [h1] at this
      omega
    have hge' := halt_ge hno' hlt l.length
    by_cases e2 : m.done = m.fuel
    · rw [if_pos e2]
      refine ⟨fun h => by simp [endM] at h, fun _ => ⟨?_, ?_, .inr (.inl ⟨rfl, ?_, ?_, ?_, ?_⟩)⟩⟩
      · show 1 ≤ m.done; omega
      · show m.done ≤ l.length; omega
      · show m.done = f; omega
      · omega
      · show _ = cntTo l 21 m.done; rw [h3]; exact hcl
      · show _ = cntTo l 22 m.done; rw [h3]; exact hpl
    · rw [if_neg e2]
      refine ⟨fun _ => ⟨h1, h2, by omega, by omega, h5, by rw [h3]; exact hno', by rw [h3]; exact hc, by rw [h3]; exact hp, by rw [h3]; exact hcl, by rw [h3]; exact hpl⟩, fun h => by rw [h5] at h; cases h⟩

theorem told_len {acts : List (Int × List UInt8)} {k : Int} {t : List UInt8} : (chunksOf (acts ++ [(k, t)])).length = (chunksOf acts).length + (if k = 1 then 1 else 0) ∧ (piecesOf (acts ++ [(k, t)])).length = (piecesOf acts).length + (if k = 1 then 0 else 1) := by
  rw [chunks_snoc, pieces_snoc]
  simp only
  split <;> simp
theorem jump_str {m : Mach} {x : Ins} (h : x.op < 14 ∨ 18 < x.op) : jumpM m x = (m, m.at_ + 1, 0) := by
  unfold jumpM
  rw [if_neg (by omega), if_neg (by omega), if_neg (by omega), if_neg (by omega), if_neg (by omega)]

/-- the instruction at hand -/
def Mach.cur (m : Mach) : Ins := m.code.getD m.at_ default
def Mach.tick (m : Mach) : Mach := { m with done := m.done + 1 }
theorem stepM_trap {m m1 : Mach} {k c : Int} (h : doM m.tick m.cur = (m1, k, c)) (hc : c ≠ 0) : stepM m = (endM m1 c, 0, []) := by
  have h' : doM { m with done := m.done + 1 } (m.code.getD m.at_ default) = (m1, k, c) := h
  unfold stepM
  simp only [h']
  rw [if_pos hc]
theorem stepM_on {m m1 : Mach} {k : Int} (h : doM m.tick m.cur = (m1, k, 0)) (hj : m.cur.op < 14 ∨ 18 < m.cur.op) : stepM m = (nextM { m1 with at_ := m1.at_ + 1 } m.cur, k, toldM m m.cur k) := by
  have h' : doM { m with done := m.done + 1 } (m.code.getD m.at_ default) = (m1, k, 0) := h
  have hj' : jumpM m1 (m.code.getD m.at_ default) = (m1, m1.at_ + 1, 0) := jump_str hj
  unfold stepM
  simp only [h', hj']
  rfl

theorem step_str {l : List Ins} {f : Nat} {m : Mach} {acts : List (Int × List UInt8)} (hs : Str l f m acts) (hfit : m.Fit) (hgo : m.Goes) (hl : StraightTo l l.length) :
    ((stepM m).1.over = false → Str l f (stepM m).1 (acts ++ toldOf (stepM m))) ∧ ((stepM m).1.over = true → StrEnd l f (stepM m).1 (acts ++ toldOf (stepM m))) := by
  obtain ⟨hcode, hfu, hat, hlt, hov, hno, hc, hp, hcl, hpl⟩ := hs
  obtain ⟨g1, g2⟩ := hgo hov
  have hge := halt_ge hno hlt l.length
  obtain ⟨d, hd⟩ : ∃ d, m.done = d := ⟨_, rfl⟩
  rw [hd] at hat hlt hno hc hp hcl hpl hge g2
  have hx : m.cur.op = opAt l d := by unfold Mach.cur opAt; rw [hcode, hat]
  have hst := hl d hlt
  rw [← hx] at hst
  have hcs := hfit.chunks
  have hps := hfit.pieces
  have cnt1 : m.cur.op ≠ 21 → cntTo l 21 (d + 1) = cntTo l 21 d := fun h => by rw [cntTo, ← hx, if_neg h]; rfl
  have cnt2 : m.cur.op ≠ 22 → cntTo l 22 (d + 1) = cntTo l 22 d := fun h => by rw [cntTo, ← hx, if_neg h]; rfl
  have tickd : m.tick.done = d + 1 := by show m.done + 1 = d + 1; omega
  -- a first half that told nothing
  have plain : ∀ y : Mach, doM m.tick m.cur = (y, 0, 0) → y.code = l → y.fuel = f → y.done = d + 1 → y.over = false → y.at_ = d → y.chunks = m.chunks → y.pieces = m.pieces → m.cur.op ≠ 21 → m.cur.op ≠ 22 → m.cur.op ≠ 23 →
      ((stepM m).1.over = false → Str l f (stepM m).1 (acts ++ toldOf (stepM m))) ∧ ((stepM m).1.over = true → StrEnd l f (stepM m).1 (acts ++ toldOf (stepM m))) := by
    intro y he a1 a2 a3 a4 a5 a6 a7 b1 b2 b3
    rw [stepM_on he hst]
    show ((nextM _ _).over = false → Str l f (nextM _ _) (acts ++ [])) ∧ _
    rw [List.append_nil]
    show _ ∧ ((nextM _ _).over = true → StrEnd l f (nextM _ _) (acts ++ []))
    rw [List.append_nil]
    exact next_str (d := d) hx a1 a2 a3 hlt a4 (by show y.at_ + 1 = d + 1; omega) (by omega) hno b3 (by rw [cnt1 b1, ← hc]; exact a6) (by rw [cnt2 b2, ← hp]; exact a7) (by rw [cnt1 b1]; exact hcl) (by rw [cnt2 b2]; exact hpl)
  -- a trap
  have trapped : ∀ c : Int, doM m.tick m.cur = (m.tick, 0, c) → c ≠ 0 → StrFin l f c (d + 1) (chunksOf acts).length (piecesOf acts).length →
      ((stepM m).1.over = false → Str l f (stepM m).1 (acts ++ toldOf (stepM m))) ∧ ((stepM m).1.over = true → StrEnd l f (stepM m).1 (acts ++ toldOf (stepM m))) := by
    intro c he h0 hfin
    rw [stepM_trap he h0]
    refine ⟨fun h => by simp [endM] at h, fun _ => ?_⟩
    show StrEnd l f (endM m.tick c) (acts ++ [])
    rw [List.append_nil]
    exact ⟨by show 1 ≤ m.tick.done; omega, by show m.tick.done ≤ l.length; omega, by show StrFin l f c m.tick.done _ _; rw [tickd]; exact hfin⟩
  have e24 : (m.code.getD m.at_ default).Ok m.code.length := (code_get hfit (by omega)).2.1
  by_cases h1 : m.cur.op = 1
  · exact plain { m.tick with regs := m.tick.regs.set m.cur.a.toNat m.cur.k } (by unfold doM; rw [if_pos h1]) hcode hfu tickd hov hat rfl rfl (by omega) (by omega) (by omega)
  by_cases h2 : m.cur.op ≤ 13
  · exact plain { m.tick with regs := m.tick.regs.set m.cur.a.toNat (reckonM m.cur.op (m.tick.reg m.cur.b) (m.tick.reg m.cur.c)) } (by unfold doM; rw [if_neg h1, if_pos h2]) hcode hfu tickd hov hat rfl rfl (by omega) (by omega) (by omega)
  by_cases h3 : m.cur.op = 19
  · by_cases h : m.tick.nums.length < 8
    · exact plain { m.tick with nums := m.tick.nums ++ [m.tick.reg m.cur.a] } (by unfold doM; rw [if_neg h1, if_neg h2, if_pos h3, if_pos h]) hcode hfu tickd hov hat rfl rfl (by omega) (by omega) (by omega)
    · exact trapped 2 (by unfold doM; rw [if_neg h1, if_neg h2, if_pos h3, if_neg h]) (by decide) (.inr (.inr (.inl ⟨.inl rfl, by omega, by omega, .inl (by rw [Nat.add_sub_cancel, ← hx]; exact h3)⟩)))
  by_cases h4 : m.cur.op = 20
  · by_cases h : 0 < m.tick.nums.length
    · exact plain { m.tick with regs := m.tick.regs.set m.cur.a.toNat (m.tick.nums.getLastD 0), nums := m.tick.nums.dropLast } (by unfold doM; rw [if_neg h1, if_neg h2, if_neg h3, if_pos h4, if_pos h]) hcode hfu tickd hov hat rfl rfl (by omega) (by omega) (by omega)
    · exact trapped 3 (by unfold doM; rw [if_neg h1, if_neg h2, if_neg h3, if_pos h4, if_neg h]) (by decide) (.inr (.inr (.inl ⟨.inr rfl, by omega, by omega, .inr (by rw [Nat.add_sub_cancel, ← hx]; exact h4)⟩)))
  by_cases h5 : m.cur.op = 21
  · by_cases h : m.tick.chunks < 32
    · have he : doM m.tick m.cur = ({ m.tick with chunks := m.tick.chunks + 1 }, 1, 0) := by unfold doM; rw [if_neg h1, if_neg h2, if_neg h3, if_neg h4, if_pos h5, if_pos h]
      rw [stepM_on he hst]
      have hn : cntTo l 21 (d + 1) = cntTo l 21 d + 1 := by rw [cntTo, ← hx, if_pos h5]
      have ht := told_len (acts := acts) (k := 1) (t := toldM m m.cur 1)
      exact next_str (d := d) (m := { ({ m.tick with chunks := m.tick.chunks + 1 } : Mach) with at_ := m.tick.at_ + 1 }) hx hcode hfu tickd hlt hov (by show m.at_ + 1 = d + 1; omega) (by omega) hno (by omega) (by rw [hn, ← hc]; rfl) (by rw [cnt2 (by omega), ← hp]; rfl) (by rw [hn, ← hcl]; exact ht.1) (by rw [cnt2 (by omega), ← hpl]; exact ht.2)
    · exact trapped 5 (by unfold doM; rw [if_neg h1, if_neg h2, if_neg h3, if_neg h4, if_pos h5, if_neg h]) (by decide) (.inr (.inr (.inr (.inl ⟨rfl, by omega, by rw [hcl, ← hc]; have : ¬ m.chunks < 32 := h; omega⟩))))
  by_cases h6 : m.cur.op = 22
  · by_cases h : m.tick.pieces < 16
    · have he : doM m.tick m.cur = ({ m.tick with pieces := m.tick.pieces + 1 }, 2, 0) := by unfold doM; rw [if_neg h1, if_neg h2, if_neg h3, if_neg h4, if_neg h5, if_pos h6, if_pos h]
      rw [stepM_on he hst]
      have hn : cntTo l 22 (d + 1) = cntTo l 22 d + 1 := by rw [cntTo, ← hx, if_pos h6]
      have ht := told_len (acts := acts) (k := 2) (t := toldM m m.cur 2)
      exact next_str (d := d) (m := { ({ m.tick with pieces := m.tick.pieces + 1 } : Mach) with at_ := m.tick.at_ + 1 }) hx hcode hfu tickd hlt hov (by show m.at_ + 1 = d + 1; omega) (by omega) hno (by omega) (by rw [cnt1 (by omega), ← hc]; rfl) (by rw [hn, ← hp]; rfl) (by rw [cnt1 (by omega), ← hcl]; exact ht.1) (by rw [hn, ← hpl]; exact ht.2)
    · exact trapped 6 (by unfold doM; rw [if_neg h1, if_neg h2, if_neg h3, if_neg h4, if_neg h5, if_pos h6, if_neg h]) (by decide) (.inr (.inr (.inr (.inr ⟨rfl, by omega, by rw [hpl, ← hp]; have : ¬ m.pieces < 16 := h; omega⟩))))
  by_cases h7 : m.cur.op = 23
  · have hh := halt_hit (l := l) (k := d) (.inr (hx ▸ h7)) l.length hlt
    exact trapped 7 (by unfold doM; rw [if_neg h1, if_neg h2, if_neg h3, if_neg h4, if_neg h5, if_neg h6, if_pos h7]) (by decide) (.inl ⟨.inr rfl, by omega, by omega, by rw [cnt1 (by omega)]; exact hcl, by rw [cnt2 (by omega)]; exact hpl⟩)
  · exact plain m.tick (by unfold doM; rw [if_neg h1, if_neg h2, if_neg h3, if_neg h4, if_neg h5, if_neg h6, if_neg h7]) hcode hfu tickd hov hat rfl rfl (by omega) (by omega) (by omega)
theorem run_str {P : Program} (w : World) {l : List Ins} {f : Nat} (hl : StraightTo l l.length) : ∀ (k : Nat) {m : Mach} {acts : List (Int × List UInt8)}, m.Fit → m.Goes → Str l f m acts →
    ((runM k m).1.over = false → Str l f (runM k m).1 (acts ++ (runM k m).2)) ∧ ((runM k m).1.over = true → StrEnd l f (runM k m).1 (acts ++ (runM k m).2))
  | 0, m, acts, _, _, hs => ⟨fun _ => by rw [show (runM 0 m).2 = [] from rfl, List.append_nil]; exact hs, fun h => by rw [show (runM 0 m).1 = m from rfl, hs.over] at h; cases h⟩
  | k + 1, m, acts, h, g, hs => by
    have ho := hs.over
    obtain ⟨f1, f2, f3, f4, f5⟩ := stepM_fit (P := P) w h g ho
    obtain ⟨s1, s2⟩ := step_str hs h g hl
    rw [runM_succ ho]
    simp only
    rw [← List.append_assoc]
    by_cases h1 : (stepM m).1.over = true
    · rw [runM_over h1]
      simp only
      rw [List.append_nil]
      exact ⟨(fun h2 => by rw [h1] at h2; cases h2), s2⟩
    · exact run_str (P := P) w hl k f1 f2 (s1 (by simpa using h1))
/-- THE LAW -/
theorem straight_law {P : Program} (w : World) {f : Nat} {l : List Ins} (hc : (progCheck f l).1 = 0) (hk : ∀ x ∈ l, x.k < 2 * signB) (hl : StraightTo l l.length) : StrEnd l f (wholeM f l).1 (wholeM f l).2 := by
  have hs : Str l f (newM f l) [] := ⟨rfl, rfl, rfl, by have := (progCheck_ok hc).2.1; show 0 < l.length; omega, rfl, (fun i hi => absurd hi (Nat.not_lt_zero _)), rfl, rfl, rfl, rfl⟩
  have h := (run_str (P := P) w hl f (fit_new hc hk) (goes_new hc) hs).2 (whole_over (P := P) w hc hk)
  simpa [wholeM] using h
/-- a machine does one step at least -/
theorem whole_one {P : Program} (w : World) {f : Nat} {l : List Ins} (hc : (progCheck f l).1 = 0) (hk : ∀ x ∈ l, x.k < 2 * signB) : 1 ≤ (wholeM f l).1.done := by
  have h := fit_new hc hk
  have g := goes_new hc
  obtain ⟨q, rfl⟩ : ∃ q, f = q + 1 := ⟨f - 1, by have := (progCheck_ok hc).1; omega⟩
  obtain ⟨f1, f2, f3, f4, f5⟩ := stepM_fit (P := P) w h g rfl
  unfold wholeM
  rw [runM_succ (show (newM (q + 1) l).over = false from rfl)]
  have := runM_done_le (P := P) w q f1 f2
  simp only
  omega
end Go.Proofs.YtjloiclbknfomaaDoor
