/- strings.ReplaceAll, TrimSuffix and Join as scripts use them (plain). How package script reads a step's line (plain): by its line again. Rows of instructions that a call has laid itself: append, and read as a program's code. -/
import Derived.Lib.Replace
import Derived.Lib.Join
import Derived.Lib.Strings
import Derived.Test.YtdkencepmdfacaaGreatDoorGr6
import Derived.Test.YtdkencepmdfacaaGreatDoorGr9
import Derived.OwnWalkIn
import Derived.RangeFuncWrites
import Derived.Test.YtdkencepmdfacaaGreatDoorGr4
import Derived.Test.YtdkencepmdfacaaGreatDoorGr5
set_option maxRecDepth 100000
namespace Go.Proofs.YtdkencepmdfacaaGreatDoor
open Ieee

theorem repl_skip {old new : List UInt8} {b : UInt8} {l : List UInt8} (h0 : old ≠ []) (hne : old ≠ new) (h : old.isPrefixOf (b :: l) = false) : Lib.replaceAll (b :: l) old new = b :: Lib.replaceAll l old new := by
  have hq : ¬ (old == new) = true := fun e => hne (by simpa using e)
  have num : ∀ s : List UInt8, Lib.replaceNum s old (-1) = Lib.count s old := fun s => by unfold Lib.replaceNum; rw [if_pos (.inl (by decide))]
  unfold Lib.replaceAll Lib.replace
  rw [if_neg hq, if_neg hq, num, num]
  have hix : Lib.index (b :: l) old = if Lib.index l old == -1 then -1 else Lib.index l old + 1 := by rw [Lib.index, h]; simp
  by_cases hm : Lib.index l old = -1
  · rw [Lib.count_miss hm, Lib.count_miss (by rw [hix, if_pos (beq_iff_eq.2 hm)])]
    rfl
  · have hge := Lib.index_ge l old
    obtain ⟨j, hj⟩ : ∃ j : Nat, Lib.index l old = j := ⟨(Lib.index l old).toNat, by omega⟩
    have hix' : Lib.index (b :: l) old = ((j + 1 : Nat) : Int) := by rw [hix, if_neg (fun e => hm (beq_iff_eq.1 e)), hj]; omega
    rw [Lib.count_hit h0 hj, Lib.count_hit h0 hix', Nat.add_comm 1, Nat.add_comm 1, Lib.replaceK_hit _ _ _ _ _ hj, Lib.replaceK_hit _ _ _ _ _ hix']
    have e : (b :: l).drop (j + 1 + old.length) = l.drop (j + old.length) := by
      rw [show j + 1 + old.length = (j + old.length) + 1 by omega, List.drop_succ_cons]
    rw [e, List.take_succ_cons]
    simp
theorem repl_hit {old new l : List UInt8} (h0 : old ≠ []) (hne : old ≠ new) : Lib.replaceAll (old ++ l) old new = new ++ Lib.replaceAll l old new := by
  have hq : ¬ (old == new) = true := fun e => hne (by simpa using e)
  have num : ∀ s : List UInt8, Lib.replaceNum s old (-1) = Lib.count s old := fun s => by unfold Lib.replaceNum; rw [if_pos (.inl (by decide))]
  unfold Lib.replaceAll Lib.replace
  rw [if_neg hq, if_neg hq, num, num]
  have hix : Lib.index (old ++ l) old = ((0 : Nat) : Int) := by
    cases old with
    | nil => exact absurd rfl h0
    | cons a t =>
      show Lib.index (a :: (t ++ l)) (a :: t) = _
      rw [Lib.index, if_pos (by rw [List.isPrefixOf_iff_prefix]; exact List.prefix_append (a :: t) l)]
      rfl
  rw [Lib.count_hit h0 hix, Nat.add_comm 1, Lib.replaceK_hit _ _ _ _ _ hix]
  simp
theorem repl_nil {old new : List UInt8} (h0 : old ≠ []) (hne : old ≠ new) : Lib.replaceAll [] old new = [] := by
  have hq : ¬ (old == new) = true := fun e => hne (by simpa using e)
  have num : ∀ s : List UInt8, Lib.replaceNum s old (-1) = Lib.count s old := fun s => by unfold Lib.replaceNum; rw [if_pos (.inl (by decide))]
  unfold Lib.replaceAll Lib.replace
  rw [if_neg hq, num, Lib.count_miss (by cases old with
    | nil => exact absurd rfl h0
    | cons a t => rfl)]
  rfl
theorem repl_semi : ∀ l : List UInt8, Lib.replaceAll l [10] [59, 32] = semi l
  | [] => repl_nil (by simp) (by simp)
  | c :: l => by
    have ih := repl_semi l
    by_cases h : c = 10
    · subst h
      have := repl_hit (old := [10]) (new := [59, 32]) (l := l) (by simp) (by simp)
      show Lib.replaceAll ([10] ++ l) [10] [59, 32] = _
      rw [this, ih]; rfl
    · rw [repl_skip (by simp) (by simp) (by simp [List.isPrefixOf, Ne.symm h]), ih]
      show _ = (if c = 10 then [59, 32] else [c]) ++ semi l
      rw [if_neg h]; rfl
theorem repl_unsemi : ∀ l : List UInt8, Lib.replaceAll l [59, 32] [10] = unsemi l
  | [] => repl_nil (by simp) (by simp)
  | [c] => by rw [repl_skip (by simp) (by simp) (by simp [List.isPrefixOf]), repl_nil (by simp) (by simp)]; rfl
  | c :: d :: r => by
    by_cases h : c = 59 ∧ d = 32
    · obtain ⟨rfl, rfl⟩ := h
      have := repl_hit (old := [59, 32]) (new := [10]) (l := r) (by simp) (by simp)
      show Lib.replaceAll ([59, 32] ++ r) [59, 32] [10] = _
      rw [this, repl_unsemi r]; rfl
    · rw [repl_skip (by simp) (by simp) (by
        cases hp : ([59, 32] : List UInt8).isPrefixOf (c :: d :: r)
        · rfl
        · exfalso
          simp [List.isPrefixOf] at hp
          exact h ⟨hp.1.symm, hp.2.symm⟩), repl_unsemi (d :: r), unsemi, if_neg h]
theorem count_semi (l : List UInt8) : Lib.count l [10] ≤ l.length := by rw [Lib.count_one]; exact List.count_le_length
theorem count_unsemi : ∀ l : List UInt8, Lib.count l [59, 32] ≤ l.length := by
  intro l
  have key : ∀ (f : Nat) (l : List UInt8), Lib.countFrom [59, 32] f l ≤ l.length := fun f => by
    induction f with
    | zero => intro l; exact Nat.zero_le _
    | succ f ih =>
      intro l
      rw [Lib.countFrom]
      split
      · exact Nat.zero_le _
      · rename_i h
        have hge := Lib.index_ge l [59, 32]
        have hm : Lib.index l [59, 32] ≠ -1 := fun e => h (beq_iff_eq.2 e)
        have hr := Lib.index_room l [59, 32] (by omega)
        have := ih (l.drop ((Lib.index l [59, 32]).toNat + ([59, 32] : List UInt8).length))
        rw [List.length_drop] at this
        simp at hr this ⊢
        omega
  exact key _ l
theorem trim_end (m : List UInt8) : Lib.trimSuffix (m ++ [10]) [10] = m := by
  unfold Lib.trimSuffix Lib.hasSuffix
  rw [if_pos (by rw [List.isSuffixOf_iff_suffix]; exact List.suffix_append m [10])]
  simp
theorem join_is : ∀ ws : List (List UInt8), Lib.join ws [32] = joinW 32 ws
  | [] => rfl
  | [w] => by simp [Lib.join, joinW, List.intercalate]
  | w :: v :: ws => by
    have ih := join_is (v :: ws)
    rw [join_cons (by simp), ← ih]
    simp [Lib.join, List.intercalate, List.intersperse]
end Go.Proofs.YtdkencepmdfacaaGreatDoor

set_option maxRecDepth 100000
namespace Go.Proofs.YtdkencepmdfacaaGreatDoor
open Ieee

/-- numbers given to the fields that a kind names, in order -/
def asgA (k : Int) (n : List Int) : Int := if stA k = true then n.headD 0 else 0
def rest1 (k : Int) (n : List Int) : List Int := if stA k = true then n.tail else n
def asgK (k : Int) (n : List Int) : Int := if stK k = true then (rest1 k n).headD 0 else 0
def rest2 (k : Int) (n : List Int) : List Int := if stK k = true then (rest1 k n).tail else rest1 k n
def asgX (k : Int) (n : List Int) : Int := if stX k = true then (rest2 k n).headD 0 else 0
/-- the words that are numbers, of those behind the first -/
def numW (k : Int) (w : List (List UInt8)) : List (List UInt8) := if stT k = true then w.dropLast else w
theorem headD_w64 {l : List Int} (h : ∀ n ∈ l, w64 n) : w64 (l.headD 0) := by
  cases l with
  | nil => exact wf_zero
  | cons n l => exact h n (by simp)
theorem numsZ_w64 : ∀ (ws : List (List UInt8)) (l : List Int), numsZ ws = some l → ∀ n ∈ l, w64 n
  | [], l, h => by
    rw [numsZ] at h
    injection h with h
    subst h
    intro n hn; cases hn
  | w :: ws, l, h => by
    rw [numsZ] at h
    obtain ⟨m, hm, h⟩ := Option.bind_eq_some_iff.1 h
    obtain ⟨l', hl', h⟩ := Option.map_eq_some_iff.1 h
    subst h
    intro n hn
    rcases List.mem_cons.1 hn with rfl | hn
    · exact (numZ_some hm).2
    · exact numsZ_w64 ws l' hl' n hn
theorem tail_w64 {l : List Int} (h : ∀ n ∈ l, w64 n) : ∀ n ∈ l.tail, w64 n := fun n hn => h n (List.mem_of_mem_tail hn)
/-- the step that is made of the numbers and the text -/
def mkStp (k : Int) (n : List Int) (t : List UInt8) : Stp := ⟨k, asgA k n, asgK k n, asgX k n, if stT k = true then t else []⟩
theorem mk_wf {o : Nat} {n : List Int} {t : List UInt8} (h0 : 1 ≤ o) (h1 : o ≤ 12) (hn : ∀ m ∈ n, w64 m) : (mkStp o n t).Wf := by
  have h1n : ∀ m ∈ rest1 o n, w64 m := by unfold rest1; split; exact tail_w64 hn; exact hn
  have h2n : ∀ m ∈ rest2 o n, w64 m := by unfold rest2; split; exact tail_w64 h1n; exact h1n
  refine ⟨⟨by show (1 : Int) ≤ o; omega, by show (o : Int) ≤ 12; omega, ?_⟩, ?_, ?_, ?_⟩
  · unfold Stp.only mkStp asgA asgK asgX
    simp only
    cases stA o <;> cases stK o <;> cases stX o <;> cases stT o <;> simp
  · unfold mkStp asgA; simp only; split; exact headD_w64 hn; exact wf_zero
  · unfold mkStp asgK; simp only; split; exact headD_w64 h1n; exact wf_zero
  · unfold mkStp asgX; simp only; split; exact headD_w64 h2n; exact wf_zero
theorem mk_own {s : Stp} (h : s.okKind) : mkStp s.kind s.nums s.text = s := by
  have ho := h.2.2
  obtain ⟨kd, a, k, x, t⟩ := s
  unfold Stp.only at ho
  simp only at ho
  have e1 : stA kd = false → a = 0 := fun hh => by rw [hh] at ho; injection ho with _ h1; simpa using h1.symm
  have e2 : stK kd = false → k = 0 := fun hh => by rw [hh] at ho; injection ho with _ _ h1; simpa using h1.symm
  have e3 : stX kd = false → x = 0 := fun hh => by rw [hh] at ho; injection ho with _ _ _ h1; simpa using h1.symm
  have e4 : stT kd = false → t = [] := fun hh => by rw [hh] at ho; injection ho with _ _ _ _ h1; simpa using h1.symm
  unfold mkStp asgA asgK asgX rest2 rest1 Stp.nums
  simp only
  cases hA : stA kd <;> cases hK : stK kd <;> cases hX : stX kd <;> cases hT : stT kd <;> simp_all
/-- what is read of a line whose kind is known -/
def readsP (s : List UInt8) (o : Nat) : Option Stp :=
  (numsZ (numW o (spl 32 s).tail)).bind fun n => (if stT o = true then (if (spl 32 s).tail = [] then none else rawT ((spl 32 s).tail.getLastD [])) else some []).bind fun t =>
    if (mkStp o n t).line = s ∧ ¬ (mkStp o n t).isProg then some (mkStp o n t) else none
theorem readsP_is {s : List UInt8} {o : Nat} (ho : kindOf ((spl 32 s).headD []) = o) (h0 : o ≠ 0) (hs : s.take 7 ≠ subW) : readStp s = readsP s o := by
  obtain ⟨k1, k2, k3⟩ := kindOf_some ho h0
  have e : readStp s = readWords (spl 32 s) := by unfold readStp; rw [if_neg hs]
  rw [e]
  cases hr : readWords (spl 32 s) with
  | some y =>
    unfold readWords at hr
    rw [ho] at hr
    split at hr
    · cases hr
    rename_i hc
    have hc2 : (spl 32 s).length = stMany (o : Int) := Classical.byContradiction fun e => hc (.inr e)
    obtain ⟨y', hy', hr⟩ := Option.bind_eq_some_iff.1 hr
    split at hr
    · cases hr
    rename_i hnp
    injection hr with hr
    subst hr
    obtain ⟨w1, w2, w3⟩ := words_fields k2 k3 hc2 k1.symm hy'
    have hl : y'.line = s := by
      unfold Stp.line
      rw [if_neg hnp, w1, spl_join]
    have ht : (spl 32 s).tail = y'.nums.map Lib.itoa ++ (if stT y'.kind then [hexT y'.text] else []) := by rw [← w1]; rfl
    have hnw : ∀ n ∈ y'.nums, w64 n := by
      intro n hn
      unfold Stp.nums at hn
      simp only [List.mem_append] at hn
      rcases hn with (hn | hn) | hn
      · split at hn
        · rw [List.mem_singleton] at hn; rw [hn]; exact w3.a
        · cases hn
      · split at hn
        · rw [List.mem_singleton] at hn; rw [hn]; exact w3.k
        · cases hn
      · split at hn
        · rw [List.mem_singleton] at hn; rw [hn]; exact w3.x
        · cases hn
    have hown := mk_own w3.ok
    unfold readsP numW
    rw [← w2, ht]
    cases hT : stT y'.kind
    · simp only [if_false, Bool.false_eq_true, List.append_nil]
      rw [numsZ_itoa _ hnw]
      simp only [Option.bind_some]
      have e3 : mkStp y'.kind y'.nums [] = y' := (show mkStp y'.kind y'.nums [] = mkStp y'.kind y'.nums y'.text from by unfold mkStp; simp only [hT, if_false, Bool.false_eq_true]).trans hown
      rw [e3, if_pos ⟨hl, hnp⟩]
    · simp only [if_true]
      rw [List.dropLast_concat, numsZ_itoa _ hnw]
      simp only [Option.bind_some]
      rw [if_neg (by simp), List.getLastD_concat, rawT_hex]
      simp only [Option.bind_some]
      rw [hown, if_pos ⟨hl, hnp⟩]
  | none =>
    cases hp : readsP s o with
    | none => rfl
    | some z =>
      exfalso
      unfold readsP at hp
      obtain ⟨n, hn, hp⟩ := Option.bind_eq_some_iff.1 hp
      obtain ⟨t, ht, hp⟩ := Option.bind_eq_some_iff.1 hp
      split at hp
      · rename_i hz
        have hw := mk_wf (t := t) k2 k3 (numsZ_w64 _ _ hn)
        have := read_line hw
        rw [hz.1, e, hr] at this
        cases this
      · cases hp
theorem sub_prefix (s : List UInt8) : (Lib.hasPrefix s subW = true ↔ s.take 7 = subW) ∧ (s.take 7 = subW → Lib.trimPrefix s subW = s.drop 7) := by
  have key : Lib.hasPrefix s subW = true ↔ s.take 7 = subW := by
    unfold Lib.hasPrefix
    rw [List.isPrefixOf_iff_prefix, List.prefix_iff_eq_take]
    exact ⟨fun h => h.symm, fun h => h.symm⟩
  refine ⟨key, fun h => ?_⟩
  unfold Lib.trimPrefix
  rw [if_pos (key.2 h)]
  rfl
end Go.Proofs.YtdkencepmdfacaaGreatDoor

set_option maxRecDepth 100000
namespace Go.Proofs.YtdkencepmdfacaaGreatDoor
open Go.RowKit

def insVals (x : Ins) : List Value := [.int .i64 x.op, .int .i64 x.a, .int .i64 x.b, .int .i64 x.c, .int .i64 x.n, .int .u64 x.k]
/-- a row of instructions of the call's own -/
def RowI (w : World) (base : Nat) (v : Value) (l : List Ins) : Prop := w.ownsRow base 102 6 v l.length (l.flatMap insVals)
theorem rowI_nil (w : World) (base : Nat) : RowI w base (.slice none 0 0) [] := World.ownsRow_nil w base _ _
theorem rowI_snoc {w : World} {base : Nat} {v : Value} {l : List Ins} {x : Ins} (h : w.ownsRow base 102 6 v (l.length + 1) (l.flatMap insVals ++ insVals x)) : RowI w base v (l ++ [x]) := by
  unfold RowI
  rw [List.length_append, List.flatMap_append]
  simpa using h
theorem flat_at : ∀ (l : List Ins) (i : Nat) (x : Ins) (j : Nat), l[i]? = some x → j < 6 → (l.flatMap insVals)[i * 6 + j]? = (insVals x)[j]?
  | [], i, x, j, h, _ => by simp at h
  | y :: l, 0, x, j, h, hj => by
    have : y = x := by simpa using h
    subst this
    show (insVals y ++ l.flatMap insVals)[0 * 6 + j]? = _
    rw [Nat.zero_mul, Nat.zero_add, List.getElem?_append_left (by simpa [insVals] using hj)]
  | y :: l, i + 1, x, j, h, hj => by
    have ih := flat_at l i x j (by simpa using h) hj
    show (insVals y ++ l.flatMap insVals)[(i + 1) * 6 + j]? = _
    rw [List.getElem?_append_right (by simp [insVals]; omega), ← ih]
    congr 1
    simp [insVals]
    omega
theorem RowI.shape {w : World} {base : Nat} {v : Value} {l : List Ins} (h : RowI w base v l) : ∃ A cap, v = .slice A l.length cap := by
  rcases h.2 with ⟨rfl, h0⟩ | ⟨g, cap, cur, rfl, _⟩
  · exact ⟨none, 0, by rw [h0]⟩
  · exact ⟨_, _, rfl⟩
theorem RowI.code {w : World} {base : Nat} {A : Option Addr} {cap : Nat} {l : List Ins} (h : RowI w base (.slice A l.length cap) l) (hk : ∀ x ∈ l, x.k < 2 * signB) : CodeIn w w.heap.size A l := fun hn => by
  rcases h.2 with ⟨h1, h0⟩ | ⟨g, cap', cur, h1, hb, hg, _⟩
  · exact absurd h0 (by omega)
  · injection h1 with h1 h2 h3
    refine ⟨g, 0, h1, lt_of_block hg, fun i x hx => ⟨?_, hk x (List.mem_of_getElem? hx)⟩⟩
    have key : ∀ j u, j < 6 → (insVals x)[j]? = some u → w.cell? ⟨g, 0 + i * 6 + j, none⟩ = some u := fun j u hj hu => by
      have := h.cells (g := g) (by rw [h1]; rfl) (i * 6 + j) u ((flat_at l i x j hx hj).trans hu)
      rw [add_plain] at this
      rw [Nat.zero_add]
      rw [Nat.zero_add] at this
      exact this
    exact ⟨key 0 _ (by omega) rfl, key 1 _ (by omega) rfl, key 2 _ (by omega) rfl, key 3 _ (by omega) rfl, key 4 _ (by omega) rfl, key 5 _ (by omega) rfl⟩
theorem RowI.turns {w w' : World} {S : List Nat} {base : Nat} {v : Value} {l : List Ins} (h : RowI w base v l) (ht : Turns S w w') (hS : ∀ k, v.ownBlock = some k → k ∉ S) : RowI w' base v l := row_turns h ht hS
theorem RowI.keep {w w' : World} {base : Nat} {v : Value} {l : List Ins} (h : RowI w base v l) (hb : Below w.heap.size w w') : RowI w' base v l := own_kept h hb
theorem RowI.ne {w : World} {base g : Nat} {v : Value} {l : List Ins} {t : TypeId} {c : Array Value} (h : RowI w base v l) (hc : Cells w g t c) (ht : t ≠ 102) : ∀ k, v.ownBlock = some k → k ≠ g := fun k hk e => by
  subst e
  obtain ⟨cur, hcur⟩ := own_block_type h hk
  unfold Cells at hc
  rw [hcur] at hc
  injection hc with hc
  injection hc with h1 h2
  exact ht h2.symm
theorem ins_info : (Tryz.prog.info? 102).map (fun i => (i.zero, i.size, i.bytes)) = some (some (.agg #[.int .i64 0, .int .i64 0, .int .i64 0, .int .i64 0, .int .i64 0, .int .u64 0]), 6, 48) := by kernel_rfl

/-- append(s, x) of a struct in a round of a range over a function -/
theorem wpListIn_append_elem {F : Fence} {nF : Nat} {P : Program} {w : World} {ops : Array Oper} {rest : List Oper} {o : Oper} {a : Act} {Q : Exit → Act → World → Prop} (hgd : o.guard = none) (s x : Operand) (t : TypeId)
    (ho : o.op = .call { callee := .builtin .append, args := #[s, x], argTypes := #[t, t] })
    (base : Nat) (e : TypeId) (i : TypeInfo) (z : Value) (size bytes : Nat) (ht : P.underlying t = some (.slice e)) (hi : P.info? e = some i) (hz : i.zero = some z)
    (hsize : i.size = size) (hby : i.bytes = bytes) (hzs : z.cells.size = size) (hsz : 0 < size)
    (v : Value) (n : Nat) (xs : List Value) (hs : a.eval s = v) (hown : w.ownsRow base e size v n xs) (us : Array Value) (hus : us.size = size) (h1 : ∀ u ∈ us.toList, u.oneCell' = true)
    (hx : a.eval x = .slice (some ⟨w.heap.size, 0, none⟩) 1 1) (hn : n < 1073741824) (hbytes : bytes ≤ 4096) (hbase : base ≤ w.heap.size)
    (h : ∀ v' w', w'.ownsRow base e size v' (n + 1) (xs ++ us.toList) → w.grownBy w' v.ownBlock → wpListIn F nF P ops Q rest (a.put o.dst v') w') :
    wpListIn F nF P ops Q (o :: rest) a (w.alloc (.cells us e)) := by
  refine wpListIn_append_own (w.alloc (.cells us e)) hgd s x t ho base e i z size bytes ht hi hz hsize hby hzs hsz v n xs hs (hown.alloc _) ⟨w.heap.size, 0, none⟩ 1 1 us.toList hx (by simp [hus]) ?_ h1 ?_ ?_ ?_ ?_
  · intro j u hj
    have := World.cell?_alloc_mark w us e (0, 0) j
    rw [Array.getElem?_toList] at hj
    rw [← hj, ← this]
    by_cases hj0 : j = 0
    · subst hj0
      rfl
    · simp [Addr.add, hj0]
  · unfold maxLen; omega
  · calc (n + 1) * bytes ≤ 1073741824 * 4096 := Nat.mul_le_mul (by omega) hbytes
      _ ≤ _ := by decide
  · simp; omega
  · intro v' w' ho' hg _
    have hg0 : w.grownBy w' v.ownBlock := by
      have ha := World.grownBy_alloc w (.cells us e) v.ownBlock
      exact ⟨hg.os.trans ha.os, hg.tape.trans ha.tape, hg.output.trans ha.output, Nat.le_trans ha.size hg.size, fun k hk hne => (hg.block k (Nat.lt_of_lt_of_le hk ha.size) hne).trans (ha.block k hk hne)⟩
    exact h v' w' ho' hg0
theorem wpListIn_append_elem' {F : Fence} {nF : Nat} {P : Program} {w : World} {ops : Array Oper} {rest : List Oper} {o : Oper} {a : Act} {Q : Exit → Act → World → Prop} (hgd : o.guard = none) (s x : Operand) (t : TypeId)
    (ho : o.op = .call { callee := .builtin .append, args := #[s, x], argTypes := #[t, t] })
    (base : Nat) (e : TypeId) (i : TypeInfo) (z : Value) (size bytes : Nat) (ht : P.underlying t = some (.slice e)) (hi : P.info? e = some i) (hz : i.zero = some z)
    (hsize : i.size = size) (hby : i.bytes = bytes) (hzs : z.cells.size = size) (hsz : 0 < size)
    (v : Value) (n : Nat) (xs : List Value) (hs : a.eval s = v) (hown : w.ownsRow base e size v n xs) (us : Array Value) (hus : us.size = size) (h1 : ∀ u ∈ us.toList, u.oneCell' = true)
    (k : Nat) (hx : a.eval x = .slice (some ⟨k, 0, none⟩) 1 1) (hk : k = w.heap.size) (hn : n < 1073741824) (hbytes : bytes ≤ 4096) (hbase : base ≤ w.heap.size)
    (h : ∀ v' w', w'.ownsRow base e size v' (n + 1) (xs ++ us.toList) → w.grownBy w' v.ownBlock → wpListIn F nF P ops Q rest (a.put o.dst v') w') :
    wpListIn F nF P ops Q (o :: rest) a (w.alloc (.cells us e)) := by
  subst hk
  exact wpListIn_append_elem hgd s x t ho base e i z size bytes ht hi hz hsize hby hzs hsz v n xs hs hown us hus h1 hx hn hbytes hbase h
/-- what a round leaves: only cells have turned -/
theorem turns_keeps {W W' : World} {S : List Nat} {B : Nat} (ht : Turns S W W') (hS : ∀ k ∈ S, ∃ c t f, W.heap[k]? = some (.cells c t f)) : KeepsFrom B W W' :=
  ⟨ht.size, fun k o _ hk ho => ht.keep hk (fun hm => by
    obtain ⟨c, t, f, hc⟩ := hS k hm
    rw [hk] at hc
    injection hc with hc
    subst hc
    cases ho)⟩
theorem cells_kept {W W' : World} {row : Option Nat} {g : Nat} {t : TypeId} {c : Array Value} (h : Cells W g t c) (hg : W.grownBy W' row) (hr : ∀ r, row = some r → ∃ o : Obj, W.heap[r]? = some o ∧ o.isCells = false) : Cells W' g t c :=
  h.grown hg (fun e => by
    obtain ⟨o, ho, hc⟩ := hr g e.symm
    unfold Cells at h
    rw [h] at ho
    injection ho with ho
    subst ho
    cases hc)
theorem rowI_kept {W W' : World} {row : Option Nat} {base : Nat} {v : Value} {l : List Ins} (h : RowI W base v l) (hg : W.grownBy W' row) (hr : ∀ r, row = some r → ∃ o : Obj, W.heap[r]? = some o ∧ o.isCells = false) : RowI W' base v l :=
  World.ownsRow.kept h hg (by
    cases hv : v.ownBlock with
    | none => exact .inl rfl
    | some k =>
      refine .inr fun e => ?_
      obtain ⟨o, ho, hc⟩ := hr k e.symm
      obtain ⟨cur, hcur⟩ := own_block_type h hv
      rw [hcur] at ho
      injection ho with ho
      subst ho
      cases hc)
end Go.Proofs.YtdkencepmdfacaaGreatDoor
