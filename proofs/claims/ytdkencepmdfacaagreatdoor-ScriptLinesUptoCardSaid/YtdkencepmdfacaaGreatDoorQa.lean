/- Programs' texts (plain): printed, read, there and back. -/
import Derived.Test.YtdkencepmdfacaaGreatDoorKa
import Derived.Test.YtdkencepmdfacaaGreatDoorJc
set_option maxRecDepth 100000
namespace Go.Proofs.YtdkencepmdfacaaGreatDoor
open Ieee

/-- what stands between the bytes c -/
def spl (c : UInt8) : List UInt8 → List (List UInt8)
  | [] => [[]]
  | x :: l => if x = c then [] :: spl c l else (x :: (spl c l).headD []) :: (spl c l).tail
theorem spl_cons (c : UInt8) (l : List UInt8) : ∃ w ws, spl c l = w :: ws := by
  cases l with
  | nil => exact ⟨[], [], rfl⟩
  | cons x l =>
    unfold spl
    split
    · exact ⟨_, _, rfl⟩
    · exact ⟨_, _, rfl⟩
theorem spl_none {c : UInt8} : ∀ {l : List UInt8}, c ∉ l → spl c l = [l]
  | [], _ => rfl
  | x :: l, h => by
    have h1 : x ≠ c := fun e => h (by simp [e])
    have h2 : c ∉ l := fun e => h (by simp [e])
    unfold spl
    rw [if_neg h1, spl_none h2]
    rfl
theorem spl_app {c : UInt8} : ∀ {w : List UInt8} (l : List UInt8), c ∉ w → spl c (w ++ c :: l) = w :: spl c l
  | [], l, _ => by
    show spl c (c :: l) = _
    rw [spl, if_pos rfl]
  | x :: w, l, h => by
    have h1 : x ≠ c := fun e => h (by simp [e])
    have h2 : c ∉ w := fun e => h (by simp [e])
    show spl c (x :: (w ++ c :: l)) = _
    rw [spl, if_neg h1, spl_app l h2]
    rfl
theorem spl_no {c : UInt8} : ∀ (l : List UInt8), ∀ w ∈ spl c l, c ∉ w
  | [], w, hw => by
    have e : w = [] := by simpa [spl] using hw
    subst e
    simp
  | x :: l, w, hw => by
    obtain ⟨v, vs, hv⟩ := spl_cons c l
    have ih := spl_no (c := c) l
    rw [hv] at ih
    unfold spl at hw
    rw [hv] at hw
    split at hw
    · rcases List.mem_cons.1 hw with rfl | hw
      · simp
      · exact ih w hw
    · rename_i hne
      simp only [List.headD_cons, List.tail_cons] at hw
      rcases List.mem_cons.1 hw with rfl | hw
      · intro h
        rcases List.mem_cons.1 h with e | h
        · exact hne e.symm
        · exact ih v List.mem_cons_self h
      · exact ih w (List.mem_cons_of_mem _ hw)
/-- the pieces joined again -/
def joinW (c : UInt8) : List (List UInt8) → List UInt8
  | [] => []
  | [w] => w
  | w :: v :: ws => w ++ c :: joinW c (v :: ws)
theorem join_cons {c : UInt8} {w : List UInt8} {ws : List (List UInt8)} (h : ws ≠ []) : joinW c (w :: ws) = w ++ c :: joinW c ws := by
  cases ws with
  | nil => exact absurd rfl h
  | cons v ws => rfl
theorem spl_join (c : UInt8) : ∀ (l : List UInt8), joinW c (spl c l) = l
  | [] => rfl
  | x :: l => by
    obtain ⟨v, vs, hv⟩ := spl_cons c l
    have ih := spl_join c l
    unfold spl
    rw [hv] at ih ⊢
    split
    · rename_i h
      rw [join_cons (by simp), ih, h]
      rfl
    · simp only [List.headD_cons, List.tail_cons]
      cases vs with
      | nil => simpa [joinW] using ih
      | cons u us =>
        rw [join_cons (by simp)] at ih ⊢
        simpa using ih

/-- the number of a text -/
def numOf (s : List UInt8) : Option Nat := if s.length ≤ 9 ∧ canonB s = true then some (dval s) else none
theorem numOf_some {s : List UInt8} {n : Nat} (h : numOf s = some n) : Lib.decDigits n = s ∧ s.length ≤ 9 := by
  unfold numOf at h
  split at h
  · rename_i hc
    injection h with h
    rw [← h]
    exact ⟨canon_back _ _ (Nat.le_refl _) hc.2, hc.1⟩
  · cases h
theorem numOf_dec {n : Nat} (h : (Lib.decDigits n).length ≤ 9) : numOf (Lib.decDigits n) = some n := by
  unfold numOf
  rw [if_pos ⟨h, decDigits_canon n⟩, (decDigits_val n).1]
/-- the register of a word -/
def regOf (s : List UInt8) : Option Nat := if s.length = 2 ∧ s.getD 0 0 = 114 ∧ 48 ≤ (s.getD 1 0).toNat ∧ (s.getD 1 0).toNat ≤ 55 then some ((s.getD 1 0).toNat - 48) else none
theorem regOf_some {s : List UInt8} {n : Nat} (h : regOf s = some n) : s = 114 :: Lib.decDigits n ∧ n < 8 := by
  unfold regOf at h
  split at h
  · rename_i hc
    injection h with h
    match s, hc with
    | [r, d], hc =>
      obtain ⟨_, h1, h2, h3⟩ := hc
      replace h1 : r = 114 := h1
      replace h2 : 48 ≤ d.toNat := h2
      replace h3 : d.toNat ≤ 55 := h3
      replace h : d.toNat - 48 = n := h
      subst h h1
      rw [Lib.decDigits_one (by omega)]
      refine ⟨?_, by omega⟩
      congr 2
      rw [show 48 + (d.toNat - 48) = d.toNat by omega, UInt8.ofNat_toNat]
  · cases h
theorem regOf_dec {n : Nat} (h : n < 8) : regOf (114 :: Lib.decDigits n) = some n := by
  rw [Lib.decDigits_one (by omega)]
  have e : (UInt8.ofNat (48 + n)).toNat = 48 + n := by
    rw [UInt8.toNat_ofNat']
    omega
  unfold regOf
  rw [if_pos ⟨rfl, rfl, by show 48 ≤ (UInt8.ofNat (48 + n)).toNat; omega, by show (UInt8.ofNat (48 + n)).toNat ≤ 55; omega⟩]
  show some ((UInt8.ofNat (48 + n)).toNat - 48) = some n
  rw [e]
  congr 1
  omega
/-- the words of the ops -/
def opText : Nat → List UInt8
  | 1 => [115, 101, 116] | 2 => [109, 111, 118, 101] | 3 => [97, 100, 100] | 4 => [115, 117, 98] | 5 => [109, 117, 108] | 6 => [100, 105, 118] | 7 => [109, 105, 110] | 8 => [109, 97, 120] | 9 => [108, 101, 115, 115]
  | 10 => [111, 114, 100, 101, 114] | 11 => [110, 101, 103] | 12 => [97, 98, 115] | 13 => [102, 108, 111, 111, 114] | 14 => [106, 117, 109, 112] | 15 => [105, 102] | 16 => [103, 111, 116, 111] | 17 => [99, 97, 108, 108] | 18 => [114, 101, 116]
  | 19 => [112, 117, 115, 104] | 20 => [112, 111, 112] | 21 => [101, 109, 105, 116] | 22 => [119, 114, 105, 116, 101] | 23 => [102, 97, 105, 108] | 24 => [104, 97, 108, 116] | _ => []
/-- the op of a word; 0: there is none -/
def opOf (w : List UInt8) : Nat := ((List.range 25).find? fun o => decide (0 < o) && decide (opText o = w)).getD 0
theorem op_cases {o : Nat} (h0 : 1 ≤ o) (h1 : o < 25) : opOf (opText o) = o ∧ (∀ c ∈ opText o, c ≠ 32 ∧ c ≠ 10) := by
  have key : ∀ o : Fin 25, 1 ≤ o.val → opOf (opText o.val) = o.val ∧ (opText o.val).all (fun c => decide (c ≠ 32) && decide (c ≠ 10)) = true := by decide +kernel
  obtain ⟨a, b⟩ := key ⟨o, h1⟩ h0
  refine ⟨a, fun c hc => ?_⟩
  have := List.all_eq_true.1 b c hc
  simpa using this
theorem opOf_some {w : List UInt8} {o : Nat} (h : opOf w = o) (h0 : o ≠ 0) : opText o = w ∧ 1 ≤ o ∧ o < 25 := by
  unfold opOf at h
  cases hf : (List.range 25).find? fun o => decide (0 < o) && decide (opText o = w) with
  | none =>
    rw [hf] at h
    exact absurd h.symm h0
  | some k =>
    rw [hf] at h
    replace h : k = o := h
    subst h
    have h1 := List.find?_some hf
    have h2 := List.mem_of_find?_eq_some hf
    simp at h1 h2
    exact ⟨h1.2, h1.1, h2⟩

theorem join_flat (c : UInt8) : ∀ (w : List UInt8) (ws : List (List UInt8)), joinW c (w :: ws) = w ++ ws.flatMap fun v => c :: v
  | w, [] => by simp [joinW]
  | w, v :: ws => by rw [join_cons (by simp), join_flat c v ws]; simp
theorem spl_joined {c : UInt8} : ∀ (ws : List (List UInt8)), ws ≠ [] → (∀ w ∈ ws, c ∉ w) → spl c (joinW c ws) = ws
  | [], h, _ => absurd rfl h
  | [w], _, h => spl_none (h w (by simp))
  | w :: v :: ws, _, h => by
    rw [join_cons (by simp), spl_app _ (h w (by simp)), spl_joined (v :: ws) (by simp) fun u hu => h u (List.mem_cons_of_mem _ hu)]
/-- an instruction that may be, told whole -/
structure Ins.Full (x : Ins) : Prop where
  op : 1 ≤ x.op ∧ x.op ≤ 24
  a : 0 ≤ x.a ∧ x.a < 8
  b : 0 ≤ x.b ∧ x.b < 8
  c : 0 ≤ x.c ∧ x.c < 8
  n : 0 ≤ x.n
  k : fcan x.k = x.k
  kb : x.k < 2 * signB
  ua : opRegs x.op ≤ 0 → x.a = 0
  ub : opRegs x.op ≤ 1 → x.b = 0
  uc : opRegs x.op ≤ 2 → x.c = 0
  un : opN x.op = false → x.n = 0
  uk : opK x.op = false → x.k = 0
theorem regBad_zero {r i v : Int} (h : regBad r i v = 0) : (r ≤ i → v = 0) ∧ 0 ≤ v ∧ v < 8 := by
  refine ⟨fun hr => ?_, regBad_ok h⟩
  unfold regBad at h
  by_cases hv : v = 0
  · exact hv
  · rw [if_pos ⟨hr, hv⟩] at h
    cases h
theorem ins_full {x : Ins} {many : Nat} (h : insWrong x many = 0) (hk : x.k < 2 * signB) : x.Full ∧ x.n ≤ (many : Int) := by
  have h0 := h
  have ho := ins_ok h
  unfold insWrong at h0
  split at h0
  · cases h0
  split at h0
  · rename_i h2; exact absurd h0 h2
  rename_i h2
  split at h0
  · rename_i h3; exact absurd h0 h3
  rename_i h3
  split at h0
  · rename_i h4; exact absurd h0 h4
  rename_i h4
  split at h0
  · cases h0
  rename_i h5
  split at h0
  · cases h0
  split at h0
  · cases h0
  rename_i h7
  have a := regBad_zero (by simpa using h2)
  have b := regBad_zero (by simpa using h3)
  have c := regBad_zero (by simpa using h4)
  exact ⟨⟨ho.op, ho.a, ho.b, ho.c, ho.n.1, ho.k, hk, a.1, b.1, c.1, fun hn => Classical.byContradiction fun hx => h5 ⟨hn, hx⟩, fun hn => Classical.byContradiction fun hx => h7 (.inl ⟨hn, hx⟩)⟩, ho.n.2⟩
theorem regs_cases (o : Int) : opRegs o = 0 ∨ opRegs o = 1 ∨ opRegs o = 2 ∨ opRegs o = 3 := by
  unfold opRegs
  split
  · exact .inr (.inl rfl)
  split
  · exact .inr (.inr (.inl rfl))
  split
  · exact .inr (.inr (.inr rfl))
  · exact .inl rfl

def regW (v : Int) : List UInt8 := 114 :: Lib.decDigits v.toNat
def Ins.regI (x : Ins) : Nat → Int | 0 => x.a | 1 => x.b | _ => x.c
/-- the last word of a line -/
def Ins.lastW (x : Ins) : List (List UInt8) := if opN x.op = true then [Lib.decDigits x.n.toNat] else if opK x.op = true then [ftext x.k] else []
def Ins.words (x : Ins) : List (List UInt8) := opText x.op.toNat :: ((List.range (opRegs x.op).toNat).map (fun i => regW (x.regI i)) ++ x.lastW)
def Ins.line (x : Ins) : List UInt8 := joinW 32 x.words
/-- the instruction of a line -/
def rg (w : List (List UInt8)) (r i : Nat) : Option Nat := if i < r then regOf (w.getD (1 + i) []) else some 0
def readTail (w : List (List UInt8)) (o r a b c : Nat) : Option Ins :=
  if opN o = true then (numOf (w.getD (1 + r) [])).map fun n : Nat => (⟨o, a, b, c, (n : Int), 0⟩ : Ins)
  else if opK o = true then if (fparse (w.getD (1 + r) [])).2 = 0 then some ⟨o, a, b, c, 0, (fparse (w.getD (1 + r) [])).1⟩ else none
  else some ⟨o, a, b, c, 0, 0⟩
def opMany (o : Nat) : Nat := 1 + (opRegs o).toNat + (if opN o = true ∨ opK o = true then 1 else 0)
def readW (w : List (List UInt8)) (o : Nat) : Option Ins :=
  if o = 0 ∨ w.length ≠ opMany o then none
  else (rg w (opRegs o).toNat 0).bind fun a => (rg w (opRegs o).toNat 1).bind fun b => (rg w (opRegs o).toNat 2).bind fun c => readTail w o (opRegs o).toNat a b c
def readIns (s : List UInt8) : Option Ins := readW (spl 32 s) (opOf ((spl 32 s).headD []))

theorem dec_clean (n : Nat) : ∀ c ∈ Lib.decDigits n, c ≠ 32 ∧ c ≠ 10 := fun c hc => by
  have h := List.all_eq_true.1 (decDigits_val n).2 c hc
  unfold isDig at h
  simp at h
  constructor
  · rintro rfl
    simp at h
  · rintro rfl
    simp at h
theorem regW_clean (v : Int) : ∀ c ∈ regW v, c ≠ 32 ∧ c ≠ 10 := fun c hc => by
  unfold regW at hc
  rcases List.mem_cons.1 hc with rfl | hc
  · decide
  · exact dec_clean _ c hc
theorem ftext_clean (a : Nat) : ∀ c ∈ ftext a, c ≠ 32 ∧ c ≠ 10 := by
  intro c hc
  unfold ftext at hc
  split at hc
  · simp at hc
    rcases hc with rfl | rfl | rfl <;> decide
  · rcases List.mem_append.1 hc with hc | hc
    · split at hc
      · simp at hc
        subst hc
        decide
      · cases hc
    · split at hc
      · simp at hc
        rcases hc with rfl | rfl | rfl <;> decide
      split at hc
      · simp at hc
        subst hc
        decide
      rcases List.mem_append.1 hc with hc | hc
      · exact dec_clean _ c hc
      rcases List.mem_cons.1 hc with rfl | hc
      · decide
      unfold Lib.itoa at hc
      split at hc
      · rcases List.mem_cons.1 hc with rfl | hc
        · decide
        · exact dec_clean _ c hc
      · exact dec_clean _ c hc
theorem words_clean {x : Ins} (h : x.Full) : ∀ w ∈ x.words, ∀ c ∈ w, c ≠ 32 ∧ c ≠ 10 := by
  intro w hw c hc
  unfold Ins.words at hw
  rcases List.mem_cons.1 hw with rfl | hw
  · exact (op_cases (o := x.op.toNat) (by have := h.op; omega) (by have := h.op; omega)).2 c hc
  rcases List.mem_append.1 hw with hw | hw
  · obtain ⟨i, _, rfl⟩ := List.mem_map.1 hw
    exact regW_clean _ c hc
  · unfold Ins.lastW at hw
    split at hw
    · simp at hw
      subst hw
      exact dec_clean _ c hc
    split at hw
    · simp at hw
      subst hw
      exact ftext_clean _ c hc
    · cases hw
theorem line_clean {x : Ins} (h : x.Full) : 10 ∉ x.line := by
  have hw := words_clean h
  unfold Ins.line
  have key : ∀ (ws : List (List UInt8)), (∀ w ∈ ws, ∀ c ∈ w, c ≠ 32 ∧ c ≠ 10) → (10 : UInt8) ∉ joinW 32 ws := by
    intro ws
    induction ws with
    | nil => intro _; simp [joinW]
    | cons w ws ih =>
      intro hws
      cases ws with
      | nil => exact fun hm => (hws w (by simp) 10 hm).2 rfl
      | cons v ws =>
        rw [join_cons (by simp)]
        intro hm
        rcases List.mem_append.1 hm with hm | hm
        · exact (hws w (by simp) 10 hm).2 rfl
        · rcases List.mem_cons.1 hm with hm | hm
          · exact absurd hm (by decide)
          · exact ih (fun u hu => hws u (List.mem_cons_of_mem _ hu)) hm
  exact key _ hw

theorem nk_not (o : Int) : ¬ (opN o = true ∧ opK o = true) := by
  unfold opN opK
  rintro ⟨h1, h2⟩
  simp at h1 h2
  omega
theorem digits_le : ∀ (k n : Nat), n < 10 ^ (k + 1) → Lib.nDigits n ≤ k + 1
  | 0, n, h => by rw [Lib.nDigits_small (by simpa using h)]; omega
  | k + 1, n, h => by
    by_cases h1 : n < 10
    · rw [Lib.nDigits_small h1]; omega
    · rw [Lib.nDigits_big h1]
      have := digits_le k (n / 10) (by rw [Nat.pow_succ] at h; omega)
      omega
theorem le_digits : ∀ (k n : Nat), Lib.nDigits n ≤ k + 1 → n < 10 ^ (k + 1)
  | 0, n, h => by
    by_cases h1 : n < 10
    · simpa using h1
    · rw [Lib.nDigits_big h1] at h
      have := Lib.nDigits_pos (n / 10)
      omega
  | k + 1, n, h => by
    by_cases h1 : n < 10
    · exact Nat.lt_of_lt_of_le h1 (by rw [Nat.pow_succ]; have := Nat.pow_le_pow_right (n := 10) (by decide) (show 0 ≤ k + 1 by omega); omega)
    · rw [Lib.nDigits_big h1] at h
      have := le_digits k (n / 10) (by omega)
      rw [Nat.pow_succ]
      omega
theorem n_small {n : Nat} (h : n < 1000000000) : (Lib.decDigits n).length ≤ 9 := by
  rw [Lib.decDigits_length]
  exact digits_le 8 n h
theorem words_len (x : Ins) (ho : 0 ≤ x.op) : x.words.length = opMany x.op.toNat := by
  have e : ((x.op.toNat : Nat) : Int) = x.op := by omega
  unfold Ins.words Ins.lastW opMany
  rw [e]
  have hnk := nk_not x.op
  cases h1 : opN x.op <;> cases h2 : opK x.op <;> simp_all <;> omega
theorem words_reg (x : Ins) {i : Nat} (hi : i < (opRegs x.op).toNat) : x.words.getD (1 + i) [] = regW (x.regI i) := by
  unfold Ins.words
  rw [Nat.add_comm, List.getD_cons_succ]
  rw [List.getD_eq_getElem?_getD, List.getElem?_append_left (by simp [hi])]
  simp [hi]
theorem words_last (x : Ins) : x.words.getD (1 + (opRegs x.op).toNat) [] = x.lastW.headD [] := by
  unfold Ins.words
  rw [Nat.add_comm, List.getD_cons_succ]
  rw [List.getD_eq_getElem?_getD, List.getElem?_append_right (by simp)]
  simp
  cases x.lastW <;> rfl
theorem rg_read (x : Ins) (i : Nat) (hi : i < 3) (h0 : 0 ≤ x.regI i ∧ x.regI i < 8) (hu : opRegs x.op ≤ (i : Int) → x.regI i = 0) : rg x.words (opRegs x.op).toNat i = some (x.regI i).toNat := by
  unfold rg
  split
  · rename_i h
    rw [words_reg x h]
    exact regOf_dec (by omega)
  · rename_i h
    have := regs_cases x.op
    rw [hu (by omega)]
    rfl
theorem readIns_line {x : Ins} (h : x.Full) (hn : x.n < 1000000000) : readIns x.line = some x := by
  have hne : x.words ≠ [] := by unfold Ins.words; simp
  have hs : spl 32 x.line = x.words := spl_joined _ hne fun w hw hm => (words_clean h w hw 32 hm).1 rfl
  have hop := h.op
  have hoo := op_cases (o := x.op.toNat) (by omega) (by omega)
  have hhd : x.words.headD [] = opText x.op.toNat := rfl
  have e : ((x.op.toNat : Nat) : Int) = x.op := by omega
  unfold readIns
  rw [hs, hhd, hoo.1]
  have hcond : ¬(x.op.toNat = 0 ∨ x.words.length ≠ opMany x.op.toNat) := by
    rintro (h1 | h1)
    · omega
    · exact h1 (words_len x (by omega))
  unfold readW
  rw [if_neg hcond, e, rg_read x 0 (by omega) h.a h.ua, rg_read x 1 (by omega) h.b h.ub, rg_read x 2 (by omega) h.c h.uc]
  simp only [Option.bind_some]
  unfold readTail
  rw [e, words_last]
  have ea : ((x.regI 0).toNat : Int) = x.a := by have := h.a; show ((x.a.toNat : Nat) : Int) = x.a; omega
  have eb : ((x.regI 1).toNat : Int) = x.b := by have := h.b; show ((x.b.toNat : Nat) : Int) = x.b; omega
  have ec : ((x.regI 2).toNat : Int) = x.c := by have := h.c; show ((x.c.toNat : Nat) : Int) = x.c; omega
  rw [ea, eb, ec]
  have en : ((x.n.toNat : Nat) : Int) = x.n := by have := h.n; omega
  obtain ⟨op, a, b, c, n, k⟩ := x
  dsimp only at *
  unfold Ins.lastW
  dsimp only
  split
  · rename_i h1
    have hk : opK op = false := by
      cases h2 : opK op
      · rfl
      · exact absurd ⟨h1, h2⟩ (nk_not op)
    show Option.map _ (numOf (Lib.decDigits n.toNat)) = _
    have hk' : k = 0 := h.uk hk
    rw [numOf_dec (n_small (by omega)), hk']
    simp only [Option.map_some, en]
  · rename_i h1
    have hn0 : n = 0 := h.un (by simpa using h1)
    split
    · rename_i h2
      show (if (fparse (ftext k)).2 = 0 then some (⟨op, a, b, c, 0, (fparse (ftext k)).1⟩ : Ins) else none) = _
      have hkk : fcan k = k := h.k
      rw [fparse_text h.kb, if_pos rfl, hkk, hn0]
    · rename_i h2
      have hk' : k = 0 := h.uk (by simpa using h2)
      rw [hk', hn0]
/-- what is read is what was written -/
theorem line_readIns {s : List UInt8} {x : Ins} (h : readIns s = some x) : x.Full ∧ x.n < 1000000000 ∧ x.line = s := by
  obtain ⟨w0, ws, hw⟩ := spl_cons 32 s
  have hj := spl_join 32 s
  unfold readIns at h
  rw [hw] at h hj
  simp only [List.headD_cons] at h
  obtain ⟨o, ho⟩ : ∃ o, opOf w0 = o := ⟨_, rfl⟩
  rw [ho] at h
  unfold readW at h
  split at h
  · cases h
  rename_i hc
  have hc1 : o ≠ 0 := fun e => hc (.inl e)
  have hc2 : (w0 :: ws).length = opMany o := Classical.byContradiction fun e => hc (.inr e)
  obtain ⟨ht, ho1, ho2⟩ := opOf_some ho hc1
  cases h0 : rg (w0 :: ws) (opRegs o).toNat 0 with
  | none => rw [h0] at h; cases h
  | some a =>
  cases h1 : rg (w0 :: ws) (opRegs o).toNat 1 with
  | none => rw [h0, h1] at h; cases h
  | some b =>
  cases h2 : rg (w0 :: ws) (opRegs o).toNat 2 with
  | none => rw [h0, h1, h2] at h; cases h
  | some c =>
  rw [h0, h1, h2] at h
  simp only [Option.bind_some] at h
  have reg : ∀ (i v : Nat), rg (w0 :: ws) (opRegs o).toNat i = some v → v < 8 ∧ (opRegs o ≤ (i : Int) → v = 0) ∧ (i < (opRegs o).toNat → ws.getD i [] = regW (v : Int)) := fun i v hv => by
    unfold rg at hv
    split at hv
    · rename_i hi
      rw [Nat.add_comm, List.getD_cons_succ] at hv
      obtain ⟨r1, r2⟩ := regOf_some hv
      exact ⟨r2, fun hle => by omega, fun _ => by rw [r1]; unfold regW; rw [Int.toNat_natCast]⟩
    · rename_i hi
      injection hv with hv
      subst hv
      exact ⟨by omega, fun _ => rfl, fun h => absurd h hi⟩
  obtain ⟨a1, a2, a3⟩ := reg 0 a h0
  obtain ⟨b1, b2, b3⟩ := reg 1 b h1
  obtain ⟨c1, c2, c3⟩ := reg 2 c h2
  have hr := regs_cases (o : Int)
  have hr3 : (opRegs (o : Int)).toNat ≤ 3 := by omega
  have hlen : ws.length = (opRegs (o : Int)).toNat + (if opN (o : Int) = true ∨ opK (o : Int) = true then 1 else 0) := by
    unfold opMany at hc2
    simp only [List.length_cons] at hc2
    omega
  -- the line of an instruction with these registers and this last word
  have fin : ∀ (y : Ins), y.op = o → y.a = a → y.b = b → y.c = c → y.lastW = ws.drop (opRegs (o : Int)).toNat → y.line = s := fun y e1 e2 e3 e4 e5 => by
    unfold Ins.line Ins.words
    rw [e1, Int.toNat_natCast, ht, e5]
    have : (List.range (opRegs (o : Int)).toNat).map (fun i => regW (y.regI i)) = ws.take (opRegs (o : Int)).toNat := by
      apply List.ext_getElem
      · simp; omega
      · intro i g1 g2
        have g3 : i < (opRegs (o : Int)).toNat := by simpa using g1
        simp only [List.getElem_map, List.getElem_range, List.getElem_take]
        have hi3 : i < 3 := by omega
        have hget : ws[i]'(by omega) = ws.getD i [] := by simp [show i < ws.length by omega]
        rw [hget]
        have h3 : i = 0 ∨ i = 1 ∨ i = 2 := by omega
        clear hget g1 g2
        rcases h3 with rfl | rfl | rfl
        · rw [a3 g3]; show regW y.a = _; rw [e2]
        · rw [b3 g3]; show regW y.b = _; rw [e3]
        · rw [c3 g3]; show regW y.c = _; rw [e4]
    rw [this, List.take_append_drop, hj]
  have hk0 : fcan 0 = 0 := by decide
  have hk1 : 0 < 2 * signB := by decide
  unfold readTail at h
  have one : opN (o : Int) = true ∨ opK (o : Int) = true → ws.drop (opRegs (o : Int)).toNat = [ws.getD (opRegs (o : Int)).toNat []] := fun hnk => by
    rw [if_pos hnk] at hlen
    have : (opRegs (o : Int)).toNat < ws.length := by omega
    rw [List.drop_eq_getElem_cons this, List.drop_of_length_le (by omega)]
    simp [this]
  split at h
  · rename_i hN
    rw [Nat.add_comm, List.getD_cons_succ] at h
    cases hn : numOf (ws.getD (opRegs (o : Int)).toNat []) with
    | none => rw [hn] at h; cases h
    | some n =>
      rw [hn] at h
      injection h with h
      obtain ⟨d1, d2⟩ := numOf_some hn
      have hK : opK (o : Int) = false := by
        cases h2 : opK (o : Int)
        · rfl
        · exact absurd ⟨hN, h2⟩ (nk_not _)
      have hnb : n < 1000000000 := by
        rw [← d1, Lib.decDigits_length] at d2
        exact le_digits 8 n d2
      subst h
      refine ⟨⟨by dsimp only; omega, by dsimp only; omega, by dsimp only; omega, by dsimp only; omega, by dsimp only; omega, hk0, hk1, fun hh => (by have := a2 hh; dsimp only; omega), fun hh => (by have := b2 hh; dsimp only; omega), fun hh => (by have := c2 hh; dsimp only; omega), fun hh => (by rw [hN] at hh; cases hh), fun _ => rfl⟩, by dsimp only; omega, fin _ rfl rfl rfl rfl ?_⟩
      unfold Ins.lastW
      dsimp only
      rw [if_pos hN, one (.inl hN), Int.toNat_natCast, d1]
  · rename_i hN
    have hN' : opN (o : Int) = false := by simpa using hN
    split at h
    · rename_i hK
      rw [Nat.add_comm, List.getD_cons_succ] at h
      split at h
      · rename_i hf
        injection h with h
        obtain ⟨d1, d2⟩ := text_fparse hf
        have hcan : fcan (fparse (ws.getD (opRegs (o : Int)).toNat [])).1 = (fparse (ws.getD (opRegs (o : Int)).toNat [])).1 := by
          have := fparse_text d2
          rw [d1] at this
          exact (congrArg Prod.fst this).symm
        subst h
        refine ⟨⟨by dsimp only; omega, by dsimp only; omega, by dsimp only; omega, by dsimp only; omega, by dsimp only; omega, hcan, d2, fun hh => (by have := a2 hh; dsimp only; omega), fun hh => (by have := b2 hh; dsimp only; omega), fun hh => (by have := c2 hh; dsimp only; omega), fun _ => rfl, fun hh => (by rw [hK] at hh; cases hh)⟩, by dsimp only; omega, fin _ rfl rfl rfl rfl ?_⟩
        unfold Ins.lastW
        dsimp only
        rw [if_neg hN, if_pos hK, one (.inr hK), d1]
      · cases h
    · rename_i hK
      have hK' : opK (o : Int) = false := by simpa using hK
      injection h with h
      subst h
      refine ⟨⟨by dsimp only; omega, by dsimp only; omega, by dsimp only; omega, by dsimp only; omega, by dsimp only; omega, hk0, hk1, fun hh => (by have := a2 hh; dsimp only; omega), fun hh => (by have := b2 hh; dsimp only; omega), fun hh => (by have := c2 hh; dsimp only; omega), fun _ => rfl, fun _ => rfl⟩, by dsimp only; omega, fin _ rfl rfl rfl rfl ?_⟩
      unfold Ins.lastW
      dsimp only
      rw [if_neg hN, if_neg hK]
      rw [if_neg (by rw [hN', hK']; simp)] at hlen
      rw [List.drop_of_length_le (by omega)]

def fuelW : List UInt8 := [102, 117, 101, 108, 32]
/-- the fuel of a first line -/
def fuelOf (s : List UInt8) : Option Nat := if s.take 5 = fuelW then numOf (s.drop 5) else none
def linesT (l : List Ins) : List UInt8 := l.flatMap fun x => x.line ++ [10]
/-- a program's text -/
def progText (fuel : Nat) (l : List Ins) : List UInt8 := fuelW ++ Lib.decDigits fuel ++ 10 :: linesT l
/-- what a text's reader answers when all lines are read: the error, the line, the fuel, the instructions -/
def checkRes (fuel : Nat) (l : List Ins) : Int × Nat × Nat × List Ins :=
  if (progCheck fuel l).1 = 0 then (0, 0, fuel, l) else if (progCheck fuel l).1 = 56 then (56, 1, 0, []) else if (progCheck fuel l).1 = 50 then (50, 0, 0, []) else ((progCheck fuel l).1, (progCheck fuel l).2 + 2, 0, [])
def parseL : List (List UInt8) → Nat → Nat → List Ins → Int × Nat × Nat × List Ins
  | [], k, _, _ => (55, k, 0, [])
  | [s], k, fuel, acc => if s = [] ∧ 1 < k then checkRes fuel acc else (55, k, 0, [])
  | s :: t :: r, k, fuel, acc =>
    if k = 1 then match fuelOf s with
      | some f => parseL (t :: r) (k + 1) f acc
      | none => (55, k, 0, [])
    else match readIns s with
      | some x => parseL (t :: r) (k + 1) fuel (acc ++ [x])
      | none => (55, k, 0, [])
def parseT (s : List UInt8) : Int × Nat × Nat × List Ins := parseL (spl 10 s) 1 0 []

theorem fuelOf_line {n : Nat} (h : n < 1000000000) : fuelOf (fuelW ++ Lib.decDigits n) = some n := by
  unfold fuelOf
  rw [if_pos (by simp [fuelW])]
  exact (congrArg numOf (by simp [fuelW])).trans (numOf_dec (n_small h))
theorem line_fuelOf {s : List UInt8} {n : Nat} (h : fuelOf s = some n) : s = fuelW ++ Lib.decDigits n := by
  unfold fuelOf at h
  split at h
  · rename_i h1
    rw [(numOf_some h).1, ← h1, List.take_append_drop]
  · cases h
theorem spl_lines : ∀ (l : List Ins), (∀ x ∈ l, x.Full) → spl 10 (linesT l) = l.map Ins.line ++ [[]]
  | [], _ => rfl
  | x :: l, h => by
    show spl 10 (linesT (x :: l)) = _
    unfold linesT
    rw [List.flatMap_cons, List.append_assoc, List.singleton_append, spl_app _ (line_clean (h x (by simp)))]
    have ih := spl_lines l fun y hy => h y (List.mem_cons_of_mem _ hy)
    unfold linesT at ih
    rw [ih]
    rfl
theorem parse_lines : ∀ (l : List Ins) (k fuel : Nat) (acc : List Ins), 2 ≤ k → (∀ x ∈ l, x.Full ∧ x.n < 1000000000) → parseL (l.map Ins.line ++ [[]]) k fuel acc = checkRes fuel (acc ++ l)
  | [], k, fuel, acc, hk, _ => by
    show parseL [[]] k fuel acc = _
    rw [parseL, if_pos ⟨rfl, by omega⟩, List.append_nil]
  | x :: l, k, fuel, acc, hk, h => by
    have ih := parse_lines l (k + 1) fuel (acc ++ [x]) (by omega) fun y hy => h y (List.mem_cons_of_mem _ hy)
    obtain ⟨h1, h2⟩ := h x (by simp)
    obtain ⟨t, r, htr⟩ : ∃ t r, l.map Ins.line ++ [[]] = t :: r := by
      cases l with
      | nil => exact ⟨_, _, rfl⟩
      | cons y l => exact ⟨_, _, rfl⟩
    rw [List.map_cons, List.cons_append, htr, parseL, if_neg (by omega), readIns_line h1 h2]
    rw [htr] at ih
    simp only
    rw [ih, List.append_assoc]
    rfl
theorem prog_full {fuel : Nat} {l : List Ins} (h : (progCheck fuel l).1 = 0) (hk : ∀ x ∈ l, x.k < 2 * signB) : ∀ x ∈ l, x.Full ∧ x.n ≤ (l.length : Int) := by
  unfold progCheck at h
  split at h
  · cases h
  split at h
  · cases h
  have key : ∀ (m : List Ins) (i : Nat), (codeWrong l.length m i).1 = 0 → ∀ x ∈ m, insWrong x l.length = 0 := by
    intro m
    induction m with
    | nil => intro i _ x hx; cases hx
    | cons y m ih =>
      intro i hc x hx
      unfold codeWrong at hc
      split at hc
      · rename_i h1; exact absurd hc h1
      · rename_i h1
        rcases List.mem_cons.1 hx with rfl | hx
        · simpa using h1
        · exact ih _ hc x hx
  exact fun x hx => ins_full (key l 0 h x hx) (hk x hx)
theorem dec_no10 (n : Nat) : (10 : UInt8) ∉ Lib.decDigits n := fun h => (dec_clean n 10 h).2 rfl
/-- there and back -/
theorem parse_print {fuel : Nat} {l : List Ins} (h : (progCheck fuel l).1 = 0) (hk : ∀ x ∈ l, x.k < 2 * signB) : parseT (progText fuel l) = (0, 0, fuel, l) := by
  have hf := prog_full h hk
  obtain ⟨hfu, hl, _⟩ := progCheck_ok h
  have hno : (10 : UInt8) ∉ fuelW ++ Lib.decDigits fuel := fun hm => by
    rcases List.mem_append.1 hm with hm | hm
    · revert hm; decide
    · exact dec_no10 _ hm
  unfold parseT progText
  rw [spl_app _ hno, spl_lines l fun x hx => (hf x hx).1]
  obtain ⟨t, r, htr⟩ : ∃ t r, l.map Ins.line ++ [[]] = t :: r := by
    cases l with
    | nil => exact ⟨_, _, rfl⟩
    | cons y l => exact ⟨_, _, rfl⟩
  have hpl := parse_lines l 2 fuel [] (by omega) fun x hx => ⟨(hf x hx).1, by have := (hf x hx).2; omega⟩
  rw [htr] at hpl ⊢
  rw [parseL, if_pos rfl, fuelOf_line (by omega)]
  simp only
  rw [hpl, List.nil_append]
  unfold checkRes
  rw [if_pos h]
theorem check_zero {fuel : Nat} {l : List Ins} {a f : Nat} {m : List Ins} (h : checkRes fuel l = (0, a, f, m)) : (progCheck fuel l).1 = 0 ∧ a = 0 ∧ f = fuel ∧ m = l := by
  unfold checkRes at h
  split at h
  · rename_i h1
    simp only [Prod.mk.injEq, true_and] at h
    exact ⟨h1, h.1.symm, h.2.1.symm, h.2.2.symm⟩
  rename_i h1
  split at h
  · simp at h
  split at h
  · simp at h
  · simp only [Prod.mk.injEq] at h
    exact absurd h.1 h1
theorem lines_parse : ∀ (ps : List (List UInt8)) (k fuel : Nat) (acc : List Ins) (a f : Nat) (m : List Ins), 2 ≤ k → parseL ps k fuel acc = (0, a, f, m) → f = fuel ∧ a = 0 ∧ (progCheck fuel m).1 = 0 ∧ ∃ l, m = acc ++ l ∧ joinW 10 ps = linesT l ∧ ∀ x ∈ l, x.k < 2 * signB
  | [], k, fuel, acc, a, f, m, _, h => by simp [parseL] at h
  | [s], k, fuel, acc, a, f, m, hk, h => by
    unfold parseL at h
    split at h
    · rename_i h1
      obtain ⟨c1, c2, c3, c4⟩ := check_zero h
      subst c4
      exact ⟨c3, c2, c1, [], by simp, by rw [h1.1]; rfl, fun x hx => by cases hx⟩
    · simp at h
  | s :: t :: r, k, fuel, acc, a, f, m, hk, h => by
    unfold parseL at h
    rw [if_neg (by omega)] at h
    cases hs : readIns s with
    | none => rw [hs] at h; simp at h
    | some x =>
      rw [hs] at h
      simp only at h
      obtain ⟨i1, i2, i3, l, i4, i5, i6⟩ := lines_parse (t :: r) (k + 1) fuel (acc ++ [x]) a f m (by omega) h
      obtain ⟨x1, x2, x3⟩ := line_readIns hs
      refine ⟨i1, i2, i3, x :: l, by rw [i4]; simp, ?_, fun y hy => ?_⟩
      · rw [join_cons (by simp), i5, ← x3]
        simp [linesT]
      · rcases List.mem_cons.1 hy with rfl | hy
        · exact x1.kb
        · exact i6 y hy
theorem print_parse {s : List UInt8} {a f : Nat} {m : List Ins} (h : parseT s = (0, a, f, m)) : a = 0 ∧ (progCheck f m).1 = 0 ∧ progText f m = s ∧ ∀ x ∈ m, x.k < 2 * signB := by
  have hj := spl_join 10 s
  unfold parseT at h
  obtain ⟨w, ws, hw⟩ := spl_cons 10 s
  rw [hw] at h hj
  cases ws with
  | nil =>
    unfold parseL at h
    rw [if_neg (by omega)] at h
    simp at h
  | cons t r =>
    unfold parseL at h
    rw [if_pos rfl] at h
    cases hf : fuelOf w with
    | none => rw [hf] at h; simp at h
    | some n =>
      rw [hf] at h
      simp only at h
      obtain ⟨i1, i2, i3, l, i4, i5, i6⟩ := lines_parse (t :: r) 2 n [] a f m (by omega) h
      subst i1
      simp only [List.nil_append] at i4
      subst i4
      refine ⟨i2, i3, ?_, i6⟩
      rw [← hj, join_cons (by simp), i5, line_fuelOf hf]
      rfl
end Go.Proofs.YtdkencepmdfacaaGreatDoor
