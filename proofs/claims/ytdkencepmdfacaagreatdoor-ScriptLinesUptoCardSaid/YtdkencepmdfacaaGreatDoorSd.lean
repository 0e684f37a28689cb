/- Scripts (plain): a script's text printed, read, there and back. -/
import Derived.Test.YtdkencepmdfacaaGreatDoorGr6
set_option maxRecDepth 100000
namespace Go.Proofs.YtdkencepmdfacaaGreatDoor
open Ieee

/-- a fleet's numbers -/
structure Cfg where
  ru : Int
  le : Int
  re : Int
  att : Int
  wi : Int
  qu : Int
  bl : Int
  ev : Int
  ha : Int
  deriving DecidableEq, Inhabited
def Cfg.nums (c : Cfg) : List Int := [c.ru, c.le, c.re, c.att, c.wi, c.qu, c.bl, c.ev, c.ha]
def Cfg.ok (c : Cfg) : Prop := (1 ≤ c.ru ∧ c.ru ≤ 8) ∧ (1 ≤ c.le ∧ c.le ≤ 256) ∧ (1 ≤ c.re ∧ c.re ≤ 16) ∧ (1 ≤ c.att ∧ c.att ≤ 8) ∧ (1 ≤ c.wi ∧ c.wi ≤ 8) ∧ (1 ≤ c.qu ∧ c.qu ≤ 64) ∧ (1 ≤ c.bl ∧ c.bl ≤ 16) ∧ (1 ≤ c.ev ∧ c.ev ≤ 16) ∧ (160 ≤ c.ha ∧ c.ha ≤ 512)
instance (c : Cfg) : Decidable c.ok := by unfold Cfg.ok; infer_instance
def cfg0 : Cfg := ⟨0, 0, 0, 0, 0, 0, 0, 0, 0⟩
def fleetW : List UInt8 := [102, 108, 101, 101, 116]
def Cfg.words (c : Cfg) : List (List UInt8) := fleetW :: c.nums.map Lib.itoa
def Cfg.line (c : Cfg) : List UInt8 := joinW 32 c.words
def numsZ : List (List UInt8) → Option (List Int)
  | [] => some []
  | w :: ws => (numZ w).bind fun n => (numsZ ws).map fun l => n :: l
def cfgOf : List Int → Option Cfg
  | [a, b, c, d, e, f, g, h, i] => some ⟨a, b, c, d, e, f, g, h, i⟩
  | _ => none
/-- the config of a first line -/
def readHead (s : List UInt8) : Option Cfg := if (spl 32 s).headD [] = fleetW then ((numsZ (spl 32 s).tail).bind cfgOf).bind fun c => if c.ok then some c else none else none
/-- the lines behind the first -/
def printL (out : List UInt8) : List Stp → Int × List UInt8
  | [] => (0, out)
  | s :: r => if 4096 < s.text.length ∨ 4096 < s.line.length ∨ 32768 < (out ++ (s.line ++ [10])).length then (232, []) else printL (out ++ (s.line ++ [10])) r
def printS (c : Cfg) (l : List Stp) : Int × List UInt8 :=
  if ¬ c.ok then (230, []) else if 2000 < l.length then (232, []) else if ¬ (∀ s ∈ l, s.okKind) then (231, []) else printL (c.line ++ [10]) l
/-- a script's text -/
def scText (c : Cfg) (l : List Stp) : List UInt8 := c.line ++ 10 :: l.flatMap fun s : Stp => s.line ++ [10]
/-- a script's reader, line by line -/
def parseSY : List (List UInt8 × Bool) → Nat → Cfg → List Stp → Int × Nat × Cfg × List Stp
  | [], _, c, acc => (0, 0, c, acc)
  | (s, en) :: r, at_, c, acc =>
    if 4096 < s.length ∨ acc.length = 2000 then (232, at_, cfg0, [])
    else if at_ = 1 then match readHead s with
      | some d => if en = true then parseSY r 2 d acc else (230, 1, cfg0, [])
      | none => (230, 1, cfg0, [])
    else match readStp s with
      | some x => if en = true then parseSY r (at_ + 1) c (acc ++ [x]) else (231, at_, cfg0, [])
      | none => (231, at_, cfg0, [])
def parseS (t : List UInt8) : Int × Nat × Cfg × List Stp := if 32768 < t.length then (232, 0, cfg0, []) else parseSY (yl true (spl 10 t)) 1 cfg0 []
/-! ### the first line -/
theorem cfg_wf {c : Cfg} (h : c.ok) : ∀ n ∈ c.nums, w64 n := by
  intro n hn
  unfold Cfg.nums at hn
  unfold Cfg.ok at h
  unfold w64
  simp at hn
  rcases hn with rfl | rfl | rfl | rfl | rfl | rfl | rfl | rfl | rfl <;> omega
theorem numsZ_itoa : ∀ l : List Int, (∀ n ∈ l, w64 n) → numsZ (l.map Lib.itoa) = some l
  | [], _ => rfl
  | n :: l, h => by
    rw [List.map_cons, numsZ, numZ_itoa (h n (by simp)), numsZ_itoa l fun m hm => h m (List.mem_cons_of_mem _ hm)]
    rfl
theorem itoa_numsZ : ∀ (ws : List (List UInt8)) (l : List Int), numsZ ws = some l → l.map Lib.itoa = ws
  | [], l, h => by
    rw [numsZ] at h
    injection h with h
    rw [← h]; rfl
  | w :: ws, l, h => by
    rw [numsZ] at h
    obtain ⟨n, hn, h⟩ := Option.bind_eq_some_iff.1 h
    obtain ⟨m, hm, h⟩ := Option.map_eq_some_iff.1 h
    subst h
    rw [List.map_cons, (numZ_some hn).1, itoa_numsZ ws m hm]
theorem cfg_words_clean (c : Cfg) : ∀ w ∈ c.words, ∀ d ∈ w, d ≠ 32 ∧ d ≠ 10 := by
  intro w hw d hd
  unfold Cfg.words at hw
  rcases List.mem_cons.1 hw with rfl | hw
  · revert d; decide
  · obtain ⟨n, _, rfl⟩ := List.mem_map.1 hw
    exact itoa_clean n d hd
theorem head_line {c : Cfg} (h : c.ok) : readHead c.line = some c := by
  have hs : spl 32 c.line = c.words := spl_joined _ (by unfold Cfg.words; simp) fun w hw hm => (cfg_words_clean c w hw 32 hm).1 rfl
  unfold readHead
  rw [hs]
  have e1 : c.words.headD [] = fleetW := rfl
  have e2 : c.words.tail = c.nums.map Lib.itoa := rfl
  rw [e1, e2, if_pos rfl, numsZ_itoa _ (cfg_wf h)]
  show ((some c.nums).bind cfgOf).bind _ = _
  simp only [Option.bind_some]
  show (cfgOf c.nums).bind _ = _
  rw [show cfgOf c.nums = some c from rfl]
  simp only [Option.bind_some]
  rw [if_pos h]
theorem line_head {s : List UInt8} {c : Cfg} (h : readHead s = some c) : c.line = s ∧ c.ok := by
  unfold readHead at h
  split at h
  · rename_i hf
    obtain ⟨c', hc, h⟩ := Option.bind_eq_some_iff.1 h
    obtain ⟨l, hl, hc⟩ := Option.bind_eq_some_iff.1 hc
    split at h
    · rename_i hok
      injection h with h
      subst h
      refine ⟨?_, hok⟩
      have e : l = c'.nums := by
        unfold cfgOf at hc
        split at hc
        · injection hc with hc
          subst hc; rfl
        · cases hc
      have ht := itoa_numsZ _ _ hl
      obtain ⟨w, ws, hw⟩ := spl_cons 32 s
      rw [hw] at hf ht
      simp only [List.headD_cons, List.tail_cons] at hf ht
      unfold Cfg.line Cfg.words
      rw [← e, ht, ← hf, ← hw, spl_join]
    · cases h
  · cases h
theorem cfg_no10 (c : Cfg) : (10 : UInt8) ∉ c.line := by
  have key : ∀ (ws : List (List UInt8)), (∀ w ∈ ws, ∀ c ∈ w, c ≠ 32 ∧ c ≠ 10) → (10 : UInt8) ∉ joinW 32 ws := by
    intro ws
    induction ws with
    | nil => intro _; simp [joinW]
    | cons w ws ih =>
      intro hws
      cases ws with
      | nil => exact fun hm => (hws w (by simp) 10 hm).2 rfl
      | cons v ws =>
        rw [join_cons (by simp)]
        intro hm
        rcases List.mem_append.1 hm with hm | hm
        · exact (hws w (by simp) 10 hm).2 rfl
        · rcases List.mem_cons.1 hm with hm | hm
          · exact absurd hm (by decide)
          · exact ih (fun u hu => hws u (List.mem_cons_of_mem _ hu)) hm
  exact key _ (cfg_words_clean c)
theorem itoa_small {n : Int} (h0 : 0 ≤ n) (h1 : n < 1000) : (Lib.itoa n).length ≤ 3 := by
  unfold Lib.itoa
  rw [if_neg (by omega), Lib.decDigits_length]
  exact digits_le 2 _ (by have : n.toNat < 1000 := by omega
                          exact this)
theorem cfg_len {c : Cfg} (h : c.ok) : c.line.length ≤ 50 := by
  unfold Cfg.ok at h
  unfold Cfg.line Cfg.words Cfg.nums
  rw [join_flat]
  have a1 := itoa_small (n := c.ru) (by omega) (by omega)
  have a2 := itoa_small (n := c.le) (by omega) (by omega)
  have a3 := itoa_small (n := c.re) (by omega) (by omega)
  have a4 := itoa_small (n := c.att) (by omega) (by omega)
  have a5 := itoa_small (n := c.wi) (by omega) (by omega)
  have a6 := itoa_small (n := c.qu) (by omega) (by omega)
  have a7 := itoa_small (n := c.bl) (by omega) (by omega)
  have a8 := itoa_small (n := c.ev) (by omega) (by omega)
  have a9 := itoa_small (n := c.ha) (by omega) (by omega)
  simp [fleetW]
  omega
/-! ### there and back -/
theorem printL_told : ∀ (l : List Stp) (out t : List UInt8), printL out l = (0, t) ↔ (∀ s ∈ l, s.text.length ≤ 4096 ∧ s.line.length ≤ 4096) ∧ (l ≠ [] → (out ++ l.flatMap fun s : Stp => s.line ++ [10]).length ≤ 32768) ∧ t = out ++ l.flatMap fun s : Stp => s.line ++ [10]
  | [], out, t => by
    rw [printL]
    constructor
    · intro h
      injection h with _ h
      exact ⟨by simp, fun h => absurd rfl h, by simp [h]⟩
    · intro h
      rw [h.2.2]; simp
  | s :: l, out, t => by
    rw [printL]
    have ih := printL_told l (out ++ (s.line ++ [10])) t
    constructor
    · intro h
      split at h
      · injection h with h _
        exact absurd h (by decide)
      · rename_i hc
        obtain ⟨h1, h2, h3⟩ := ih.1 h
        refine ⟨fun u hu => ?_, fun _ => ?_, by rw [h3]; simp [List.append_assoc]⟩
        · rcases List.mem_cons.1 hu with rfl | hu
          · omega
          · exact h1 u hu
        · rw [List.flatMap_cons, ← List.append_assoc]
          by_cases hl : l = []
          · subst hl
            simp only [List.flatMap_nil, List.append_nil]
            omega
          · exact h2 hl
    · intro ⟨h1, h2, h3⟩
      have h4 := h2 (by simp)
      rw [List.flatMap_cons, ← List.append_assoc] at h4
      have h5 := h1 s (by simp)
      have h6 : (out ++ (s.line ++ [10])).length ≤ 32768 := by
        rw [List.length_append] at h4
        omega
      rw [if_neg (by omega)]
      refine ih.2 ⟨fun u hu => h1 u (List.mem_cons_of_mem _ hu), fun _ => h4, by rw [h3]; simp [List.append_assoc]⟩
theorem spl_scLines : ∀ (l : List Stp), (∀ s ∈ l, s.Wf) → spl 10 (l.flatMap fun s : Stp => s.line ++ [10]) = l.map Stp.line ++ [[]]
  | [], _ => rfl
  | s :: l, h => by
    rw [List.flatMap_cons, List.append_assoc, List.singleton_append, spl_app _ (line_no10 (h s (by simp))), spl_scLines l fun u hu => h u (List.mem_cons_of_mem _ hu)]
    rfl
theorem yl_lines : ∀ (l : List Stp), yl false (l.map Stp.line ++ [[]]) = l.map fun s => (s.line, true)
  | [] => rfl
  | s :: l => by
    have ih := yl_lines l
    cases l with
    | nil => rfl
    | cons u l =>
      rw [List.map_cons, List.cons_append]
      rw [List.map_cons, List.cons_append] at ih ⊢
      rw [yl, ih]
      rfl
theorem parseSY_lines : ∀ (l : List Stp) (at_ : Nat) (c : Cfg) (acc : List Stp), 2 ≤ at_ → (∀ s : Stp, s ∈ l → s.Wf ∧ s.line.length ≤ 4096) → acc.length + l.length ≤ 2000 → parseSY (l.map fun s : Stp => (s.line, true)) at_ c acc = (0, 0, c, acc ++ l)
  | [], at_, c, acc, _, _, _ => by rw [List.map_nil, parseSY, List.append_nil]
  | s :: l, at_, c, acc, h2, h, hn => by
    have h1 := h s (by simp)
    rw [List.length_cons] at hn
    rw [List.map_cons, parseSY, if_neg (by omega), if_neg (by omega), read_line h1.1]
    simp only [if_true]
    rw [parseSY_lines l (at_ + 1) c (acc ++ [s]) (by omega) (fun u hu => h u (List.mem_cons_of_mem _ hu)) (by simp; omega)]
    simp
theorem parse_sc {c : Cfg} {l : List Stp} (hc : c.ok) (hw : ∀ s ∈ l, s.Wf ∧ s.line.length ≤ 4096) (hn : l.length ≤ 2000) (ht : (scText c l).length ≤ 32768) : parseS (scText c l) = (0, 0, c, l) := by
  unfold parseS
  rw [if_neg (by omega)]
  unfold scText
  rw [spl_app _ (cfg_no10 c), spl_scLines l fun s hs => (hw s hs).1]
  have e : yl true (c.line :: (l.map Stp.line ++ [[]])) = (c.line, true) :: l.map fun s => (s.line, true) := by
    rw [← yl_lines l]
    cases l with
    | nil => rfl
    | cons u l => rfl
  have hcl := cfg_len hc
  rw [e, parseSY, if_neg (by simp; omega), if_pos rfl, head_line hc]
  simp only [if_true]
  rw [parseSY_lines l 2 c [] (by omega) hw (by simpa using hn)]
  simp
theorem printS_told {c : Cfg} {l : List Stp} {t : List UInt8} (h : printS c l = (0, t)) : c.ok ∧ l.length ≤ 2000 ∧ (∀ s ∈ l, s.okKind) ∧ (∀ s ∈ l, s.text.length ≤ 4096 ∧ s.line.length ≤ 4096) ∧ t = scText c l ∧ t.length ≤ 32768 := by
  unfold printS at h
  split at h
  · injection h with h _; exact absurd h (by decide)
  rename_i h1
  split at h
  · injection h with h _; exact absurd h (by decide)
  rename_i h2
  split at h
  · injection h with h _; exact absurd h (by decide)
  rename_i h3
  have h1' : c.ok := Classical.byContradiction h1
  obtain ⟨p1, p2, p3⟩ := (printL_told l _ t).1 h
  have e : t = scText c l := by rw [p3]; unfold scText; simp
  refine ⟨h1', by omega, Classical.byContradiction h3, p1, e, ?_⟩
  by_cases hl : l = []
  · subst hl
    rw [e]
    unfold scText
    have := cfg_len h1'
    simp
    omega
  · rw [p3]; exact p2 hl
theorem print_sc {c : Cfg} {l : List Stp} (hc : c.ok) (hn : l.length ≤ 2000) (hk : ∀ s ∈ l, s.okKind) (hb : ∀ s ∈ l, s.text.length ≤ 4096 ∧ s.line.length ≤ 4096) (ht : (scText c l).length ≤ 32768) : printS c l = (0, scText c l) := by
  unfold printS
  rw [if_neg (fun h => h hc), if_neg (by omega), if_neg (fun h => h hk)]
  refine (printL_told l _ _).2 ⟨hb, fun _ => ?_, ?_⟩
  · have : c.line ++ [10] ++ (l.flatMap fun s : Stp => s.line ++ [10]) = scText c l := by unfold scText; simp
    rw [this]; exact ht
  · unfold scText; simp
/-- there and back -/
theorem script_back {c : Cfg} {l : List Stp} {t : List UInt8} (hw : ∀ s ∈ l, w64 s.a ∧ w64 s.k ∧ w64 s.x) (h : printS c l = (0, t)) : parseS t = (0, 0, c, l) := by
  obtain ⟨h1, h2, h3, h4, h5, h6⟩ := printS_told h
  subst h5
  exact parse_sc h1 (fun s hs => ⟨⟨h3 s hs, (hw s hs).1, (hw s hs).2.1, (hw s hs).2.2⟩, (h4 s hs).2⟩) h2 h6
theorem raw_len : ∀ (s l : List UInt8), rawB s = some l → 2 * l.length ≤ s.length := by
  intro s l h
  have e := hex_rawB s l h
  rw [← e]
  have : ∀ m : List UInt8, (hexB m).length = 2 * m.length := fun m => by
    induction m with
    | nil => rfl
    | cons c m ih => rw [hexB_cons]; simp [ih]; omega
  rw [this]
  exact Nat.le_refl _
theorem readStp_text {t : List UInt8} {s : Stp} (h : readStp t = some s) (ht : t.length ≤ 4096) : s.text.length ≤ 4096 := by
  unfold readStp at h
  split at h
  · unfold readSub at h
    split at h
    · rename_i h0
      injection h with h
      subst h
      obtain ⟨er, at_, f, m, hp⟩ : ∃ er at_ f m, parseT (unsemi (t.drop 7) ++ [10]) = (er, at_, f, m) := ⟨_, _, _, _, rfl⟩
      rw [hp] at h0 ⊢
      simp only at h0 ⊢
      subst h0
      obtain ⟨_, c2, _, c4⟩ := print_parse hp
      have := progB_le c2 c4
      omega
    · cases h
  · unfold readWords at h
    split at h
    · cases h
    obtain ⟨s', hs', h⟩ := Option.bind_eq_some_iff.1 h
    split at h
    · cases h
    injection h with h
    subst h
    unfold readFields at hs'
    obtain ⟨a, _, hs'⟩ := Option.bind_eq_some_iff.1 hs'
    obtain ⟨k, _, hs'⟩ := Option.bind_eq_some_iff.1 hs'
    obtain ⟨x, _, hs'⟩ := Option.bind_eq_some_iff.1 hs'
    obtain ⟨m, hm, hs'⟩ := Option.map_eq_some_iff.1 hs'
    subst hs'
    simp only
    split at hm
    · unfold rawT at hm
      split at hm
      · injection hm with hm
        rw [← hm]; simp
      · split at hm
        · cases hm
        · have h1 := raw_len _ _ hm
          have h2 := spl_getD_len 32 t (1 + fieldsN ↑(kindOf ((spl 32 t).headD [])))
          omega
    · injection hm with hm
      rw [← hm]; simp
theorem sy_back : ∀ (ps : List (List UInt8)) (at_ : Nat) (c : Cfg) (acc : List Stp) (b : Nat) (d : Cfg) (m : List Stp), 2 ≤ at_ → (∀ p ∈ ps, (10 : UInt8) ∉ p) → acc.length ≤ 2000 → ps ≠ [] → parseSY (yl false ps) at_ c acc = (0, b, d, m) →
    b = 0 ∧ d = c ∧ m.length ≤ 2000 ∧ ∃ l, m = acc ++ l ∧ joinW 10 ps = (l.flatMap fun s : Stp => s.line ++ [10]) ∧ ∀ s ∈ l, s.Wf ∧ s.text.length ≤ 4096 ∧ s.line.length ≤ 4096
  | [], at_, c, acc, b, d, m, _, _, _, h, _ => absurd rfl h
  | [s], at_, c, acc, b, d, m, h2, hno, ha, _, h => by
    rw [yl] at h
    split at h
    · rename_i hs
      rw [parseSY] at h
      injection h with _ h
      injection h with h1 h
      injection h with h2 h
      exact ⟨h1.symm, h2.symm, by rw [← h]; exact ha, [], by simp [h], by rw [hs.1]; rfl, fun s hs => by cases hs⟩
    · rw [parseSY] at h
      split at h
      · injection h with h _; exact absurd h (by decide)
      rw [if_neg (by omega)] at h
      split at h
      · rw [if_neg (by decide)] at h
        injection h with h _; exact absurd h (by decide)
      · injection h with h _; exact absurd h (by decide)
  | s :: t :: r, at_, c, acc, b, d, m, h2, hno, ha, _, h => by
    rw [yl, parseSY] at h
    split at h
    · injection h with h _; exact absurd h (by decide)
    rename_i hc
    rw [if_neg (by omega)] at h
    split at h
    · rename_i x hx
      rw [if_pos rfl] at h
      have hacc : acc.length < 2000 := by
        rcases Nat.lt_or_ge acc.length 2000 with h3 | h3
        · exact h3
        · exact absurd (.inr (by omega)) hc
      obtain ⟨i1, i2, i3, l, i4, i5, i6⟩ := sy_back (t :: r) (at_ + 1) c (acc ++ [x]) b d m (by omega) (fun p hp => hno p (List.mem_cons_of_mem _ hp)) (by simp; omega) (by simp) h
      obtain ⟨l1, l2⟩ := line_read hx (hno s (by simp))
      refine ⟨i1, i2, i3, x :: l, by rw [i4]; simp, ?_, fun u hu => ?_⟩
      · rw [join_cons (by simp), i5, ← l1]
        simp
      · rcases List.mem_cons.1 hu with rfl | hu
        · exact ⟨l2, readStp_text hx (by omega), by rw [l1]; omega⟩
        · exact i6 u hu
    · injection h with h _; exact absurd h (by decide)
theorem script_forth {t : List UInt8} {b : Nat} {c : Cfg} {l : List Stp} (h : parseS t = (0, b, c, l)) : b = 0 ∧ printS c l = (0, t) ∧ ∀ s ∈ l, s.Wf := by
  unfold parseS at h
  split at h
  · injection h with h _; exact absurd h (by decide)
  rename_i hlen
  have hno := spl_no (c := 10) t
  have hj := spl_join 10 t
  obtain ⟨w, ws, hw⟩ := spl_cons 10 t
  rw [hw] at h hno hj
  cases ws with
  | nil =>
    rw [yl, if_neg (fun hh => absurd hh.2 (by decide)), parseSY] at h
    split at h
    · injection h with h _; exact absurd h (by decide)
    rw [if_pos rfl] at h
    split at h
    · rw [if_neg (by decide)] at h
      injection h with h _; exact absurd h (by decide)
    · injection h with h _; exact absurd h (by decide)
  | cons v r =>
    rw [yl, parseSY] at h
    split at h
    · injection h with h _; exact absurd h (by decide)
    rw [if_pos rfl] at h
    split at h
    · rename_i e hd
      rw [if_pos rfl] at h
      obtain ⟨i1, i2, i3, m, i4, i5, i6⟩ := sy_back (v :: r) 2 e [] b c l (by omega) (fun p hp => hno p (List.mem_cons_of_mem _ hp)) (by simp) (by simp) h
      obtain ⟨l1, l2⟩ := line_head hd
      simp only [List.nil_append] at i4
      subst i4 i2
      have ht : t = scText c l := by
        rw [← hj, join_cons (by simp), i5, ← l1]
        rfl
      refine ⟨i1, ?_, fun s hs => (i6 s hs).1⟩
      rw [ht]
      exact print_sc l2 i3 (fun s hs => (i6 s hs).1.ok) (fun s hs => ⟨(i6 s hs).2.1, (i6 s hs).2.2⟩) (by rw [← ht]; omega)
    · injection h with h _; exact absurd h (by decide)
theorem sy_fault : ∀ (ys : List (List UInt8 × Bool)) (at_ : Nat) (c : Cfg) (acc : List Stp), (parseSY ys at_ c acc).1 ≠ 0 → (parseSY ys at_ c acc).2.2.2 = []
  | [], at_, c, acc, h => absurd rfl h
  | (s, en) :: r, at_, c, acc, h => by
    rw [parseSY] at h ⊢
    split
    · rfl
    rename_i h1
    rw [if_neg h1] at h
    split
    · rename_i h2
      rw [if_pos h2] at h
      split
      · rename_i d hd
        rw [hd] at h
        simp only at h
        split
        · rename_i he
          rw [if_pos he] at h
          exact sy_fault r 2 d acc h
        · rfl
      · rfl
    · rename_i h2
      rw [if_neg h2] at h
      split
      · rename_i x hx
        rw [hx] at h
        simp only at h
        split
        · rename_i he
          rw [if_pos he] at h
          exact sy_fault r (at_ + 1) c (acc ++ [x]) h
        · rfl
      · rfl
theorem parseS_fault {t : List UInt8} (h : (parseS t).1 ≠ 0) : (parseS t).2.2.2 = [] := by
  unfold parseS at h ⊢
  split
  · rfl
  · rename_i h1
    rw [if_neg h1] at h
    exact sy_fault _ _ _ _ h
/-- a line alone -/
theorem script_one {c : Cfg} {l : List Stp} {t : List UInt8} (hw : ∀ s ∈ l, w64 s.a ∧ w64 s.k ∧ w64 s.x) (h : printS c l = (0, t)) {s : Stp} (hs : s ∈ l) : parseS (c.line ++ 10 :: (s.line ++ [10])) = (0, 0, c, [s]) := by
  obtain ⟨h1, h2, h3, h4, h5, h6⟩ := printS_told h
  have e : c.line ++ 10 :: (s.line ++ [10]) = scText c [s] := by unfold scText; simp
  rw [e]
  refine parse_sc h1 (fun u hu => ?_) (by simp) ?_
  · rw [List.mem_singleton] at hu
    subst hu
    exact ⟨⟨h3 _ hs, (hw _ hs).1, (hw _ hs).2.1, (hw _ hs).2.2⟩, (h4 _ hs).2⟩
  · have hle : s.line.length + 1 ≤ (l.flatMap fun s : Stp => s.line ++ [10]).length := by
      clear h h2 h3 h4 h5 h6 hw e
      induction l with
      | nil => cases hs
      | cons u l ih =>
        simp only [List.flatMap_cons, List.length_append, List.length_cons, List.length_nil]
        rcases List.mem_cons.1 hs with rfl | hs
        · omega
        · have := ih hs; omega
    rw [h5] at h6
    unfold scText at h6 ⊢
    simp only [List.length_append, List.length_cons, List.flatMap_cons, List.flatMap_nil, List.append_nil, List.length_nil] at h6 hle ⊢
    omega
end Go.Proofs.YtdkencepmdfacaaGreatDoor
