/- Floats, plain: exact values: floors, whole numbers, sums and products of whole ones. -/
import Derived.Test.YtjloiclbknfomaaDoorIc
set_option maxRecDepth 100000
namespace Go.Proofs.YtjloiclbknfomaaDoor
open Ieee

/-- is it finite? -/
def Fin_ (a : Nat) : Prop := a < 2 * signB ∧ a % signB < infB
/-- its exact value, in units of 2^-1074 -/
def ex (a : Nat) : Int := exact (decide (signB ≤ a)) (a % signB)
/-- one, in such units -/
def Un : Nat := 2 ^ 1074
theorem Un_def : ∃ e : Nat, e = 1074 ∧ Un = 2 ^ e := by
  unfold Un
  exact ⟨_, rfl, rfl⟩
theorem Un_pos : 0 < Un := by
  obtain ⟨e, _, hU⟩ := Un_def
  rw [hU]
  exact Nat.two_pow_pos e

theorem inf_sign : infB < signB := by decide
theorem Fin_.lt {a : Nat} (h : Fin_ a) : a < 2 * signB := h.1
theorem Fin_.no {a : Nat} (h : Fin_ a) : isN a = false := decide_eq_false (by have := h.2; omega)
theorem fin_word (s : Bool) {x : Nat} (h : x < infB) : Fin_ (D.word s x) := ⟨word_lt2 s (Nat.lt_trans h inf_sign), by rw [word_mod s (Nat.lt_trans h inf_sign)]; exact h⟩
theorem sign_word (s : Bool) {x : Nat} (h : x < signB) : decide (signB ≤ D.word s x) = s := by
  unfold Format.word
  rw [D_sw]
  unfold signB at *
  cases s
  · simp only [Bool.false_eq_true, if_false]
    exact decide_eq_false (by omega)
  · simp only [if_true]
    exact decide_eq_true (by omega)
theorem ex_word (s : Bool) {x : Nat} (h : x < infB) : ex (D.word s x) = if s = true then -(NN x : Int) else (NN x : Int) := by
  unfold ex
  rw [word_mod s (Nat.lt_trans h inf_sign), sign_word s (Nat.lt_trans h inf_sign), exact_NN]
theorem fval_rounds {a : Nat} (h : Fin_ a) : fval a = rounds (ex a) := by
  obtain ⟨wa, la⟩ := word_of h.1
  unfold ex
  rw [rounds_exact _ h.2]
  generalize decide (signB ≤ a) = s at wa ⊢
  have := word_val s la
  rw [← wa] at this
  exact this
theorem ex_le {a b : Nat} (ha : Fin_ a) (hb : Fin_ b) : fval a ≤ fval b ↔ ex a ≤ ex b := by
  constructor
  · intro h
    obtain ⟨wa, la⟩ := word_of ha.1
    obtain ⟨wb, lb⟩ := word_of hb.1
    unfold ex
    refine exact_mono ha.2 hb.2 ?_
    rw [← wa, ← wb]
    exact h
  · intro h
    rw [fval_rounds ha, fval_rounds hb]
    exact rounds_mono h
theorem ex_lt {a b : Nat} (ha : Fin_ a) (hb : Fin_ b) : fval a < fval b ↔ ex a < ex b := by
  have := ex_le hb ha
  omega
theorem ex_eq {a b : Nat} (ha : Fin_ a) (hb : Fin_ b) : fval a = fval b ↔ ex a = ex b := by
  have := ex_le hb ha
  have := ex_le ha hb
  omega
theorem fval_add {a b : Nat} (ha : Fin_ a) (hb : Fin_ b) : fval (fadd a b) = rounds (ex a + ex b) := by
  obtain ⟨wa, la⟩ := word_of ha.1
  obtain ⟨wb, lb⟩ := word_of hb.1
  have := val_add (decide (signB ≤ a)) (decide (signB ≤ b)) ha.2 hb.2
  rw [← wa, ← wb] at this
  exact this
theorem fin_neg {a : Nat} (ha : Fin_ a) : Fin_ (fneg a) ∧ ex (fneg a) = -ex a := by
  obtain ⟨wa, la⟩ := word_of ha.1
  have hn : fneg a = D.word (!decide (signB ≤ a)) (a % signB) := by
    unfold fneg
    rw [ha.no, if_neg (by decide), word_flip _ _ la, ← wa]
  rw [hn]
  refine ⟨fin_word _ ha.2, ?_⟩
  rw [ex_word _ ha.2]
  unfold ex
  rw [exact_NN]
  cases decide (signB ≤ a) <;> simp
theorem fval_sub {a b : Nat} (ha : Fin_ a) (hb : Fin_ b) : fval (fsub a b) = rounds (ex a - ex b) := by
  obtain ⟨h1, h2⟩ := fin_neg hb
  rw [fsub_eq hb.1, fval_add ha h1, h2]
  rfl

/-- a value that is a number's -/
def Rep (T : Int) : Prop := ∃ r, r < infB ∧ (NN r : Int) = (T.natAbs : Int)
theorem Rep.of {m : Nat} {T : Int} (hm : m < 9007199254740992) {k : Nat} (hk : k ≤ 2045) (h : T.natAbs = m * 2 ^ k) : Rep T := by
  obtain ⟨r, h1, h2⟩ := rep hm k hk
  refine ⟨r, h1, ?_⟩
  unfold NN
  rw [h2, h]
theorem ex_rep {a : Nat} (h : Fin_ a) : Rep (ex a) := by
  refine ⟨a % signB, h.2, ?_⟩
  unfold ex
  rw [exact_NN]
  split <;> omega
theorem Rep.neg {T : Int} (h : Rep T) : Rep (-T) := by
  obtain ⟨r, h1, h2⟩ := h
  exact ⟨r, h1, by rw [Int.natAbs_neg]; exact h2⟩
theorem NN_zero : NN 0 = 0 := by
  unfold NN
  rw [(takenM_zero 0).2 rfl, Nat.zero_mul]
theorem rounds_rep {T : Int} {r : Nat} (h1 : r < infB) (h2 : (NN r : Int) = (T.natAbs : Int)) : rounds T = if T < 0 then -(r : Int) else (r : Int) := by
  have hr := rung_exact h1
  have h3 : takenM r * 2 ^ (takenE r + 1074).toNat = T.natAbs := by
    have : NN r = T.natAbs := by omega
    exact this
  unfold rounds
  rw [← h3, hr]
/-- a word that is a number's value, rounded, is that number -/
theorem ex_exact {c : Nat} {T : Int} (hc : c < 2 * signB) (h : fval c = rounds T) (hT : Rep T) : Fin_ c ∧ ex c = T := by
  obtain ⟨r, h1, h2⟩ := hT
  rw [rounds_rep h1 h2] at h
  obtain ⟨wc, lc⟩ := word_of hc
  have hI := inf_sign
  have hx : c % signB = r := by
    unfold fval at h
    split at h <;> split at h <;> omega
  refine ⟨⟨hc, by omega⟩, ?_⟩
  unfold ex
  rw [exact_NN, hx]
  by_cases h0 : r = 0
  · rw [h0, NN_zero] at h2 ⊢
    split <;> omega
  · unfold fval at h
    by_cases d : signB ≤ c
    · rw [if_pos d, hx] at h
      rw [decide_eq_true d, if_pos rfl]
      split at h <;> omega
    · rw [if_neg d, hx] at h
      rw [decide_eq_false d, if_neg (by decide)]
      split at h <;> omega

/-! ### Whole numbers -/
theorem toU (s : Bool) (n : Nat) : D.nearest s n 0 = D.nearest s (n * Un) (-1074) := by
  by_cases h : n = 0
  · subst h
    rw [Nat.zero_mul, nearest_none, nearest_none]
  · obtain ⟨e, he, hU⟩ := Un_def
    rw [hU]
    exact (nearest_scale s (by omega) (by omega)).symm
theorem nearest_rep (s : Bool) {n r : Nat} (h1 : r < infB) (h2 : NN r = n * Un) : D.nearest s n 0 = D.word s r := by
  rw [toU, ← h2, (nearest_is s _ _).1]
  have := rung_exact h1
  unfold NN
  rw [this]
theorem fof_exact {n : Int} (h : Rep (n * (Un : Int))) : Fin_ (fof n) ∧ ex (fof n) = n * (Un : Int) := by
  obtain ⟨r, h1, h2⟩ := h
  have hU := Un_pos
  rw [Int.natAbs_mul, Int.natAbs_natCast] at h2
  have hf : fof n = D.word (decide (n < 0)) r := nearest_rep _ h1 (by exact_mod_cast h2)
  rw [hf]
  refine ⟨fin_word _ h1, ?_⟩
  rw [ex_word _ h1]
  by_cases d : n < 0
  · rw [decide_eq_true d, if_pos rfl, h2, Int.natCast_mul, show ((n.natAbs : Nat) : Int) = -n by omega, Int.neg_mul, Int.neg_neg]
  · rw [decide_eq_false d, if_neg (by decide), h2, Int.natCast_mul, show ((n.natAbs : Nat) : Int) = n by omega]
theorem rep_whole {n : Int} (h : n.natAbs < 9007199254740992) : Rep (n * (Un : Int)) :=
  Rep.of (m := n.natAbs) h (k := 1074) (by decide) (by rw [Int.natAbs_mul, Int.natAbs_natCast]; rfl)

/-- the floor of a finite number -/
theorem floor_ex {a : Nat} (ha : Fin_ a) : Fin_ (ffloor a) ∧ ∃ n : Int, ex (ffloor a) = n * (Un : Int) ∧ n * (Un : Int) ≤ ex a ∧ ex a < n * (Un : Int) + (Un : Int) ∧ (ex a = n * (Un : Int) → ffloor a = a) := by
  obtain ⟨wa, la⟩ := word_of ha.1
  have hfin := ha.2
  obtain ⟨s, hs⟩ : ∃ s, s = decide (signB ≤ a) := ⟨_, rfl⟩
  obtain ⟨x, hx⟩ : ∃ x, x = a % signB := ⟨_, rfl⟩
  rw [← hs, ← hx] at wa
  rw [← hx] at la hfin
  have hexa : ex a = if s = true then -(NN x : Int) else (NN x : Int) := by
    rw [wa, ex_word s hfin]
  have hf : ffloor a = D.nearest s (Toward.down.cut s (takenM x <<< (takenE x).toNat) (-takenE x).toNat) 0 := by
    unfold ffloor
    rw [ha.no, if_neg (by decide), show D.read a = D.read (D.word s x) by rw [← wa], read_num s hfin]
    rfl
  rw [cut_down] at hf
  have hge := takenE_ge x
  have hUp := Un_pos
  by_cases he : 0 ≤ takenE x
  · rw [show (-takenE x).toNat = 0 by omega, Nat.shiftLeft_eq] at hf
    have h1 : floorN s (takenM x * 2 ^ (takenE x).toNat) 0 = takenM x * 2 ^ (takenE x).toNat := by
      unfold floorN
      rw [Nat.pow_zero, Nat.div_one, Nat.mod_one, if_neg (by simp)]
      rfl
    have h2 : NN x = takenM x * 2 ^ (takenE x).toNat * Un := by
      obtain ⟨e, he, hU⟩ := Un_def
      rw [hU]
      unfold NN
      rw [Nat.mul_assoc, ← Nat.pow_add]
      congr 2
      omega
    rw [h1, nearest_rep s hfin h2, ← wa] at hf
    rw [hf]
    refine ⟨ha, (if s = true then -((takenM x * 2 ^ (takenE x).toNat : Nat) : Int) else ((takenM x * 2 ^ (takenE x).toNat : Nat) : Int)), ?_⟩
    have h3 : ex a = (if s = true then -((takenM x * 2 ^ (takenE x).toNat : Nat) : Int) else ((takenM x * 2 ^ (takenE x).toNat : Nat) : Int)) * (Un : Int) := by
      rw [hexa, h2]
      cases s
      · simp only [Bool.false_eq_true, if_false]
        exact Int.natCast_mul _ _
      · simp only [if_true]
        rw [Int.neg_mul, Int.natCast_mul (takenM x * 2 ^ (takenE x).toNat)]
    exact ⟨h3, by omega, by omega, fun _ => rfl⟩
  · rw [show (takenE x).toNat = 0 by omega, Nat.shiftLeft_zero] at hf
    obtain ⟨k, hk⟩ : ∃ k : Nat, k = (-takenE x).toNat := ⟨_, rfl⟩
    rw [← hk] at hf
    have hk1 : 1 ≤ k := by omega
    obtain ⟨P, hP⟩ : ∃ P : Nat, P = 2 ^ (1074 - k) := ⟨_, rfl⟩
    have hPp : 0 < P := by rw [hP]; exact Nat.two_pow_pos _
    have hU : Un = 2 ^ k * P := by
      obtain ⟨e, he, hE⟩ := Un_def
      rw [hE, hP, ← Nat.pow_add]
      congr 1
      omega
    have hN : NN x = takenM x * P := by
      unfold NN
      rw [hP, show (takenE x + 1074).toNat = 1074 - k by omega]
    obtain ⟨G, hG⟩ : ∃ G : Nat, G = 2 ^ k := ⟨_, rfl⟩
    have hG2 : 2 ≤ G := by
      rw [hG]
      calc 2 = 2 ^ 1 := rfl
        _ ≤ 2 ^ k := Nat.pow_le_pow_right (by decide) hk1
    have hm53 : takenM x < 9007199254740992 := taken_lt
    obtain ⟨m, hm⟩ : ∃ m, m = takenM x := ⟨_, rfl⟩
    rw [← hm] at hf hN hm53
    have hdm := Nat.div_add_mod m G
    have hml := Nat.mod_lt m (show 0 < G by omega)
    have hq : m / G ≤ m / 2 := Nat.div_le_div_left hG2 (by decide)
    obtain ⟨n, hn⟩ : ∃ n, n = floorN s m k := ⟨_, rfl⟩
    rw [← hn] at hf
    unfold floorN at hn
    rw [← hG] at hn hU
    have hn53 : n < 9007199254740992 := by
      rw [hn]
      split <;> omega
    obtain ⟨u, hu, hU2⟩ := Un_def
    obtain ⟨r, hr1, hr2⟩ := rep hn53 u (by omega)
    have hr3 : NN r = n * Un := by
      rw [hU2]
      exact hr2
    rw [nearest_rep s hr1 hr3] at hf
    rw [hf]
    have hexf := ex_word s hr1
    refine ⟨fin_word s hr1, (if s = true then -(n : Int) else (n : Int)), ?_⟩
    have hnU : (NN r : Int) = (n : Int) * (Un : Int) := by rw [hr3, Int.natCast_mul]
    obtain ⟨q, hqd⟩ : ∃ q, q = m / G := ⟨_, rfl⟩
    obtain ⟨t, htd⟩ : ∃ t, t = m % G := ⟨_, rfl⟩
    rw [← hqd, ← htd] at hdm hn
    rw [← htd] at hml
    have hNx : (NN x : Int) = (q : Int) * (Un : Int) + (t : Int) * (P : Int) := by
      rw [hN, hU, ← hdm, Nat.add_mul, Nat.mul_comm G q, Nat.mul_assoc]
      push_cast
      rfl
    have htP : (t : Int) * (P : Int) < (Un : Int) := by
      rw [hU]
      have : t * P < G * P := Nat.mul_lt_mul_of_pos_right hml hPp
      exact_mod_cast this
    have htP0 : 0 ≤ (t : Int) * (P : Int) := Int.mul_nonneg (by omega) (by omega)
    have htP1 : (t : Int) * (P : Int) = 0 → t = 0 := by
      intro e
      rcases Int.mul_eq_zero.1 e with e | e <;> omega
    obtain ⟨R, hR⟩ : ∃ R : Int, R = (t : Int) * (P : Int) := ⟨_, rfl⟩
    rw [← hR] at hNx htP htP0 htP1
    obtain ⟨u, hu⟩ : ∃ u : Int, u = (Un : Int) := ⟨_, rfl⟩
    rw [← hu] at hNx htP hnU ⊢
    have same : t = 0 → D.word s r = a := by
      intro h0
      rw [h0] at hn
      rw [if_neg (by simp)] at hn
      have hnq : n = q := by omega
      rw [wa]
      congr 1
      have : NN r = NN x := by
        have hR0 : R = 0 := by rw [hR, h0]; simp
        rw [hR0] at hNx
        rw [hnq] at hnU
        omega
      have h1 := (NN_le hr1 hfin).1 (by omega)
      have h2 := (NN_le hfin hr1).1 (by omega)
      omega
    cases s
    · simp only [Bool.false_eq_true, if_false] at hexa hexf ⊢
      rw [if_neg (by simp)] at hn
      have hnq : n = q := by omega
      rw [hnq] at hnU ⊢
      refine ⟨by rw [hexf]; exact hnU, by omega, by omega, fun e => ?_⟩
      have := htP1 (by omega)
      exact same this
    · simp only [if_true] at hexa hexf ⊢
      by_cases h0 : t = 0
      · rw [h0, if_neg (by simp)] at hn
        have hnq : n = q := by omega
        rw [hnq] at hnU ⊢
        have hR0 : R = 0 := by rw [hR, h0]; simp
        rw [Int.neg_mul]
        exact ⟨by rw [hexf, hnU], by omega, by omega, fun _ => same h0⟩
      · rw [if_pos ⟨rfl, h0⟩] at hn
        have hnq : (n : Int) = (q : Int) + 1 := by omega
        rw [Int.neg_mul]
        have hnu : (n : Int) * u = (q : Int) * u + u := by rw [hnq, Int.add_mul, Int.one_mul]
        refine ⟨by rw [hexf, hnU], by omega, by omega, fun e => ?_⟩
        exact absurd (htP1 (by omega)) h0

/-- the whole number that a word is, if it is one (of any size) -/
theorem whole_iff {a : Nat} (ha : Fin_ a) : fval a = fval (ffloor a) ↔ ∃ n : Int, ex a = n * (Un : Int) := by
  obtain ⟨hf, n, h1, h2, h3, h4⟩ := floor_ex ha
  have hU := Un_pos
  rw [ex_eq ha hf, h1]
  constructor
  · intro e
    exact ⟨n, e⟩
  · rintro ⟨k, hk⟩
    rw [hk] at h2 h3 ⊢
    obtain ⟨u, hu⟩ : ∃ u : Int, u = (Un : Int) := ⟨_, rfl⟩
    rw [← hu] at h2 h3 ⊢
    have hu0 : 0 < u := by omega
    have h5 : (k - n) * u < 1 * u := by rw [Int.sub_mul, Int.one_mul]; omega
    have h6 : 0 * u ≤ (k - n) * u := by rw [Int.sub_mul, Int.zero_mul]; omega
    have h7 := Int.lt_of_mul_lt_mul_right h5 (by omega)
    have h8 := Int.le_of_mul_le_mul_right h6 hu0
    rw [show k = n by omega]
end Go.Proofs.YtjloiclbknfomaaDoor
