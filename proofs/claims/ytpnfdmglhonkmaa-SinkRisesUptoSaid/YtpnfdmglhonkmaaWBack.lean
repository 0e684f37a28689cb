/- Layer 7 in plain lists: what is laid is read as it was; cut short or longer it is no message; what is read is laid as it came. -/
import Derived.Test.YtpnfdmglhonkmaaReadFit
set_option maxRecDepth 100000
namespace Go.Proofs.Ytpnfdmglhonkmaa
open Go.RowKit

/-- n with the field of m -/
def Fd.put (m : Mg) (n : Mg) (f : Fd) : Mg :=
  match f with
  | .whole k _ _ => n.setInt (m.int k) k
  | .text k _ _ => n.setStr (m.str k) k
  | .result => { n with code := m.code, bits := m.bits }

def layAll (m : Mg) (fs : List Fd) : List UInt8 := (fs.map fun f => f.lay m).flatten

theorem layAll_cons (m : Mg) (f : Fd) (fs : List Fd) : layAll m (f :: fs) = f.lay m ++ layAll m fs := by simp [layAll]

theorem bytes_eq (m : Mg) : m.bytes = vb m.kind.toNat ++ layAll m (fieldsOf m.kind.toNat) := rfl

theorem num_laid {x most : Int} {over : Int} {rest l : List UInt8} {p : Nat} (h0 : 0 ≤ x) (h1 : x ≤ most) (h2 : most ≤ 1099511627776) (hl : l = vb x.toNat ++ rest) :
    rdrStep (0 : Int) (upR (numR l most.toNat over)) p 0 = (x, p + (vb x.toNat).length, 0) := by
  rw [hl, numR_ok (rdv_laid x.toNat rest (by omega)) (by omega)]
  simp [upR, rdrStep]
  omega

theorem num_cut {x most over : Int} {p c : Nat} (h0 : 0 ≤ x) (h2 : x ≤ 1099511627776) (hc : c < (vb x.toNat).length) :
    rdrStep (0 : Int) (upR (numR ((vb x.toNat).take c) most.toNat over)) p 0 = (0, p, 20) := by
  rw [numR_bad (rdv_short_laid x.toNat c (by omega) hc)]
  simp [upR, rdrStep]

theorem text_laid {s : ByteArray} {most : Nat} {rest l : List UInt8} {p : Nat} (h1 : s.size ≤ most) (h2 : most ≤ 1048576) (hl : l = tb s.data.toList ++ rest) :
    rdrStep (⟨#[]⟩ : ByteArray) (textR l most) p 0 = (s, p + (tb s.data.toList).length, 0) := by
  have hs : s.data.toList.length = s.size := rfl
  have hr : numR (vb s.data.toList.length ++ s.data.toList ++ rest) most 23 = .ok (s.data.toList.length, (vb s.data.toList.length).length) := by
    rw [List.append_assoc]
    exact numR_ok (rdv_laid _ _ (by omega)) (by omega)
  have hfit : s.data.toList.length + (vb s.data.toList.length).length ≤ (vb s.data.toList.length ++ s.data.toList ++ rest).length := by simp only [List.length_append]; omega
  have htk : ((vb s.data.toList.length ++ s.data.toList ++ rest).drop (vb s.data.toList.length).length).take s.data.toList.length = s.data.toList := by
    rw [List.append_assoc, List.drop_left, List.take_left]
  rw [hl]
  unfold tb
  rw [textR, hr]
  simp only [if_pos hfit, htk]
  rw [str_eta]
  simp [rdrStep]

theorem text_cut {s : ByteArray} {most : Nat} {p c : Nat} (h1 : s.size ≤ most) (h2 : most ≤ 1048576) (hc : c < (tb s.data.toList).length) :
    rdrStep (⟨#[]⟩ : ByteArray) (textR ((tb s.data.toList).take c) most) p 0 = (⟨#[]⟩, p, 20) := by
  have hs : s.data.toList.length = s.size := rfl
  unfold tb at hc ⊢
  generalize s.data.toList = t at hc hs ⊢
  rw [List.length_append] at hc
  by_cases h : c < (vb t.length).length
  · rw [List.take_append_of_le_length (by omega), textR, numR_bad (rdv_short_laid t.length c (by omega) h)]
    simp [rdrStep]
  · have htk : (vb t.length ++ t).take c = vb t.length ++ t.take (c - (vb t.length).length) := by
      rw [List.take_append, List.take_of_length_le (by omega)]
    rw [htk, textR, numR_ok (rdv_laid t.length _ (by omega)) (by omega)]
    have hno : ¬ t.length + (vb t.length).length ≤ (vb t.length ++ t.take (c - (vb t.length).length)).length := by
      simp only [List.length_append, List.length_take]
      omega
    simp only [if_neg hno, rdrStep, ne_eq, not_true_eq_false, if_false]

theorem bits_laid {x : Int} {rest l : List UInt8} {p : Nat} (h : 0 ≤ x ∧ x ≤ 18446744073709551615) (hl : l = bb x.toNat ++ rest) :
    rdrStep (0 : Int) (bitsR l) p 0 = (x, p + (bb x.toNat).length, 0) := by
  have h8 : 8 ≤ (bb x.toNat ++ rest).length := by rw [List.length_append, bb_len]; omega
  have ht : (bb x.toNat ++ rest).take 8 = bb x.toNat := by rw [List.take_append_of_le_length (by rw [bb_len]; omega), List.take_of_length_le (by rw [bb_len]; omega)]
  rw [hl, bitsR, if_pos h8, ht, bitsOf_bb _ (by omega)]
  simp [rdrStep, bb_len]
  omega

theorem bits_cut {x : Int} {p c : Nat} (hc : c < 8) : rdrStep (0 : Int) (bitsR ((bb x.toNat).take c)) p 0 = (0, p, 20) := by
  rw [bitsR, if_neg (by rw [List.length_take, bb_len]; omega)]
  simp [rdrStep]

theorem may_whole {m : Mg} {k : Nat} {lo hi : Int} (h : (Fd.whole k lo hi).may m = true) : lo ≤ m.int k ∧ m.int k ≤ hi := by
  simpa [Fd.may] using h
theorem may_text {m : Mg} {k : Nat} {lo hi : Int} (h : (Fd.text k lo hi).may m = true) : lo ≤ (m.str k).size ∧ ((m.str k).size : Int) ≤ hi := by
  simpa [Fd.may] using h
theorem may_result {m : Mg} (h : Fd.result.may m = true) : 0 ≤ m.code ∧ m.code ≤ 7 := by
  simp [Fd.may] at h
  omega
theorem ok2_whole {k : Nat} {lo hi : Int} (h : (Fd.whole k lo hi).ok2 = true) : 1 ≤ k ∧ k ≤ 6 ∧ 0 ≤ lo ∧ hi ≤ 1099511627776 := by
  simpa [Fd.ok2] using h
theorem ok2_text {k : Nat} {lo hi : Int} (h : (Fd.text k lo hi).ok2 = true) : (k = 9 ∨ k = 10) ∧ 0 ≤ lo ∧ hi ≤ 1024 := by
  simpa [Fd.ok2] using h

theorem drop_pre {L pre rest : List UInt8} (hL : L = pre ++ rest) : (str L).data.toList.drop pre.length = rest := by rw [str_data, hL, List.drop_left]

theorem read_laid {m : Mg} (hfit : m.Fit) {f : Fd} (hok : f.ok2 = true) (hm : f.may m = true) {L pre rest : List UInt8} (hL : L = pre ++ (f.lay m ++ rest)) (n : Mg) :
    f.read (str L) (n, pre.length, 0) = (f.put m n, pre.length + (f.lay m).length, 0) := by
  have hd := drop_pre hL
  cases f with
  | whole k lo hi =>
    have h1 := may_whole hm
    have h2 := ok2_whole hok
    have h := num_laid (x := m.int k) (most := 1099511627776) (over := 21) (p := pre.length) (rest := rest) (l := (str L).data.toList.drop pre.length) (by omega) (by omega) (by omega) hd
    show ((n.setInt _ k), _) = _
    simp only
    rw [show (1099511627776 : Nat) = (1099511627776 : Int).toNat from rfl, h]
    rfl
  | text k lo hi =>
    have h1 := may_text hm
    have h2 := ok2_text hok
    have h := text_laid (s := m.str k) (most := hi.toNat) (p := pre.length) (rest := rest) (l := (str L).data.toList.drop pre.length) (by omega) (by omega) hd
    show ((n.setStr _ k), _) = _
    simp only
    rw [h]
    rfl
  | result =>
    have h1 := may_result hm
    have h := num_laid (x := m.code) (most := 7) (over := 21) (p := pre.length) (rest := bb m.bits.toNat ++ rest) (l := (str L).data.toList.drop pre.length) (by omega) (by omega) (by omega) (by rw [hd]; simp [Fd.lay])
    have hd2 : (str L).data.toList.drop (pre.length + (vb m.code.toNat).length) = bb m.bits.toNat ++ rest := by
      rw [← List.drop_drop, hd]
      simp [Fd.lay]
    have hb := bits_laid (x := m.bits) (p := pre.length + (vb m.code.toNat).length) (rest := rest) hfit.bits hd2
    unfold Fd.read
    simp only
    rw [show (7 : Nat) = (7 : Int).toNat from rfl, h]
    simp only
    rw [hb]
    simp [Fd.put, Fd.lay, Nat.add_assoc]

theorem read_cut {m : Mg} {f : Fd} (hok : f.ok2 = true) (hm : f.may m = true) {L pre : List UInt8} {c : Nat} (hL : L = pre ++ (f.lay m).take c) (hc : c < (f.lay m).length) (n : Mg) :
    (f.read (str L) (n, pre.length, 0)).2.2 = 20 := by
  have hd := drop_pre hL
  cases f with
  | whole k lo hi =>
    have h1 := may_whole hm
    have h2 := ok2_whole hok
    have h := num_cut (x := m.int k) (most := 1099511627776) (over := 21) (p := pre.length) (c := c) (by omega) (by omega) hc
    unfold Fd.read
    simp only
    rw [hd, show (1099511627776 : Nat) = (1099511627776 : Int).toNat from rfl]
    exact congrArg (fun x => x.2.2) h
  | text k lo hi =>
    have h1 := may_text hm
    have h2 := ok2_text hok
    have h := text_cut (s := m.str k) (most := hi.toNat) (p := pre.length) (c := c) (by omega) (by omega) hc
    unfold Fd.read
    simp only
    rw [hd]
    exact congrArg (fun x => x.2.2) h
  | result =>
    have h1 := may_result hm
    unfold Fd.lay at hc hd
    simp only at hc hd
    rw [List.length_append, bb_len] at hc
    unfold Fd.read
    simp only
    rw [hd]
    by_cases hs : c < (vb m.code.toNat).length
    · have h := num_cut (x := m.code) (most := 7) (over := 21) (p := pre.length) (c := c) (by omega) (by omega) hs
      rw [List.take_append_of_le_length (by omega), show (7 : Nat) = (7 : Int).toNat from rfl, h]
      simp only
      rw [rdrStep_fault (by decide)]
    · have htk : (vb m.code.toNat ++ bb m.bits.toNat).take c = vb m.code.toNat ++ (bb m.bits.toNat).take (c - (vb m.code.toNat).length) := by
        rw [List.take_append, List.take_of_length_le (by omega)]
      have h := num_laid (x := m.code) (most := 7) (over := 21) (p := pre.length) (rest := (bb m.bits.toNat).take (c - (vb m.code.toNat).length)) (l := (vb m.code.toNat ++ bb m.bits.toNat).take c) (by omega) (by omega) (by omega) htk
      have hd2 : (str L).data.toList.drop (pre.length + (vb m.code.toNat).length) = (bb m.bits.toNat).take (c - (vb m.code.toNat).length) := by
        rw [← List.drop_drop, hd, htk, List.drop_left]
      rw [show (7 : Nat) = (7 : Int).toNat from rfl, h]
      simp only
      rw [hd2, bits_cut (by omega)]

theorem read_fault {b : ByteArray} {f : Fd} {n : Mg} {p : Nat} {e : Int} (he : e ≠ 0) : (f.read b (n, p, e)).2 = (p, e) := by
  cases f with
  | whole k lo hi => unfold Fd.read; simp only; rw [rdrStep_fault he]
  | text k lo hi => unfold Fd.read; simp only; rw [rdrStep_fault he]
  | result => unfold Fd.read; simp only; rw [rdrStep_fault he]; simp only; rw [rdrStep_fault he]

abbrev readFs (b : ByteArray) (fs : List Fd) (s : Mg × Nat × Int) : Mg × Nat × Int := fs.foldl (fun s f => f.read b s) s

theorem readFs_fault {b : ByteArray} {e : Int} (he : e ≠ 0) : ∀ (fs : List Fd) (n : Mg) (p : Nat), (readFs b fs (n, p, e)).2 = (p, e)
  | [], n, p => rfl
  | f :: fs, n, p => by
    have h := read_fault (b := b) (f := f) (n := n) (p := p) he
    show (readFs b fs (f.read b (n, p, e))).2 = _
    have e2 : f.read b (n, p, e) = ((f.read b (n, p, e)).1, p, e) := Prod.ext rfl h
    rw [e2]
    exact readFs_fault he fs _ p

theorem readFs_laid {m : Mg} (hfit : m.Fit) : ∀ (fs : List Fd) (L pre rest : List UInt8) (n : Mg), L = pre ++ (layAll m fs ++ rest) → (∀ f ∈ fs, f.ok2 = true) → (∀ f ∈ fs, f.may m = true) →
    readFs (str L) fs (n, pre.length, 0) = (fs.foldl (Fd.put m) n, pre.length + (layAll m fs).length, 0)
  | [], L, pre, rest, n, hL, _, _ => by simp [readFs, layAll]
  | f :: fs, L, pre, rest, n, hL, h1, h2 => by
    have hL2 : L = pre ++ (f.lay m ++ (layAll m fs ++ rest)) := by rw [hL, layAll_cons, List.append_assoc]
    have h := read_laid hfit (h1 f (List.mem_cons_self ..)) (h2 f (List.mem_cons_self ..)) hL2 n
    have ih := readFs_laid hfit fs L (pre ++ f.lay m) rest (f.put m n) (by rw [hL2, List.append_assoc]) (fun x hx => h1 x (List.mem_cons_of_mem _ hx)) (fun x hx => h2 x (List.mem_cons_of_mem _ hx))
    rw [List.length_append] at ih
    rw [layAll_cons, List.length_append, ← Nat.add_assoc]
    show readFs (str L) fs (f.read (str L) (n, pre.length, 0)) = _
    rw [h, ih]
    rfl

theorem readFs_cut {m : Mg} (hfit : m.Fit) : ∀ (fs : List Fd) (pre : List UInt8) (c : Nat) (n : Mg), pre.length ≤ c → c < (pre ++ layAll m fs).length → (∀ f ∈ fs, f.ok2 = true) → (∀ f ∈ fs, f.may m = true) →
    (readFs (str ((pre ++ layAll m fs).take c)) fs (n, pre.length, 0)).2.2 = 20
  | [], pre, c, n, h1, h2, _, _ => by
    simp [layAll] at h2
    omega
  | f :: fs, pre, c, n, h1, h2, hok, hm => by
    have e : pre ++ layAll m (f :: fs) = (pre ++ f.lay m) ++ layAll m fs := by rw [layAll_cons, List.append_assoc]
    show (readFs _ fs (f.read _ (n, pre.length, 0))).2.2 = 20
    by_cases hc : pre.length + (f.lay m).length ≤ c
    · have hM : (pre ++ layAll m (f :: fs)).take c = pre ++ (f.lay m ++ (layAll m fs).take (c - (pre ++ f.lay m).length)) := by
        rw [e, List.take_append, List.take_of_length_le (by rw [List.length_append]; omega), List.append_assoc]
      rw [read_laid hfit (hok f (List.mem_cons_self ..)) (hm f (List.mem_cons_self ..)) hM n]
      have := readFs_cut hfit fs (pre ++ f.lay m) c (f.put m n) (by rw [List.length_append]; exact hc) (by rw [← e]; exact h2) (fun x hx => hok x (List.mem_cons_of_mem _ hx)) (fun x hx => hm x (List.mem_cons_of_mem _ hx))
      rw [List.length_append, ← e] at this
      exact this
    · have hM : (pre ++ layAll m (f :: fs)).take c = pre ++ (f.lay m).take (c - pre.length) := by
        rw [e, List.take_append_of_le_length (by rw [List.length_append]; omega), List.take_append, List.take_of_length_le h1]
      have hr := read_cut (hok f (List.mem_cons_self ..)) (hm f (List.mem_cons_self ..)) hM (by omega) n
      generalize f.read (str ((pre ++ layAll m (f :: fs)).take c)) (n, pre.length, 0) = s at hr ⊢
      obtain ⟨n1, p1, e1⟩ := s
      simp only at hr
      subst hr
      rw [readFs_fault (by decide)]

theorem put_named (m : Mg) (h1 : 1 ≤ m.kind) (h16 : m.kind ≤ 16) : (fieldsOf m.kind.toNat).foldl (Fd.put m) (Mg.none m.kind) = m.named := by
  unfold Mg.named
  have h : m.kind.toNat ≤ 16 := by omega
  have h0 : m.kind.toNat ≠ 0 := by omega
  generalize m.kind.toNat = k at h h0 ⊢
  rcases k with _|_|_|_|_|_|_|_|_|_|_|_|_|_|_|_|_|k
  · omega
  all_goals first | rfl | omega

def Fd.most : Fd → Int
  | .whole _ _ _ => 10
  | .text _ _ h => 10 + h
  | .result => 18

theorem lay_most {m : Mg} (hfit : m.Fit) {f : Fd} (hok : f.ok2 = true) (hm : f.may m = true) : ((f.lay m).length : Int) ≤ f.most := by
  cases f with
  | whole k lo hi =>
    have h1 := may_whole hm
    have h2 := ok2_whole hok
    have := vb_len_int (x := m.int k) (by omega) (by omega)
    simp only [Fd.lay, Fd.most]
    omega
  | text k lo hi =>
    have h1 := may_text hm
    have h2 := ok2_text hok
    have hs : (m.str k).data.toList.length = (m.str k).size := rfl
    have := vb_len10 (m.str k).size (by omega)
    simp only [Fd.lay, Fd.most, tb, List.length_append, hs]
    omega
  | result =>
    have h1 := may_result hm
    have := vb_len_int (x := m.code) (by omega) (by omega)
    simp only [Fd.lay, Fd.most, List.length_append, bb_len]
    omega

theorem layAll_most {m : Mg} (hfit : m.Fit) : ∀ (fs : List Fd), (∀ f ∈ fs, f.ok2 = true) → (∀ f ∈ fs, f.may m = true) → ((layAll m fs).length : Int) ≤ (fs.map Fd.most).sum
  | [], _, _ => by simp [layAll]
  | f :: fs, h1, h2 => by
    have h := lay_most hfit (h1 f (List.mem_cons_self ..)) (h2 f (List.mem_cons_self ..))
    have ih := layAll_most hfit fs (fun x hx => h1 x (List.mem_cons_of_mem _ hx)) (fun x hx => h2 x (List.mem_cons_of_mem _ hx))
    rw [layAll_cons, List.length_append, List.map_cons, List.sum_cons]
    omega

theorem most_le (k : Nat) : ((fieldsOf k).map Fd.most).sum ≤ 2000 := by
  unfold fieldsOf
  split <;> decide

theorem bytes_le {m : Mg} (hfit : m.Fit) (h : m.check = 0) : m.bytes.length ≤ 2048 := by
  obtain ⟨h1, h16, _, _, hm⟩ := check_zero h
  have a := layAll_most hfit _ (fieldsOf_ok2 _) hm
  have b := most_le m.kind.toNat
  have c := vb_len_int (x := m.kind) (by omega) (by omega)
  rw [bytes_eq, List.length_append]
  omega

theorem kind_laid {m : Mg} (h1 : 1 ≤ m.kind) (h16 : m.kind ≤ 16) (rest : List UInt8) : readKind (str (vb m.kind.toNat ++ rest)) = (Mg.none m.kind, (vb m.kind.toNat).length, 0) := by
  have h := num_laid (x := m.kind) (most := 16) (over := 21) (p := 0) (rest := rest) (l := (str (vb m.kind.toNat ++ rest)).data.toList.drop 0) (by omega) h16 (by omega) rfl
  unfold readKind
  rw [show (16 : Nat) = (16 : Int).toNat from rfl, h]
  simp

theorem read_bytes {m : Mg} (hfit : m.Fit) (h : m.check = 0) (rest : List UInt8) : readAll (str (m.bytes ++ rest)) = (m, m.bytes.length, 0) := by
  obtain ⟨h1, h16, hn, _, hm⟩ := check_zero h
  unfold readAll
  rw [bytes_eq, List.append_assoc, kind_laid h1 h16]
  have hp := put_named m h1 h16
  have := readFs_laid hfit (fieldsOf m.kind.toNat) _ (vb m.kind.toNat) rest (Mg.none m.kind) rfl (fieldsOf_ok2 _) hm
  rw [hp, hn, ← List.length_append] at this
  exact this

theorem cut_bytes {m : Mg} (hfit : m.Fit) (h : m.check = 0) {c : Nat} (hc : c < m.bytes.length) : (readAll (str (m.bytes.take c))).2.2 = 20 := by
  obtain ⟨h1, h16, hn, _, hm⟩ := check_zero h
  unfold readAll
  by_cases h0 : c = 0
  · subst h0
    rw [List.take_zero]
    exact congrArg Prod.snd (readFs_fault (b := str []) (e := 20) (by decide) [fS, fN] (Mg.none 0) 0)
  · have hv : (vb m.kind.toNat).length = 1 := by rw [vb_lt (by omega)]; rfl
    have hk : readKind (str (m.bytes.take c)) = (Mg.none m.kind, (vb m.kind.toNat).length, 0) := by
      rw [bytes_eq, List.take_append, List.take_of_length_le (by omega)]
      exact kind_laid h1 h16 _
    rw [hk]
    exact readFs_cut hfit (fieldsOf m.kind.toNat) (vb m.kind.toNat) c (Mg.none m.kind) (by omega) hc (fieldsOf_ok2 _) hm

theorem decode_bytes {m : Mg} (hfit : m.Fit) (h : m.check = 0) : decode (str m.bytes) = (m, 0) := by
  have hl := bytes_le hfit h
  have hr := read_bytes hfit h []
  rw [List.append_nil] at hr
  unfold decode
  rw [if_neg (by rw [str_size]; omega), hr]
  simp only
  rw [if_neg]
  rintro (h1 | h1)
  · exact h1 (by unfold endE; rw [if_neg (by rw [str_size]; omega)])
  · exact h1 h

theorem decode_more {m : Mg} (hfit : m.Fit) (h : m.check = 0) {rest : List UInt8} (h0 : rest ≠ []) (hl : (m.bytes ++ rest).length ≤ 2048) : decode (str (m.bytes ++ rest)) = (Mg.none 0, 72) := by
  have hp : 0 < rest.length := List.length_pos_iff.mpr h0
  unfold decode
  rw [if_neg (by rw [str_size]; omega), read_bytes hfit h rest]
  simp only
  rw [if_pos]
  left
  unfold endE
  rw [if_pos ⟨rfl, by rw [str_size, List.length_append]; omega⟩]
  decide

theorem decode_cut {m : Mg} (hfit : m.Fit) (h : m.check = 0) {c : Nat} (hc : c < m.bytes.length) : decode (str (m.bytes.take c)) = (Mg.none 0, 72) := by
  have hl := bytes_le hfit h
  have hr := cut_bytes hfit h hc
  unfold decode
  rw [if_neg (by rw [str_size, List.length_take]; omega)]
  simp only
  rw [if_pos]
  left
  rw [hr]
  unfold endE
  rw [if_neg (by omega)]
  decide

def Fd.key : Fd → Nat
  | .whole k _ _ => k
  | .text k _ _ => k
  | .result => 7

theorem int_setInt (m : Mg) (x : Int) {k j : Nat} (hk : 1 ≤ k ∧ k ≤ 6) (hj : 1 ≤ j ∧ j ≤ 6) (h : k ≠ j) : (m.setInt x k).int j = m.int j := by
  have a : k = 1 ∨ k = 2 ∨ k = 3 ∨ k = 4 ∨ k = 5 ∨ k = 6 := by omega
  have b : j = 1 ∨ j = 2 ∨ j = 3 ∨ j = 4 ∨ j = 5 ∨ j = 6 := by omega
  rcases a with rfl | rfl | rfl | rfl | rfl | rfl <;> rcases b with rfl | rfl | rfl | rfl | rfl | rfl <;> first | rfl | (exact absurd rfl h)
theorem int_self (m : Mg) (x : Int) {k : Nat} (hk : 1 ≤ k ∧ k ≤ 6) : (m.setInt x k).int k = x := by
  have a : k = 1 ∨ k = 2 ∨ k = 3 ∨ k = 4 ∨ k = 5 ∨ k = 6 := by omega
  rcases a with rfl | rfl | rfl | rfl | rfl | rfl <;> rfl
theorem str_setInt (m : Mg) (x : Int) (k j : Nat) : (m.setInt x k).str j = m.str j := by unfold Mg.setInt; split <;> rfl
theorem code_setInt (m : Mg) (x : Int) (k : Nat) : (m.setInt x k).code = m.code ∧ (m.setInt x k).bits = m.bits ∧ (m.setInt x k).kind = m.kind := by unfold Mg.setInt; split <;> exact ⟨rfl, rfl, rfl⟩
theorem str_setStr (m : Mg) (x : ByteArray) {k j : Nat} (hk : k = 9 ∨ k = 10) (hj : j = 9 ∨ j = 10) (h : k ≠ j) : (m.setStr x k).str j = m.str j := by
  rcases hk with rfl | rfl <;> rcases hj with rfl | rfl <;> first | rfl | (exact absurd rfl h)
theorem str_self (m : Mg) (x : ByteArray) {k : Nat} (hk : k = 9 ∨ k = 10) : (m.setStr x k).str k = x := by
  rcases hk with rfl | rfl <;> rfl
theorem int_setStr (m : Mg) (x : ByteArray) (k j : Nat) : (m.setStr x k).int j = m.int j := by unfold Mg.setStr; split <;> (unfold Mg.int; split <;> rfl)
theorem code_setStr (m : Mg) (x : ByteArray) (k : Nat) : (m.setStr x k).code = m.code ∧ (m.setStr x k).bits = m.bits ∧ (m.setStr x k).kind = m.kind := by unfold Mg.setStr; split <;> exact ⟨rfl, rfl, rfl⟩

theorem read_other {b : ByteArray} {f g : Fd} (hf : f.ok2 = true) (hg : g.ok2 = true) (h : f.key ≠ g.key) (s : Mg × Nat × Int) : g.lay (f.read b s).1 = g.lay s.1 := by
  cases f with
  | whole k lo hi =>
    have h2 := ok2_whole hf
    cases g with
    | whole j _ _ => have h3 := ok2_whole hg; simp only [Fd.read, Fd.lay]; rw [int_setInt _ _ ⟨h2.1, h2.2.1⟩ ⟨h3.1, h3.2.1⟩ h]
    | text j _ _ => simp only [Fd.read, Fd.lay]; rw [str_setInt]
    | result => simp only [Fd.read, Fd.lay]; rw [(code_setInt _ _ _).1, (code_setInt _ _ _).2.1]
  | text k lo hi =>
    have h2 := ok2_text hf
    cases g with
    | whole j _ _ => simp only [Fd.read, Fd.lay]; rw [int_setStr]
    | text j _ _ => have h3 := ok2_text hg; simp only [Fd.read, Fd.lay]; rw [str_setStr _ _ h2.1 h3.1 h]
    | result => simp only [Fd.read, Fd.lay]; rw [(code_setStr _ _ _).1, (code_setStr _ _ _).2.1]
  | result =>
    cases g with
    | whole j _ _ => simp only [Fd.read, Fd.lay]; rfl
    | text j _ _ => simp only [Fd.read, Fd.lay]; rfl
    | result => exact absurd rfl h

theorem read_kind (b : ByteArray) (f : Fd) (s : Mg × Nat × Int) : (f.read b s).1.kind = s.1.kind := by
  cases f with
  | whole k lo hi => exact (code_setInt _ _ _).2.2
  | text k lo hi => exact (code_setStr _ _ _).2.2
  | result => rfl

theorem read_back {b : ByteArray} {f : Fd} (hok : f.ok2 = true) {m0 m1 : Mg} {p q : Nat} (hp : p ≤ b.size) (h : f.read b (m0, p, 0) = (m1, q, 0)) :
    p ≤ q ∧ q ≤ b.size ∧ f.lay m1 = (b.data.toList.drop p).take (q - p) := by
  cases f with
  | whole k lo hi =>
    have h2 := ok2_whole hok
    obtain ⟨n, q1, f1, hs, hn, hm, ho⟩ := step_num b p 1099511627776 21 hp (by decide)
    unfold Fd.read at h
    try simp only at h
    rw [hs] at h
    injection h with ha hb
    injection hb with hb hc
    try simp only at hb hc
    subst hb hc
    rcases ho with ⟨h5, _⟩ | ⟨_, h6, h7, h8⟩
    · exact absurd rfl h5
    · refine ⟨h6, h7, ?_⟩
      rw [← h8, ← ha]
      simp only [Fd.lay]
      rw [int_self _ _ ⟨h2.1, h2.2.1⟩]
      rfl
  | text k lo hi =>
    have h2 := ok2_text hok
    obtain ⟨n, q1, f1, hs, hn, ho⟩ := step_text b p hi.toNat hp
    unfold Fd.read at h
    try simp only at h
    rw [hs] at h
    injection h with ha hb
    injection hb with hb hc
    try simp only at hb hc
    subst hb hc
    rcases ho with ⟨h5, _⟩ | ⟨_, h6, h7, h8⟩
    · exact absurd rfl h5
    · refine ⟨h6, h7, ?_⟩
      rw [← h8, ← ha]
      simp only [Fd.lay]
      rw [str_self _ _ h2.1]
  | result =>
    obtain ⟨n, q1, f1, hs, hn, hm, ho⟩ := step_num b p 7 21 hp (by decide)
    unfold Fd.read at h
    try simp only at h
    rw [hs] at h
    simp only at h
    rcases ho with ⟨h5, rfl⟩ | ⟨rfl, h6, h7, h8⟩
    · rw [rdrStep_fault h5] at h
      injection h with ha hb
      injection hb with hb hc
      exact absurd hc h5
    · obtain ⟨n2, q2, f2, hs2, hn2, ho2⟩ := step_bits b q1 h7
      rw [hs2] at h
      injection h with ha hb
      injection hb with hb hc
      try simp only at hb hc
      subst hb hc
      rcases ho2 with ⟨h5, _⟩ | ⟨_, h9, h10, h11⟩
      · exact absurd rfl h5
      · refine ⟨by omega, h10, ?_⟩
        rw [← ha]
        simp only [Fd.lay, Int.toNat_natCast]
        rw [h8, h11]
        have e : q2 - p = (q1 - p) + (q2 - q1) := by omega
        rw [e, List.take_add, List.drop_drop]
        congr 3
        omega

def Apart (f : Fd) (fs : List Fd) : Prop := ∀ g ∈ fs, g.key ≠ f.key

theorem readFs_other {b : ByteArray} {g : Fd} (hg : g.ok2 = true) : ∀ (fs : List Fd) (s : Mg × Nat × Int), (∀ f ∈ fs, f.ok2 = true) → (∀ f ∈ fs, f.key ≠ g.key) → g.lay (readFs b fs s).1 = g.lay s.1
  | [], s, _, _ => rfl
  | f :: fs, s, h1, h2 => by
    have ih := readFs_other (b := b) hg fs (f.read b s) (fun x hx => h1 x (List.mem_cons_of_mem _ hx)) (fun x hx => h2 x (List.mem_cons_of_mem _ hx))
    have h := read_other (b := b) (h1 f (List.mem_cons_self ..)) hg (h2 f (List.mem_cons_self ..)) s
    exact ih.trans h

theorem readFs_kind (b : ByteArray) : ∀ (fs : List Fd) (s : Mg × Nat × Int), (readFs b fs s).1.kind = s.1.kind
  | [], s => rfl
  | f :: fs, s => (readFs_kind b fs (f.read b s)).trans (read_kind b f s)

theorem readFs_back {b : ByteArray} : ∀ (fs : List Fd) (m0 m1 : Mg) (p q : Nat), (∀ f ∈ fs, f.ok2 = true) → fs.Pairwise (fun f g => g.key ≠ f.key) → p ≤ b.size → readFs b fs (m0, p, 0) = (m1, q, 0) →
    p ≤ q ∧ q ≤ b.size ∧ layAll m1 fs = (b.data.toList.drop p).take (q - p)
  | [], m0, m1, p, q, _, _, hp, h => by
    injection h with h1 h2
    injection h2 with h2 h3
    subst h2
    exact ⟨Nat.le_refl _, hp, by simp [layAll]⟩
  | f :: fs, m0, m1, p, q, h1, h2, hp, h => by
    rw [List.pairwise_cons] at h2
    have h : readFs b fs (f.read b (m0, p, 0)) = (m1, q, 0) := h
    have hoth := readFs_other (b := b) (h1 f (List.mem_cons_self ..)) fs (f.read b (m0, p, 0)) (fun x hx => h1 x (List.mem_cons_of_mem _ hx)) (fun g hg => h2.1 g hg)
    generalize hs : f.read b (m0, p, 0) = s at h hoth
    obtain ⟨n, p1, e1⟩ := s
    by_cases he : e1 = 0
    · subst he
      obtain ⟨a1, a2, a3⟩ := read_back (h1 f (List.mem_cons_self ..)) hp hs
      obtain ⟨b1, b2, b3⟩ := readFs_back fs n m1 p1 q (fun x hx => h1 x (List.mem_cons_of_mem _ hx)) h2.2 a2 h
      rw [h] at hoth
      simp only at hoth
      refine ⟨by omega, b2, ?_⟩
      rw [layAll_cons, hoth, a3, b3]
      have e : q - p = (p1 - p) + (q - p1) := by omega
      rw [e, List.take_add, List.drop_drop]
      congr 3
      omega
    · have := readFs_fault (b := b) he fs n p1
      rw [h] at this
      injection this with _ this
      exact absurd this.symm he

theorem fieldsOf_apart (k : Nat) : (fieldsOf k).Pairwise (fun f g => g.key ≠ f.key) := by
  unfold fieldsOf
  split <;> decide

theorem decode_ok {b : ByteArray} (hb : b.size < 1073741824) {n : Mg} (h : decode b = (n, 0)) : n.Fit ∧ n.check = 0 ∧ str n.bytes = b ∧ b.size ≤ 2048 := by
  unfold decode at h
  by_cases hbig : 2048 < b.size
  · rw [if_pos hbig] at h
    injection h with _ h
    exact absurd h (by decide)
  · rw [if_neg hbig] at h
    simp only at h
    by_cases hc : endE b (readAll b).2.1 (readAll b).2.2 ≠ 0 ∨ (readAll b).1.check ≠ 0
    · rw [if_pos hc] at h
      injection h with _ h
      exact absurd h (by decide)
    · rw [if_neg hc] at h
      injection h with h _
      have hch : (readAll b).1.check = 0 := by
        false_or_by_contra
        rename_i hx
        exact hc (.inr hx)
      have hend : endE b (readAll b).2.1 (readAll b).2.2 = 0 := by
        false_or_by_contra
        rename_i hx
        exact hc (.inl hx)
      have hki := kind_inv b
      have hinv : ReadInv b (readAll b) := fold_inv hb (fieldsOf (readKind b).1.kind.toNat) (readKind b) hki.1
      rw [h] at hch
      refine ⟨by rw [← h]; exact hinv.1, hch, ?_, by omega⟩
      have he : (readAll b).2.2 = 0 ∧ ¬ (readAll b).2.1 < b.size := by
        unfold endE at hend
        by_cases hx : (readAll b).2.2 = 0 ∧ (readAll b).2.1 < b.size
        · rw [if_pos hx] at hend
          exact absurd hend (by decide)
        · rw [if_neg hx] at hend
          exact ⟨hend, fun hy => hx ⟨hend, hy⟩⟩
      obtain ⟨N, q1, f1, hs, hn, hm, ho⟩ := step_num b 0 16 21 (Nat.zero_le _) (by decide)
      have hrk : readKind b = (Mg.none N, q1, f1) := by
        unfold readKind
        rw [hs]
      have hall : readAll b = readFs b (fieldsOf N) (Mg.none N, q1, f1) := by
        unfold readAll
        rw [hrk]
        rfl
      rcases ho with ⟨h5, _⟩ | ⟨rfl, h6, h7, h8⟩
      · have := readFs_fault (b := b) h5 (fieldsOf N) (Mg.none N) q1
        rw [← hall] at this
        rw [this] at he
        exact absurd he.1 h5
      · have e2 : readAll b = (n, (readAll b).2.1, 0) := by rw [← he.1, ← h]
        have hback := readFs_back (fieldsOf N) (Mg.none N) n q1 (readAll b).2.1 (fieldsOf_ok2 _) (fieldsOf_apart _) h7 (by rw [← hall]; exact e2)
        have hkn : n.kind = N := by
          have := readFs_kind b (fieldsOf N) (Mg.none N, q1, 0)
          rw [← hall, h] at this
          exact this
        have hq : (readAll b).2.1 = b.size := by omega
        rw [bytes_eq, hkn, Int.toNat_natCast, h8, hback.2.2, Nat.sub_zero, List.drop_zero, take_more hback.1, hq, (List.take_of_length_le (Nat.le_refl _) : b.data.toList.take b.size = b.data.toList), str_eta]

theorem decode_cases (b : ByteArray) : (2048 < b.size ∧ decode b = (Mg.none 0, 73)) ∨ (b.size ≤ 2048 ∧ decode b = (Mg.none 0, 72)) ∨ (b.size ≤ 2048 ∧ ∃ n, decode b = (n, 0)) := by
  unfold decode
  by_cases hbig : 2048 < b.size
  · exact .inl ⟨hbig, if_pos hbig⟩
  · rw [if_neg hbig]
    simp only
    split
    · exact .inr (.inl ⟨by omega, rfl⟩)
    · exact .inr (.inr ⟨by omega, _, rfl⟩)

theorem bytes_apart {m n : Mg} (hm : m.Fit) (hn : n.Fit) (h1 : m.check = 0) (h2 : n.check = 0) : str m.bytes = str n.bytes ↔ m = n := by
  constructor
  · intro h
    have a := decode_bytes hm h1
    rw [h, decode_bytes hn h2] at a
    injection a with a _
    exact a.symm
  · rintro rfl
    rfl

theorem bytes_first {m : Mg} (h : m.check = 0) : ∃ t, m.bytes = UInt8.ofNat m.kind.toNat :: t ∧ m.kind = ((UInt8.ofNat m.kind.toNat).toNat : Int) := by
  obtain ⟨h1, h16, _, _, _⟩ := check_zero h
  refine ⟨layAll m (fieldsOf m.kind.toNat), ?_, ?_⟩
  · rw [bytes_eq, vb_lt (by omega)]
    rfl
  · rw [UInt8.toNat_ofNat']
    omega
end Go.Proofs.Ytpnfdmglhonkmaa
