/- The reference's Decode answers what layer 7's says. -/
import Derived.Test.YtpnfdmglhonkmaaGreatRDecode
set_option maxRecDepth 100000
namespace Go.Proofs.YtpnfdmglhonkmaaGreat
open Go.RowKit

theorem endE_ne {b : ByteArray} {p : Nat} {e : Int} (he : e ≠ 0) : endE b p e ≠ 0 := by
  unfold endE
  rw [if_neg (fun h => he h.1)]
  exact he

theorem res_last (b : ByteArray) (s : Mg × Nat × Int) : Fd.result.read b s = rread b 114 s ∨ ((Fd.result.read b s).2.2 ≠ 0 ∧ 7 < (rread b 114 s).1.code) := by
  obtain ⟨m, p, e⟩ := s
  by_cases he : e = 0
  · subst he
    cases hr : rdv 0 0 (b.data.toList.drop p) with
    | error x =>
      left
      show (fun (r : Int × Nat × Int) => (fun (q : Int × Nat × Int) => (({ m with code := r.1, bits := q.1 } : Mg), q.2)) (rdrStep 0 (bitsR (b.data.toList.drop r.2.1)) r.2.1 r.2.2)) (rdrStep 0 (upR (numR (b.data.toList.drop p) 7 21)) p 0) = (fun (r : Int × Nat × Int) => (fun (q : Int × Nat × Int) => (({ m with code := r.1, bits := q.1 } : Mg), q.2)) (rdrStep 0 (bitsR (b.data.toList.drop r.2.1)) r.2.1 r.2.2)) (rdrStep 0 (upR (numR (b.data.toList.drop p) 1099511627776 21)) p 0)
      rw [numR_bad hr, numR_bad hr]
    | ok nk =>
      obtain ⟨n, k⟩ := nk
      by_cases h7 : n ≤ 7
      · left
        show (fun (r : Int × Nat × Int) => (fun (q : Int × Nat × Int) => (({ m with code := r.1, bits := q.1 } : Mg), q.2)) (rdrStep 0 (bitsR (b.data.toList.drop r.2.1)) r.2.1 r.2.2)) (rdrStep 0 (upR (numR (b.data.toList.drop p) 7 21)) p 0) = (fun (r : Int × Nat × Int) => (fun (q : Int × Nat × Int) => (({ m with code := r.1, bits := q.1 } : Mg), q.2)) (rdrStep 0 (bitsR (b.data.toList.drop r.2.1)) r.2.1 r.2.2)) (rdrStep 0 (upR (numR (b.data.toList.drop p) 1099511627776 21)) p 0)
        rw [numR_ok hr h7, numR_ok hr (by omega)]
      · by_cases h40 : n ≤ 1099511627776
        · right
          refine ⟨?_, ?_⟩
          · show ((fun (r : Int × Nat × Int) => (rdrStep (0 : Int) (bitsR (b.data.toList.drop r.2.1)) r.2.1 r.2.2).2.2) (rdrStep 0 (upR (numR (b.data.toList.drop p) 7 21)) p 0)) ≠ 0
            rw [numR_over hr (by omega)]
            have h1 : rdrStep (0 : Int) (upR (.error 21)) p 0 = (0, p, 21) := by simp [upR, rdrStep]
            rw [h1]
            simp only
            rw [rdrStep_fault (by decide)]
            exact (by decide : (21 : Int) ≠ 0)
          · show 7 < (rdrStep (0 : Int) (upR (numR (b.data.toList.drop p) 1099511627776 21)) p 0).1
            rw [numR_ok hr h40]
            simp [upR, rdrStep]
            omega
        · left
          show (fun (r : Int × Nat × Int) => (fun (q : Int × Nat × Int) => (({ m with code := r.1, bits := q.1 } : Mg), q.2)) (rdrStep 0 (bitsR (b.data.toList.drop r.2.1)) r.2.1 r.2.2)) (rdrStep 0 (upR (numR (b.data.toList.drop p) 7 21)) p 0) = (fun (r : Int × Nat × Int) => (fun (q : Int × Nat × Int) => (({ m with code := r.1, bits := q.1 } : Mg), q.2)) (rdrStep 0 (bitsR (b.data.toList.drop r.2.1)) r.2.1 r.2.2)) (rdrStep 0 (upR (numR (b.data.toList.drop p) 1099511627776 21)) p 0)
          rw [numR_over hr (by omega), numR_over hr (by omega)]
  · left
    show (fun (r : Int × Nat × Int) => (fun (q : Int × Nat × Int) => (({ m with code := r.1, bits := q.1 } : Mg), q.2)) (rdrStep 0 (bitsR (b.data.toList.drop r.2.1)) r.2.1 r.2.2)) (rdrStep 0 (upR (numR (b.data.toList.drop p) 7 21)) p e) = (fun (r : Int × Nat × Int) => (fun (q : Int × Nat × Int) => (({ m with code := r.1, bits := q.1 } : Mg), q.2)) (rdrStep 0 (bitsR (b.data.toList.drop r.2.1)) r.2.1 r.2.2)) (rdrStep 0 (upR (numR (b.data.toList.drop p) 1099511627776 21)) p e)
    rw [rdrStep_fault he, rdrStep_fault he]

theorem text_last (l : List UInt8) (p : Nat) (e : Int) (hi : Nat) (hh : hi ≤ 2048) : rdrStep (⟨#[]⟩ : ByteArray) (textR l hi) p e = rdrStep ⟨#[]⟩ (textR l 2048) p e ∨
    ((rdrStep (⟨#[]⟩ : ByteArray) (textR l hi) p e).2.2 ≠ 0 ∧ ((rdrStep (⟨#[]⟩ : ByteArray) (textR l 2048) p e).2.2 ≠ 0 ∨ hi < (rdrStep (⟨#[]⟩ : ByteArray) (textR l 2048) p e).1.size)) := by
  by_cases he : e = 0
  · subst he
    cases hr : rdv 0 0 l with
    | error x =>
      left
      rw [textR, textR, numR_bad hr, numR_bad hr]
    | ok nk =>
      obtain ⟨n, k⟩ := nk
      by_cases h7 : n ≤ hi
      · left
        rw [textR, textR, numR_ok hr h7, numR_ok hr (by omega)]
      · by_cases h40 : n ≤ 2048
        · right
          refine ⟨?_, ?_⟩
          · rw [textR, numR_over hr (by omega)]
            simp [rdrStep]
          · rw [textR, numR_ok hr h40]
            simp only
            by_cases hfit : n + k ≤ l.length
            · right
              rw [if_pos hfit]
              simp only [rdrStep, ne_eq, not_true_eq_false, if_false, str_size, List.length_take, List.length_drop]
              omega
            · left
              rw [if_neg hfit]
              simp [rdrStep]
        · left
          rw [textR, textR, numR_over hr (by omega), numR_over hr (by omega)]
  · left
    rw [rdrStep_fault he, rdrStep_fault he]

theorem t_last (b : ByteArray) (s : Mg × Nat × Int) : fT.read b s = rread b 116 s ∨ ((fT.read b s).2.2 ≠ 0 ∧ ((rread b 116 s).2.2 ≠ 0 ∨ 32 < (rread b 116 s).1.text.size)) := by
  obtain ⟨m, p, e⟩ := s
  rcases text_last (b.data.toList.drop p) p e 32 (by decide) with h | h
  · left
    show (fun (r : ByteArray × Nat × Int) => (m.setStr r.1 9, r.2)) (rdrStep ⟨#[]⟩ (textR (b.data.toList.drop p) 32) p e) = (fun (r : ByteArray × Nat × Int) => (m.setStr r.1 9, r.2)) (rdrStep ⟨#[]⟩ (textR (b.data.toList.drop p) 2048) p e)
    rw [h]
  · exact .inr h

theorem p_last (b : ByteArray) (s : Mg × Nat × Int) : fP.read b s = rread b 112 s ∨ ((fP.read b s).2.2 ≠ 0 ∧ ((rread b 112 s).2.2 ≠ 0 ∨ 1024 < (rread b 112 s).1.prog.size)) := by
  obtain ⟨m, p, e⟩ := s
  rcases text_last (b.data.toList.drop p) p e 1024 (by decide) with h | h
  · left
    show (fun (r : ByteArray × Nat × Int) => (m.setStr r.1 10, r.2)) (rdrStep ⟨#[]⟩ (textR (b.data.toList.drop p) 1024) p e) = (fun (r : ByteArray × Nat × Int) => (m.setStr r.1 10, r.2)) (rdrStep ⟨#[]⟩ (textR (b.data.toList.drop p) 2048) p e)
    rw [h]
  · exact .inr h

/-- a state that is refused -/
def Bad (b : ByteArray) (s : Mg × Nat × Int) : Prop := endE b s.2.1 s.2.2 ≠ 0 ∨ s.1.check ≠ 0

theorem bad_e {b : ByteArray} {s : Mg × Nat × Int} (h : s.2.2 ≠ 0) : Bad b s := .inl (endE_ne h)
theorem bad_code {b : ByteArray} {s : Mg × Nat × Int} (h : 7 < s.1.code) : Bad b s := .inr fun hc => by have := (check_fields hc).code; omega
theorem bad_text {b : ByteArray} {s : Mg × Nat × Int} (h : 32 < s.1.text.size) : Bad b s := .inr fun hc => by have := (check_fields hc).text; omega
theorem bad_prog {b : ByteArray} {s : Mg × Nat × Int} (h : 1024 < s.1.prog.size) : Bad b s := .inr fun hc => by have := (check_fields hc).prog; omega
theorem bad_kind {b : ByteArray} {s : Mg × Nat × Int} (h : s.1.kind = 0) : Bad b s := .inr fun hc => by have := (check_zero hc).1; omega

theorem reads_same (b : ByteArray) (n : Nat) (hn : n ≤ 16) (s : Mg × Nat × Int) (hs : s.1.kind = n) :
    readFs b (fieldsOf n) s = (rword (n : Int)).foldl (fun s c => rread b c s) s ∨ (Bad b (readFs b (fieldsOf n) s) ∧ Bad b ((rword (n : Int)).foldl (fun s c => rread b c s) s)) := by
  rcases n with _|_|_|_|_|_|_|_|_|_|_|_|_|_|_|_|_|n
  · right
    exact ⟨bad_kind ((readFs_kind b [fS, fN] s).trans hs), bad_kind hs⟩
  · exact .inl rfl
  · exact .inl rfl
  · exact .inl rfl
  · rcases res_last b ((fC 32).read b (fB.read b (fN.read b (fS.read b s)))) with h | ⟨h1, h2⟩
    · exact .inl h
    · exact .inr ⟨bad_e h1, bad_code h2⟩
  · rcases t_last b ((fI 31).read b (fB.read b s)) with h | ⟨h1, h2⟩
    · exact .inl h
    · refine .inr ⟨bad_e h1, ?_⟩
      rcases h2 with h2 | h2
      · exact bad_e h2
      · exact bad_text h2
  · rcases t_last b ((fI 16).read b (fB.read b (fJ.read b s))) with h | ⟨h1, h2⟩
    · exact .inl h
    · refine .inr ⟨bad_e h1, ?_⟩
      rcases h2 with h2 | h2
      · exact bad_e h2
      · exact bad_text h2
  · exact .inl rfl
  · exact .inl rfl
  · rcases p_last b (fB.read b (fJ.read b (fN.read b (fS.read b s)))) with h | ⟨h1, h2⟩
    · exact .inl h
    · refine .inr ⟨bad_e h1, ?_⟩
      rcases h2 with h2 | h2
      · exact bad_e h2
      · exact bad_prog h2
  · exact .inl rfl
  · exact .inl rfl
  · exact .inl rfl
  · exact .inl rfl
  · exact .inl rfl
  · exact .inl rfl
  · exact .inl rfl
  · omega

theorem rdecode_eq (b : ByteArray) : rdecode b = decode b := by
  unfold rdecode decode
  by_cases hbig : 2048 < b.size
  · rw [if_pos hbig, if_pos hbig]
  · rw [if_neg hbig, if_neg hbig]
    simp only
    have hk := (kind_inv b).2
    obtain ⟨n, hn⟩ := Int.eq_ofNat_of_zero_le hk.1
    have h := reads_same b n (by omega) (readKind b) hn
    have h1 : readFs b (fieldsOf n) (readKind b) = readAll b := by
      unfold readAll
      rw [hn]
      rfl
    have h2 : (rword (n : Int)).foldl (fun s c => rread b c s) (readKind b) = rreadAll b := by
      unfold rreadAll
      rw [hn]
    rw [h1, h2] at h
    rcases h with h | ⟨ha, hb⟩
    · rw [h]
    · unfold Bad at ha hb
      rw [if_pos ha, if_pos hb]
end Go.Proofs.YtpnfdmglhonkmaaGreat
