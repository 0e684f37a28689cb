/- What is read of bytes is a message whose numbers fit; the reader stands within the bytes. -/
import Derived.Test.YtpnfdmglhonkmaaEncode
set_option maxRecDepth 100000
namespace Go.Proofs.Ytpnfdmglhonkmaa
open Go.RowKit

def ReadInv (b : ByteArray) (s : Mg × Nat × Int) : Prop := s.1.Fit ∧ s.2.1 ≤ b.size

theorem none_fit {k : Int} (h : 0 ≤ k ∧ k ≤ 1099511627776) : (Mg.none k).Fit := by
  refine ⟨?_, ?_, ?_, ?_, ?_, ?_, ?_, ?_, ?_, ?_, ?_⟩ <;> first | exact (by decide) | (show _ ∧ _; simp only [Mg.none]; omega) | (show (0 : Nat) < _; decide)

theorem setInt_fit {m : Mg} (h : m.Fit) {x : Int} (hx : 0 ≤ x ∧ x ≤ 1099511627776) (k : Nat) : (m.setInt x k).Fit := by
  unfold Mg.setInt
  split
  all_goals
    constructor
    all_goals first | exact h.kind | exact h.sess | exact h.num | exact h.job | exact h.badge | exact h.idx | exact h.cnt | exact h.code | exact h.bits | exact h.text | exact h.prog | (show _ ∧ _; simp only; omega)

theorem setStr_fit {m : Mg} (h : m.Fit) {x : ByteArray} (hx : x.size < 1073741824) (k : Nat) : (m.setStr x k).Fit := by
  unfold Mg.setStr
  split
  · exact ⟨h.kind, h.sess, h.num, h.job, h.badge, h.idx, h.cnt, h.code, h.bits, hx, h.prog⟩
  · exact ⟨h.kind, h.sess, h.num, h.job, h.badge, h.idx, h.cnt, h.code, h.bits, h.text, hx⟩

theorem bits_bd {l : List UInt8} {p : Nat} {e : Int} : 0 ≤ (rdrStep (0 : Int) (bitsR l) p e).1 ∧ (rdrStep (0 : Int) (bitsR l) p e).1 ≤ 18446744073709551615 := by
  unfold rdrStep
  split
  · exact ⟨Int.le_refl _, (by decide : (0 : Int) ≤ 18446744073709551615)⟩
  · unfold bitsR
    split
    · rename_i h1 h2 v k h3
      split at h3
      · injection h3 with h3
        injection h3 with h3 _
        have := bitsOf_lt 8 l
        rw [show (256 : Nat) ^ 8 = 18446744073709551616 from by decide] at this
        omega
      · cases h3
    · exact ⟨Int.le_refl _, (by decide : (0 : Int) ≤ 18446744073709551615)⟩

theorem text_bd {b : ByteArray} {p most : Nat} {e : Int} : (rdrStep (⟨#[]⟩ : ByteArray) (textR (b.data.toList.drop p) most) p e).1.size ≤ b.size := by
  unfold rdrStep
  split
  · exact Nat.zero_le _
  · unfold textR
    cases hr : numR (b.data.toList.drop p) most 23 with
    | error c => exact Nat.zero_le _
    | ok nk =>
      obtain ⟨n, j⟩ := nk
      simp only
      split
      · rename_i v k h3
        split at h3
        · injection h3 with h3
          injection h3 with h3 _
          rw [← h3, str_size]
          simp only [List.length_take, List.length_drop, Array.length_toList]
          have : b.data.size = b.size := rfl
          omega
        · cases h3
      · exact Nat.zero_le _

theorem read_inv {b : ByteArray} {f : Fd} {s : Mg × Nat × Int} (hb : b.size < 1073741824) (h : ReadInv b s) : ReadInv b (f.read b s) := by
  obtain ⟨m, p, e⟩ := s
  obtain ⟨hf, hp⟩ := h
  cases f with
  | whole k l h =>
    exact ⟨setInt_fit hf num_bd k, rdrStep_le hp (fun v k h => num_le hp h)⟩
  | text k l h =>
    exact ⟨setStr_fit hf (Nat.lt_of_le_of_lt text_bd hb) k, rdrStep_le hp (fun v k h => text_le hp h)⟩
  | result =>
    have hp1 := rdrStep_le (zero := (0 : Int)) (e := e) hp (fun v k h => num_le (most := 7) (over := 21) hp h)
    have hc := num_bd (l := b.data.toList.drop p) (most := 7) (p := p) (e := e) (over := 21)
    refine ⟨⟨hf.kind, hf.sess, hf.num, hf.job, hf.badge, hf.idx, hf.cnt, ?_, bits_bd, hf.text, hf.prog⟩, rdrStep_le hp1 (fun v k h => bits_le hp1 h)⟩
    have h1 := hc.1
    have h2 := hc.2
    exact ⟨Int.le_trans (by decide) h1, Int.le_trans h2 (by decide)⟩

theorem kind_inv (b : ByteArray) : ReadInv b (readKind b) ∧ 0 ≤ (readKind b).1.kind ∧ (readKind b).1.kind ≤ 16 := by
  have hc := num_bd (l := b.data.toList.drop 0) (most := 16) (p := 0) (e := 0) (over := 21)
  refine ⟨⟨none_fit ?_, rdrStep_le (Nat.zero_le _) (fun v k h => num_le (Nat.zero_le _) h)⟩, hc.1, hc.2⟩
  have h1 := hc.1
  have h2 := hc.2
  constructor
  · exact h1
  · exact Int.le_trans h2 (by decide)

theorem fold_inv {b : ByteArray} (hb : b.size < 1073741824) : ∀ (L : List Fd) (s : Mg × Nat × Int), ReadInv b s → ReadInv b (L.foldl (fun s f => f.read b s) s)
  | [], _, h => h
  | f :: L, s, h => fold_inv hb L (f.read b s) (read_inv hb h)
end Go.Proofs.Ytpnfdmglhonkmaa
