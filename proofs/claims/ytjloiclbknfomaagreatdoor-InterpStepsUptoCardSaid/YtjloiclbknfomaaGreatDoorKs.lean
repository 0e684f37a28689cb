/- (*interp.Machine).do and jump, whatever the instruction. -/
import Derived.Test.YtjloiclbknfomaaGreatDoorKj
import Derived.Test.YtjloiclbknfomaaGreatDoorKc
set_option maxRecDepth 100000
namespace Go.Proofs.YtjloiclbknfomaaGreatDoor
open Go.RowKit Ieee

def bstr (l : List UInt8) : Value := .string ⟨l.toArray⟩
def doSays (m : Mach) (x : Ins) : Ending := if (doM m x).2.2 = 0 then .returned (.agg #[.int .i64 (doM m x).2.1, bstr (toldM m x (doM m x).2.1)]) else .panicked (trapped (doM m x).2.2)
def jumpSays (m : Mach) (x : Ins) : Ending := if (jumpM m x).2.2 = 0 then .returned (.int .i64 ((jumpM m x).2.1 : Nat)) else .panicked (trapped (jumpM m x).2.2)
def xval (x : Ins) : Value := .agg #[.int .i64 x.op, .int .i64 x.a, .int .i64 x.b, .int .i64 x.c, .int .i64 x.n, .int .u64 (x.k : Nat)]

theorem do_any {w : World} {g : Nat} {cs nv pv : Value} {m : Mach} (hM : Mw w g cs nv pv m) (hF : m.Fit) {x : Ins} {many : Nat} (hx : x.Ok many) (hT : ∀ wz, Turns (mOwn g nv pv) w wz → TabsAt wz) :
    Calls Tryz.prog 36 #[.pointer (some ⟨g, 0, none⟩), xval x] w fun e w' => e = doSays m x ∧ ∃ nv', Anew w nv nv' ∧ Mw w' g cs nv' pv (doM m x).1 ∧ Turns (mOwn g nv pv) w w' := by
  obtain ⟨op, a, b, c, n, k⟩ := x
  obtain ⟨⟨o1, o2⟩, ⟨a1, a2⟩, ⟨b1, b2⟩, ⟨c1, c2⟩, _, _⟩ := hx
  simp only at o1 o2 a1 a2 b1 b2 c1 c2
  obtain ⟨a, rfl⟩ := Int.eq_ofNat_of_zero_le a1
  obtain ⟨b, rfl⟩ := Int.eq_ofNat_of_zero_le b1
  obtain ⟨c, rfl⟩ := Int.eq_ofNat_of_zero_le c1
  have ha : a < 8 := by omega
  have hb : b < 8 := by omega
  have hc : c < 8 := by omega
  unfold doSays xval
  by_cases h1 : op = 1
  · subst h1
    have e : doM m ⟨1, a, b, c, n, k⟩ = ({ m with regs := m.regs.set a k }, 0, 0) := by simp [doM]
    rw [e]
    exact (do_set hM hF a b c ha hb hc n k).mono fun e w' ⟨h1, h2, h3⟩ => ⟨h1, nv, Anew.refl _ _, h2, h3⟩
  by_cases h2 : op ≤ 13
  · have e : doM m ⟨op, a, b, c, n, k⟩ = ({ m with regs := m.regs.set a (reckonM op (m.regs.getD b 0) (m.regs.getD c 0)) }, 0, 0) := by simp [doM, h1, h2, Mach.reg]
    rw [e]
    exact (do_two hM hF a b c ha hb hc n k (by omega) h2).mono fun e w' ⟨h1, h2, h3⟩ => ⟨h1, nv, Anew.refl _ _, h2, h3⟩
  by_cases h19 : op = 19
  · subst h19
    by_cases hf : m.nums.length < 8
    · have e : doM m ⟨19, a, b, c, n, k⟩ = ({ m with nums := m.nums ++ [m.regs.getD a 0] }, 0, 0) := by simp [doM, hf, Mach.reg]
      rw [e]
      exact (do_push hM hF a b c ha hb hc n k hf).mono fun e w' ⟨h1, nv', h2, h3, h4⟩ => ⟨h1, nv', h2, h3, h4⟩
    · have e : doM m ⟨19, a, b, c, n, k⟩ = (m, 0, 2) := by simp [doM, hf]
      rw [e]
      exact (do_push_no hM hF a b c ha hb hc n k hf).mono fun e w' ⟨h1, h2, h3⟩ => ⟨h1, nv, Anew.refl _ _, h2, h3⟩
  by_cases h20 : op = 20
  · subst h20
    by_cases hf : 0 < m.nums.length
    · have e : doM m ⟨20, a, b, c, n, k⟩ = ({ m with regs := m.regs.set a (m.nums.getLastD 0), nums := m.nums.dropLast }, 0, 0) := by simp [doM, hf]
      rw [e]
      exact (do_pop hM hF a b c ha hb hc n k (n0 := m.nums.length - 1) (by omega)).mono fun e w' ⟨h1, nv', h2, h3, h4⟩ => ⟨h1, nv', h2, h3, h4⟩
    · have e : doM m ⟨20, a, b, c, n, k⟩ = (m, 0, 3) := by simp [doM, hf]
      rw [e]
      exact (do_pop_no hM hF a b c ha hb hc n k hf).mono fun e w' ⟨h1, h2, h3⟩ => ⟨h1, nv, Anew.refl _ _, h2, h3⟩
  by_cases h21 : op = 21
  · subst h21
    by_cases hf : m.chunks < 32
    · have e : doM m ⟨21, a, b, c, n, k⟩ = ({ m with chunks := m.chunks + 1 }, 1, 0) := by simp [doM, hf]
      rw [e]
      exact (do_emit hM hF a b c ha hb hc n k hf hT).mono fun e w' ⟨h1, h2, h3⟩ => ⟨h1, nv, Anew.refl _ _, h2, h3⟩
    · have e : doM m ⟨21, a, b, c, n, k⟩ = (m, 0, 5) := by simp [doM, hf]
      rw [e]
      exact (do_emit_no hM hF a b c ha hb hc n k hf).mono fun e w' ⟨h1, h2, h3⟩ => ⟨h1, nv, Anew.refl _ _, h2, h3⟩
  by_cases h22 : op = 22
  · subst h22
    by_cases hf : m.pieces < 16
    · have e : doM m ⟨22, a, b, c, n, k⟩ = ({ m with pieces := m.pieces + 1 }, 2, 0) := by simp [doM, hf]
      rw [e]
      exact (do_write hM hF a b c ha hb hc n k hf hT).mono fun e w' ⟨h1, h2, h3⟩ => ⟨h1, nv, Anew.refl _ _, h2, h3⟩
    · have e : doM m ⟨22, a, b, c, n, k⟩ = (m, 0, 6) := by simp [doM, hf]
      rw [e]
      exact (do_write_no hM hF a b c ha hb hc n k hf).mono fun e w' ⟨h1, h2, h3⟩ => ⟨h1, nv, Anew.refl _ _, h2, h3⟩
  by_cases h23 : op = 23
  · subst h23
    have e : doM m ⟨23, a, b, c, n, k⟩ = (m, 0, 7) := by simp [doM]
    rw [e]
    exact (do_fail hM hF a b c ha hb hc n k).mono fun e w' ⟨h1, h2, h3⟩ => ⟨h1, nv, Anew.refl _ _, h2, h3⟩
  · have e : doM m ⟨op, a, b, c, n, k⟩ = (m, 0, 0) := by simp [doM, h1, h2, h19, h20, h21, h22, h23]
    rw [e]
    have hop : op = 14 ∨ op = 15 ∨ op = 16 ∨ op = 17 ∨ op = 18 ∨ op = 24 := by omega
    exact (do_none hM hF a b c ha hb hc n k hop).mono fun e w' ⟨h1, h2, h3⟩ => ⟨h1, nv, Anew.refl _ _, h2, h3⟩

theorem jump_any {w : World} {g : Nat} {cs nv pv : Value} {m : Mach} (hM : Mw w g cs nv pv m) (hF : m.Fit) (hgo : m.at_ < m.code.length) {x : Ins} {many : Nat} (hx : x.Ok many) :
    Calls Tryz.prog 37 #[.pointer (some ⟨g, 0, none⟩), xval x] w fun e w' => e = jumpSays m x ∧ ∃ pv', Anew w pv pv' ∧ Mw w' g cs nv pv' (jumpM m x).1 ∧ Turns (mOwn g nv pv) w w' := by
  obtain ⟨op, a, b, c, n, k⟩ := x
  obtain ⟨⟨o1, o2⟩, ⟨a1, a2⟩, ⟨b1, b2⟩, ⟨c1, c2⟩, ⟨n1, n2⟩, _⟩ := hx
  simp only at o1 o2 a1 a2 b1 b2 c1 c2 n1 n2
  obtain ⟨a, rfl⟩ := Int.eq_ofNat_of_zero_le a1
  obtain ⟨b, rfl⟩ := Int.eq_ofNat_of_zero_le b1
  obtain ⟨c, rfl⟩ := Int.eq_ofNat_of_zero_le c1
  have ha : a < 8 := by omega
  have hn : ((n.toNat : Nat) : Int) = n := by omega
  unfold jumpSays xval
  by_cases h14 : op = 14
  · subst h14
    have e : jumpM m ⟨14, a, b, c, n, k⟩ = (m, n.toNat, 0) := by simp [jumpM]
    rw [e]
    exact (jump_jump hM hF hgo a b c ha n k).mono fun e w' ⟨h1, h2, h3⟩ => ⟨by simp only [if_pos, hn]; exact h1, pv, Anew.refl _ _, h2, h3⟩
  by_cases h15 : op = 15
  · subst h15
    have e : jumpM m ⟨15, a, b, c, n, k⟩ = (m, if fclass (m.regs.getD a 0) ≠ 2 then n.toNat else m.at_ + 1, 0) := by simp [jumpM, Mach.reg]
    rw [e]
    refine (jump_if hM hF hgo a b c ha n k).mono fun e w' ⟨h1, h2, h3⟩ => ⟨?_, pv, Anew.refl _ _, h2, h3⟩
    rw [h1, if_pos rfl]
    congr 2
    by_cases hq : fclass (m.regs.getD a 0) ≠ 2
    · rw [if_pos hq, if_pos hq, hn]
    · rw [if_neg hq, if_neg hq]
  by_cases h16 : op = 16
  · subst h16
    by_cases hok : (fintR (m.regs.getD a 0)).2 = 0 ∧ 0 ≤ (fintR (m.regs.getD a 0)).1 ∧ (fintR (m.regs.getD a 0)).1 ≤ (m.code.length : Int)
    · have e : jumpM m ⟨16, a, b, c, n, k⟩ = (m, (fintR (m.regs.getD a 0)).1.toNat, 0) := by
        unfold jumpM Mach.reg
        rw [if_neg (show ¬ (16 : Int) = 14 by decide), if_neg (show ¬ (16 : Int) = 15 by decide), if_pos rfl]
        exact if_pos hok
      rw [e]
      refine (jump_goto hM hF hgo a b c ha n k hok).mono fun e w' ⟨h1, h2, h3⟩ => ⟨?_, pv, Anew.refl _ _, h2, h3⟩
      rw [h1, if_pos rfl]
      congr 2
      have := hok.2.1
      simp only
      omega
    · have e : jumpM m ⟨16, a, b, c, n, k⟩ = (m, 0, 4) := by
        unfold jumpM Mach.reg
        rw [if_neg (show ¬ (16 : Int) = 14 by decide), if_neg (show ¬ (16 : Int) = 15 by decide), if_pos rfl]
        exact if_neg hok
      rw [e]
      exact (jump_goto_no hM hF hgo a b c ha n k hok).mono fun e w' ⟨h1, h2, h3⟩ => ⟨h1, pv, Anew.refl _ _, h2, h3⟩
  by_cases h17 : op = 17
  · subst h17
    by_cases hf : m.places.length < 8
    · have e : jumpM m ⟨17, a, b, c, n, k⟩ = ({ m with places := m.places ++ [m.at_ + 1] }, n.toNat, 0) := by simp [jumpM, hf]
      rw [e]
      exact (jump_call hM hF hgo a b c ha n k hf).mono fun e w' ⟨h1, pv', h2, h3, h4⟩ => ⟨by simp only [if_pos, hn]; exact h1, pv', h2, h3, h4⟩
    · have e : jumpM m ⟨17, a, b, c, n, k⟩ = (m, 0, 2) := by simp [jumpM, hf]
      rw [e]
      exact (jump_call_no hM hF hgo a b c ha n k hf).mono fun e w' ⟨h1, h2, h3⟩ => ⟨h1, pv, Anew.refl _ _, h2, h3⟩
  by_cases h18 : op = 18
  · subst h18
    by_cases hf : 0 < m.places.length
    · have e : jumpM m ⟨18, a, b, c, n, k⟩ = ({ m with places := m.places.dropLast }, m.places.getLastD 0, 0) := by simp [jumpM, hf]
      rw [e]
      exact (jump_ret hM hF hgo a b c ha n k (n0 := m.places.length - 1) (by omega)).mono fun e w' ⟨h1, pv', h2, h3, h4⟩ => ⟨h1, pv', h2, h3, h4⟩
    · have e : jumpM m ⟨18, a, b, c, n, k⟩ = (m, 0, 3) := by simp [jumpM, hf]
      rw [e]
      exact (jump_ret_no hM hF hgo a b c ha n k hf).mono fun e w' ⟨h1, h2, h3⟩ => ⟨h1, pv, Anew.refl _ _, h2, h3⟩
  · have e : jumpM m ⟨op, a, b, c, n, k⟩ = (m, m.at_ + 1, 0) := by simp [jumpM, h14, h15, h16, h17, h18]
    rw [e]
    exact (jump_next hM hF hgo a b c ha n k ⟨h14, h15, h16, h17, h18⟩).mono fun e w' ⟨h1, h2, h3⟩ => ⟨h1, pv, Anew.refl _ _, h2, h3⟩
end Go.Proofs.YtjloiclbknfomaaGreatDoor
