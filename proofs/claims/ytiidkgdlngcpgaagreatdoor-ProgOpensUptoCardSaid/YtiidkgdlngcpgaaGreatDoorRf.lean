/- gafferref02.Reader: the reference's reader, an element of a slice of the call's own. gafferref02.form: what number stands at a place. (*gafferref02.Reader).number, and the calls that read a number. What the reference's reader's calls answer: just what package pack's answer. The reference's reader: Bits, End. -/
import Derived.Test.YtiidkgdlngcpgaaGreatDoorPk
import Derived.Test.YtiidkgdlngcpgaaGreatDoorPl
set_option maxRecDepth 100000
namespace Go.Proofs.YtiidkgdlngcpgaaGreatDoor
open Go.RowKit

/-- the reference's reader in memory, at place off of block g -/
def Ref (w : World) (g off : Nat) (b : ByteArray) (p : Nat) (e a : Int) : Prop :=
  ∃ cur E, w.heap[g]? = some (.cells cur E (0, 0)) ∧ cur[off]? = some (.string b) ∧ cur[off + 1]? = some (.int .i64 (p : Int)) ∧ cur[off + 2]? = some (.int .i64 e) ∧ cur[off + 3]? = some (.int .i64 a)

/-- of block g only the four cells from off on have turned, of the rest nothing -/
def Only4 (w w' : World) (g off : Nat) : Prop :=
  w.grownBy w' (some g) ∧ ∀ cur E, w.heap[g]? = some (.cells cur E (0, 0)) → ∃ cur', w'.heap[g]? = some (.cells cur' E (0, 0)) ∧ cur'.size = cur.size ∧ ∀ j : Nat, j < off ∨ off + 4 ≤ j → cur'[j]? = cur[j]?

section
variable {w w' w'' : World} {g off : Nat} {b : ByteArray} {p : Nat} {e a : Int}
theorem Ref.c0 (h : Ref w g off b p e a) : w.cell? ⟨g, off, none⟩ = some (.string b) := by obtain ⟨cur, E, hh, h0, _⟩ := h; simp [World.cell?, hh, h0]
theorem Ref.c1 (h : Ref w g off b p e a) : w.cell? ⟨g, off + 1, none⟩ = some (.int .i64 (p : Int)) := by obtain ⟨cur, E, hh, _, h1, _⟩ := h; simp [World.cell?, hh, h1]
theorem Ref.c2 (h : Ref w g off b p e a) : w.cell? ⟨g, off + 2, none⟩ = some (.int .i64 e) := by obtain ⟨cur, E, hh, _, _, h2, _⟩ := h; simp [World.cell?, hh, h2]
theorem Ref.c3 (h : Ref w g off b p e a) : w.cell? ⟨g, off + 3, none⟩ = some (.int .i64 a) := by obtain ⟨cur, E, hh, _, _, _, h3⟩ := h; simp [World.cell?, hh, h3]
theorem Ref.fz (h : Ref w g off b p e a) (i : Nat) : w.frozen? ⟨g, i, none⟩ = false := by obtain ⟨cur, E, hh, _⟩ := h; simp [World.frozen?, hh]
theorem Ref.lt (h : Ref w g off b p e a) : g < w.heap.size := by obtain ⟨cur, E, hh, _⟩ := h; exact lt_of_block hh
theorem Ref.drewN (h : Ref w g off b p e a) (n : Nat) : Ref (w.drewN n) g off b p e a := h
theorem Ref.drew (h : Ref w g off b p e a) : Ref w.drew g off b p e a := h
theorem Ref.set1 (h : Ref w g off b p e a) (q : Nat) : Ref (w.setCell ⟨g, off + 1, none⟩ (.int .i64 (q : Int))) g off b q e a := by
  obtain ⟨cur, E, hh, h0, h1, h2, h3⟩ := h
  have hs := (Array.getElem?_eq_some_iff.1 h3).1
  exact ⟨cur.setIfInBounds (off + 1) (.int .i64 (q : Int)), E, by simp [World.setCell, Array.getElem?_modify, hh], by rw [Array.getElem?_setIfInBounds_ne (by omega)]; exact h0, by rw [Array.getElem?_setIfInBounds_self_of_lt (by omega)], by rw [Array.getElem?_setIfInBounds_ne (by omega)]; exact h2, by rw [Array.getElem?_setIfInBounds_ne (by omega)]; exact h3⟩
theorem Ref.set2 (h : Ref w g off b p e a) (f : Int) : Ref (w.setCell ⟨g, off + 2, none⟩ (.int .i64 f)) g off b p f a := by
  obtain ⟨cur, E, hh, h0, h1, h2, h3⟩ := h
  have hs := (Array.getElem?_eq_some_iff.1 h3).1
  exact ⟨cur.setIfInBounds (off + 2) (.int .i64 f), E, by simp [World.setCell, Array.getElem?_modify, hh], by rw [Array.getElem?_setIfInBounds_ne (by omega)]; exact h0, by rw [Array.getElem?_setIfInBounds_ne (by omega)]; exact h1, by rw [Array.getElem?_setIfInBounds_self_of_lt (by omega)], by rw [Array.getElem?_setIfInBounds_ne (by omega)]; exact h3⟩
theorem Ref.set3 (h : Ref w g off b p e a) (f : Int) : Ref (w.setCell ⟨g, off + 3, none⟩ (.int .i64 f)) g off b p e f := by
  obtain ⟨cur, E, hh, h0, h1, h2, h3⟩ := h
  have hs := (Array.getElem?_eq_some_iff.1 h3).1
  exact ⟨cur.setIfInBounds (off + 3) (.int .i64 f), E, by simp [World.setCell, Array.getElem?_modify, hh], by rw [Array.getElem?_setIfInBounds_ne (by omega)]; exact h0, by rw [Array.getElem?_setIfInBounds_ne (by omega)]; exact h1, by rw [Array.getElem?_setIfInBounds_ne (by omega)]; exact h2, by rw [Array.getElem?_setIfInBounds_self_of_lt (by omega)]⟩

theorem only4_refl (w : World) (g off : Nat) : Only4 w w g off := ⟨only_refl _ _, fun cur _ h => ⟨cur, h, rfl, fun _ _ => rfl⟩⟩
theorem only4_drewN (h : Only4 w w' g off) (n : Nat) : Only4 w (w'.drewN n) g off := ⟨only_drewN h.1 n, h.2⟩
theorem only4_trans (h : Only4 w w' g off) (k : Only4 w' w'' g off) : Only4 w w'' g off :=
  ⟨only_trans h.1 k.1, fun cur E hh => by
    obtain ⟨c1, h1, s1, e1⟩ := h.2 cur E hh
    obtain ⟨c2, h2, s2, e2⟩ := k.2 c1 E h1
    exact ⟨c2, h2, s2.trans s1, fun j hj => (e2 j hj).trans (e1 j hj)⟩⟩
theorem only4_set (h : Only4 w w' g off) {i : Nat} (hi : off ≤ i ∧ i < off + 4) (u : Value) : Only4 w (w'.setCell ⟨g, i, none⟩ u) g off :=
  ⟨only_set h.1 (.inl rfl) u, fun cur E hh => by
    obtain ⟨c1, h1, s1, e1⟩ := h.2 cur E hh
    exact ⟨c1.setIfInBounds i u, by simp [World.setCell, Array.getElem?_modify, h1], by simp [s1], fun j hj => by rw [Array.getElem?_setIfInBounds_ne (by omega)]; exact e1 j hj⟩⟩
end

/-- where a fault stands -/
def fa (f : Int) (q : Nat) : Int := if f = 0 then 0 else (q : Int)

def RefPost {V : Type} (mk : V → Value) (g off : Nat) (b : ByteArray) (r : V × Nat × Int) (w : World) (x : Ending) (w' : World) : Prop :=
  x = .returned (mk r.1) ∧ Ref w' g off b r.2.1 r.2.2 (fa r.2.2 r.2.1) ∧ Only4 w w' g off

set_option maxHeartbeats 1000000 in
theorem fwrong_any (g off : Nat) (b : ByteArray) (p : Nat) (c : Int) (w : World) (hR : Ref w g off b p 0 0) (hc : c ≠ 0) :
    Calls Tryz.prog 91 #[.pointer (some ⟨g, off, none⟩), .int .i64 c] w fun x w' => x = .returned (.tuple #[]) ∧ Ref w' g off b p c (fa c p) ∧ Only4 w w' g off := by
  have h1 := hR.c1
  have h2 := hR.c2
  have h3 := hR.c3
  have f2 := hR.fz (off + 2)
  have f3 := hR.fz (off + 3)
  go_enter Tryz.func91, Tryz.ntmps91
  go_wp2
  refine bodyPost_end (results_none rfl _ _ _) rfl ?_
  refine ⟨rfl, ?_, ?_⟩
  · have h := ((hR.set2 c).set3 (p : Int))
    rw [show fa c p = (p : Int) from if_neg hc]
    exact h
  · exact only4_set (only4_set (only4_refl _ _ _) ⟨by omega, by omega⟩ _) ⟨by omega, by omega⟩ _
end Go.Proofs.YtiidkgdlngcpgaaGreatDoor

namespace Go.Proofs.YtiidkgdlngcpgaaGreatDoor
open Go.RowKit

theorem run_index_byte {P : Program} {T : TypeId} (w : World) (hT : P.underlying T = some .string) (b : ByteArray) (j : Nat) (hj : j < b.size) :
    (Instr.index T (.string b) (.int .i64 (j : Int))).run P w = .ok (.int .u8 ((b[j]'hj).toNat : Int)) w := by
  go_simp

theorem byte_at {b : ByteArray} {p k : Nat} {L : List UInt8} (hL : L = b.data.toList.drop p) (hk : k < L.length) : ∃ h : p + k < b.size, b[p + k]'h = L[k] := by
  subst hL
  have h : p + k < b.size := by
    rw [List.length_drop, Array.length_toList] at hk
    have : b.size = b.data.size := rfl
    omega
  refine ⟨h, ?_⟩
  rw [List.getElem_drop]
  rfl

theorem num_value2 (k acc c : Nat) (hk : k < 10) (ha : acc < 128 ^ k) (hc : c < 256) (h9 : k < 9 ∨ c ≤ 1) :
    bits .or .u64 (acc : Int) (IntKind.u64.wrap ((c : Int) % 128 * 2 ^ (7 * k))) = ((acc + c % 128 * 128 ^ k : Nat) : Int) := by
  have h := num_value k acc c hk ha hc h9
  have e1 : bits .and .u8 (c : Int) 127 = ((c % 128 : Nat) : Int) := by
    have h := u8_and_nat c 127 hc (by omega)
    rw [show c &&& 127 = c % 128 from Nat.and_two_pow_sub_one_eq_mod c 7] at h
    exact h
  rw [e1, IntWalk.u64_in ((c % 128 : Nat) : Int) (by omega)] at h
  exact h

def formVal (p : Nat) (r : Except Int (Nat × Nat)) : Value :=
  match r with
  | .ok (n, k) => .tuple #[.int .u64 (n : Int), .int .i64 ((p + k : Nat) : Int), .int .i64 0]
  | .error c => .tuple #[.int .u64 0, .int .i64 0, .int .i64 c]

set_option maxHeartbeats 2000000 in
theorem form_any (b : ByteArray) (p : Nat) (w : World) (hp : p ≤ b.size) (hb : b.size < 4294967296) :
    Calls Tryz.prog 118 #[.string b, .int .i64 (p : Int)] w fun x w' => x = .returned (formVal p (rdv 0 0 (b.data.toList.drop p))) ∧ ∃ n, w' = w.drewN n := by
  obtain ⟨L, hL⟩ : ∃ L, L = b.data.toList.drop p := ⟨_, rfl⟩
  have hLs : L.length = b.size - p := by rw [hL, List.length_drop]; rfl
  have HL := Lib.hid hL
  have HS := Lib.hid hLs
  rw [← hL]
  clear hL hLs
  go_enter Tryz.func118, Tryz.ntmps118
  go_wp2
  go_loopw [7, 8] (fun n i wr => ∃ (k acc : Nat) (x : Int), k ≤ 10 ∧ i = .int .i64 (k : Int) ∧ n = .int .u64 x ∧ Hid (k < 10 → x = acc ∧ acc < 128 ^ k) ∧ k ≤ L.length ∧ Hid (rdv 0 0 L = rdv k acc (L.drop k)) ∧ ∃ nd, wr = w.drewN nd)
    (fun _ i _ => 10 - (intOf i).toNat)
  case atStart => exact ⟨0, 0, 0, by omega, rfl, rfl, fun _ => ⟨rfl, by decide⟩, by omega, rfl, 0, rfl⟩
  case round =>
    obtain ⟨k, acc, x, hk, rfl, rfl, hacc, hkl, hrd, nd, rfl⟩ := hrel
    by_cases h10 : k < 10
    · obtain ⟨rfl, ha⟩ := hacc.out h10
      by_cases hlen : k < L.length
      · have hsz : ¬ (b.size : Int) ≤ p + k := by have := HS.out; omega
        obtain ⟨c, hc⟩ : ∃ c, c = L[k] := ⟨_, rfl⟩
        have hc6 : c.toNat < 256 := c.toNat_lt
        have HC := Lib.hid hc
        have hix : ∀ wx : World, (Instr.index 9 (.string b) (.int .i64 ((p : Int) + (k : Int)))).run Tryz.prog wx = .ok (.int .u8 (c.toNat : Int)) wx := fun wx => by
          obtain ⟨hj, hb⟩ := byte_at HL.out hlen
          have h := run_index_byte (P := Tryz.prog) wx Tryz.underlying9 b (p + k) hj
          rw [hb, ← hc] at h
          exact h
        clear hc
        have HV : Hid (k < 9 ∨ c.toNat ≤ 1 → _) := num_value2 k acc c.toNat h10 ha hc6
        by_cases hbig : (128 : Int) ≤ c.toNat
        · go_wp2
          refine ⟨⟨k + 1, acc + c.toNat % 128 * 128 ^ k, _, by omega, by go_num, rfl, fun h => ⟨HV.out (.inl (by omega)), acc_lt ha⟩, by omega, ?_, nd, rfl⟩, by simp [intOf]; omega⟩
          have hc := HC.out
          subst hc
          exact hrd.out.trans (rdv_more h10 hlen (by omega))
        · by_cases hbad : (0 < k ∧ c.toNat = 0) ∨ (k = 9 ∧ 1 < c.toNat)
          · have hr : Hid (rdv 0 0 L = .error 22) := hrd.out.trans (rdv_form h10 hlen (by have := HC.out; subst this; omega) (by have := HC.out; subst this; exact hbad))
            rcases hbad with ⟨h1, h2⟩ | ⟨h9, h2⟩
            · have t1 : (0 : Int) < k := by omega
              have t2 : ((c.toNat : Int) == 0) = true := by simp [h2]
              clear h2
              go_wp2
              go_ret3
              rw [hr.out]
              exact ⟨rfl, _, rfl⟩
            · have t2 : ((c.toNat : Int) == 0) = false := by rw [beq_eq_false_iff_ne]; omega
              have t3 : (1 : Int) < c.toNat := by omega
              have t4 : ((k : Int) == 9) = true := by simp [h9]
              clear h9
              go_wp2
              go_ret3
              rw [hr.out]
              exact ⟨rfl, _, rfl⟩
          · have hr : Hid (rdv 0 0 L = .ok (acc + c.toNat * 128 ^ k, k + 1)) := hrd.out.trans (by have := HC.out; subst this; exact rdv_ok h10 hlen (by omega) hbad)
            have h9 : k < 9 ∨ c.toNat ≤ 1 := by omega
            have hv := HV.out h9
            rw [show c.toNat % 128 = c.toNat from by omega] at hv
            obtain ⟨V, hV⟩ : ∃ V, V = acc + c.toNat * 128 ^ k := ⟨_, rfl⟩
            rw [← hV] at hv hr
            clear hV
            have fin : ∀ nn : Nat, Ending.returned (Value.tuple #[.int .u64 (V : Int), .int .i64 ((p : Int) + k + 1), .int .i64 0]) = .returned (formVal p (rdv 0 0 L)) ∧ ∃ n, w.drewN nn = w.drewN n := fun nn => by
              rw [hr.out]
              exact ⟨rfl, _, rfl⟩
            have HF := Lib.hid fin
            have HVV := Lib.hid hv
            clear fin hr hv
            rcases (show k < 1 ∨ (0 < k ∧ k < 9) ∨ 8 < k from by omega) with h1 | ⟨h1, h2⟩ | h1
            · have t1 : ¬ (0 : Int) < k := by omega
              have t3 : ((k : Int) == 9) = false := by rw [beq_eq_false_iff_ne]; omega
              have HV0 : Hid (bits .or .u64 (acc : Int) (IntKind.u64.wrap ((c.toNat : Int) % 128)) = V) := by
                obtain rfl : k = 0 := by omega
                exact Lib.hid (by simpa using HVV.out)
              have HF0 : Hid (∀ nn : Nat, Ending.returned (Value.tuple #[.int .u64 (V : Int), .int .i64 ((p : Int) + 1), .int .i64 0]) = .returned (formVal p (rdv 0 0 L)) ∧ ∃ n, w.drewN nn = w.drewN n) := by
                obtain rfl : k = 0 := by omega
                exact Lib.hid (by simpa using HF.out)
              by_cases h0 : c.toNat = 0
              · have t2 : ((c.toNat : Int) == 0) = true := by simp [h0]
                clear h0
                go_wp2
                all_goals (go_ret3; first | (rw [HVV.out]; exact HF.out _) | (rw [HV0.out]; exact HF0.out _) | (rw [HV0.out]; exact HF.out _))
              · have t2 : ((c.toNat : Int) == 0) = false := by rw [beq_eq_false_iff_ne]; omega
                go_wp2
                all_goals (go_ret3; first | (rw [HVV.out]; exact HF.out _) | (rw [HV0.out]; exact HF0.out _) | (rw [HV0.out]; exact HF.out _))
            · have t2 : ((c.toNat : Int) == 0) = false := by rw [beq_eq_false_iff_ne]; omega
              have t3 : ((k : Int) == 9) = false := by rw [beq_eq_false_iff_ne]; omega
              go_wp2
              all_goals (go_ret3; rw [HVV.out]; exact HF.out _)
            · have t2 : ((c.toNat : Int) == 0) = false := by rw [beq_eq_false_iff_ne]; omega
              have t3 : ((k : Int) == 9) = true := by rw [beq_iff_eq]; omega
              have t4 : ¬ (1 : Int) < c.toNat := by omega
              go_wp2
              all_goals (go_ret3; rw [HVV.out]; exact HF.out _)
      · have hsz : (b.size : Int) ≤ p + k := by have := HS.out; omega
        have hr : Hid (rdv 0 0 L = .error 20) := hrd.out.trans (rdv_short h10 (by omega))
        go_wp2
        go_ret3
        rw [hr.out]
        exact ⟨rfl, _, rfl⟩
    · obtain rfl : k = 10 := by omega
      have hr : Hid (rdv 0 0 L = .error 22) := hrd.out.trans (rdv_ten _ _)
      go_wp2
      go_ret3
      rw [hr.out]
      exact ⟨rfl, _, rfl⟩
end Go.Proofs.YtiidkgdlngcpgaaGreatDoor

namespace Go.Proofs.YtiidkgdlngcpgaaGreatDoor
open Go.RowKit

def NumRef (g off : Nat) (b : ByteArray) (p : Nat) (s : Nat × Nat × Int) (w : World) (x : Ending) (w' : World) : Prop :=
  x = .returned (.tuple #[.int .u64 (s.1 : Int), .int .i64 (s.2.1 : Int)]) ∧ Ref w' g off b p s.2.2 (fa s.2.2 p) ∧ Only4 w w' g off

theorem fa_zero (q : Nat) : fa 0 q = 0 := rfl

set_option maxHeartbeats 2000000 in
theorem number_ref (g off : Nat) (b : ByteArray) (p : Nat) (e : Int) (most : Nat) (over : Int) (w : World) (hR : Ref w g off b p e (fa e p)) (hp : p ≤ b.size) (hb : b.size < 4294967296) (_hm : most < 18446744073709551616) (ho : over ≠ 0) :
    Calls Tryz.prog 90 #[.pointer (some ⟨g, off, none⟩), .int .u64 (most : Int), .int .i64 over] w (NumRef g off b p (rdrStep 0 (numR (b.data.toList.drop p) most over) p e) w) := by
  have h0 := hR.c0
  have h1 := hR.c1
  have h2 := hR.c2
  by_cases he : e = 0
  · subst he
    rw [fa_zero] at hR
    have hcall := fun wx => form_any b p wx hp hb
    obtain ⟨L, hL⟩ : ∃ L, L = b.data.toList.drop p := ⟨_, rfl⟩
    rw [← hL] at hcall ⊢
    clear hL
    cases hr : rdv 0 0 L with
    | error c =>
      have hc := rdv_err L 0 0 c hr
      rw [hr] at hcall
      unfold formVal at hcall
      have hn : rdrStep 0 (numR L most over) p 0 = (0, p, c) := by rw [numR_bad hr]; rfl
      rw [hn]
      have hcb : (c == 0) = false := by rw [beq_eq_false_iff_ne]; exact hc
      have HCC := Lib.hid hcall
      clear hcall hn
      go_enter Tryz.func90, Tryz.ntmps90
      go_wp2
      go_quiet ((go_at_call 118; refine Calls.quiet_of (HCC.out _)))
      go_wp2_with fail
      refine (fwrong_any g off b p c _ (hR.drewN _) hc).mono ?_
      rintro x w1 ⟨rfl, hR1, ho1⟩
      have h3 := hR1.c1
      go_wp2
      go_quiet (fail)
      go_wp2
      go_ret2
      exact ⟨rfl, hR1, only4_drewN (only4_trans (only4_drewN (only4_refl _ _ _) _) ho1) _⟩
    | ok nk =>
      obtain ⟨n, k⟩ := nk
      rw [hr] at hcall
      unfold formVal at hcall
      have HCC := Lib.hid hcall
      clear hcall
      by_cases hmn : n ≤ most
      · have hn : rdrStep 0 (numR L most over) p 0 = (n, p + k, 0) := by rw [numR_ok hr hmn]; rfl
        rw [hn]
        have hm1 : ¬ (most : Int) < n := by omega
        clear hn hr
        go_enter Tryz.func90, Tryz.ntmps90
        go_wp2
        go_quiet ((go_at_call 118; refine Calls.quiet_of (HCC.out _)))
        go_wp2
        go_ret2
        exact ⟨rfl, hR.drewN _, only4_drewN (only4_refl _ _ _) _⟩
      · have hn : rdrStep 0 (numR L most over) p 0 = (0, p, over) := by rw [numR_over hr (by omega)]; rfl
        rw [hn]
        have hm1 : (most : Int) < n := by omega
        clear hn hr
        go_enter Tryz.func90, Tryz.ntmps90
        go_wp2
        go_quiet ((go_at_call 118; refine Calls.quiet_of (HCC.out _)))
        go_wp2_with fail
        refine (fwrong_any g off b p over _ (hR.drewN _) ho).mono ?_
        rintro x w1 ⟨rfl, hR1, ho1⟩
        have h3 := hR1.c1
        go_wp2
        go_quiet (fail)
        go_wp2
        go_ret2
        exact ⟨rfl, hR1, only4_drewN (only4_trans (only4_drewN (only4_refl _ _ _) _) ho1) _⟩
  · have hn : rdrStep 0 (numR (b.data.toList.drop p) most over) p e = (0, p, e) := if_pos he
    rw [hn]
    have hcb : (e == 0) = false := by rw [beq_eq_false_iff_ne]; exact he
    clear hn
    go_enter Tryz.func90, Tryz.ntmps90
    go_wp2
    go_quiet (fail)
    go_wp2
    go_ret2
    exact ⟨rfl, hR.drewN _, only4_drewN (only4_refl _ _ _) _⟩
end Go.Proofs.YtiidkgdlngcpgaaGreatDoor

namespace Go.Proofs.YtiidkgdlngcpgaaGreatDoor
open Go.RowKit

theorem ref_of {g off : Nat} {b : ByteArray} {p : Nat} {s : Nat × Nat × Int} {w : World} (hs : s.2.2 = 0 ∨ s.2.1 = p) (h : Ref w g off b p s.2.2 (fa s.2.2 p)) (k : Nat) (hk : k = s.2.1) : Ref (w.setCell ⟨g, off + 1, none⟩ (.int .i64 (k : Int))) g off b s.2.1 s.2.2 (fa s.2.2 s.2.1) := by
  subst hk
  have h2 := h.set1 s.2.1
  rcases hs with h0 | h0
  · rw [h0] at h2 ⊢
    exact h2
  · rw [h0] at h2 ⊢
    exact h2

theorem ref_place {α : Type} {z : α} {r : Except Int (α × Nat)} {p : Nat} {e : Int} : (rdrStep z r p e).2.2 = 0 ∨ (rdrStep z r p e).2.1 = p := by
  unfold rdrStep
  by_cases he : e = 0
  · rw [if_neg (by simp [he])]
    cases r with
    | error c => exact .inr rfl
    | ok v => exact .inl rfl
  · rw [if_pos he]
    exact .inr rfl

theorem step_up {r : Except Int (Nat × Nat)} {p : Nat} {e : Int} : rdrStep 0 (upR r) p e = (((rdrStep 0 r p e).1 : Int), (rdrStep 0 r p e).2) := by
  unfold rdrStep upR
  by_cases he : e = 0
  · subst he
    cases r with
    | error c => rfl
    | ok v => rfl
  · rw [if_pos he, if_pos he]
    rfl

set_option maxHeartbeats 1000000 in
theorem fNum (g off : Nat) (b : ByteArray) (p : Nat) (e : Int) (most : Nat) (w : World) (hR : Ref w g off b p e (fa e p)) (hp : p ≤ b.size) (hb : b.size < 4294967296) (hm : most < 18446744073709551616) :
    Calls Tryz.prog 54 #[.pointer (some ⟨g, off, none⟩), .int .u64 (most : Int)] w (RefPost (Value.int .u64) g off b (rdrStep 0 (upR (numR (b.data.toList.drop p) most 21)) p e) w) := by
  rw [step_up]
  have hcall := number_ref g off b p e most 21 w hR hp hb hm (by decide)
  have hs := ref_place (z := 0) (r := numR (b.data.toList.drop p) most 21) (p := p) (e := e)
  obtain ⟨s, hsd⟩ : ∃ s, s = rdrStep 0 (numR (b.data.toList.drop p) most 21) p e := ⟨_, rfl⟩
  rw [← hsd] at hcall hs ⊢
  clear hsd
  have HC := Lib.hid hcall
  clear hcall
  go_enter Tryz.func54, Tryz.ntmps54
  go_wp2_with fail
  refine HC.out.mono ?_
  rintro x w1 ⟨rfl, hR1, ho1⟩
  have h1 := hR1.c1
  have f1 := hR1.fz (off + 1)
  go_wp2
  go_ret
  exact ⟨rfl, ref_of hs hR1 _ rfl, only4_set ho1 ⟨by omega, by omega⟩ _⟩

set_option maxHeartbeats 1000000 in
theorem fList (g off : Nat) (b : ByteArray) (p : Nat) (e : Int) (most : Int) (w : World) (hR : Ref w g off b p e (fa e p)) (hp : p ≤ b.size) (hb : b.size < 4294967296) (hm : most ≤ 9223372036854775807) :
    Calls Tryz.prog 55 #[.pointer (some ⟨g, off, none⟩), .int .i64 most] w (RefPost (Value.int .i64) g off b (rdrStep 0 (upR (numR (b.data.toList.drop p) most.toNat 23)) p e) w) := by
  rw [step_up]
  have hcall := number_ref g off b p e most.toNat 23 w hR hp hb (by omega) (by decide)
  have hs := ref_place (z := 0) (r := numR (b.data.toList.drop p) most.toNat 23) (p := p) (e := e)
  have hv : (rdrStep 0 (numR (b.data.toList.drop p) most.toNat 23) p e).1 ≤ most.toNat := by
    unfold rdrStep
    by_cases he : e = 0
    · rw [if_neg (by simp [he])]
      cases hr : numR (b.data.toList.drop p) most.toNat 23 with
      | error c => exact Nat.zero_le _
      | ok v => exact numR_le hr
    · rw [if_pos he]
      exact Nat.zero_le _
  obtain ⟨s, hsd⟩ : ∃ s, s = rdrStep 0 (numR (b.data.toList.drop p) most.toNat 23) p e := ⟨_, rfl⟩
  rw [← hsd] at hcall hs hv ⊢
  clear hsd
  have HC := Lib.hid hcall
  clear hcall
  by_cases hneg : most < 0
  · have e0 : (most.toNat : Int) = 0 := by omega
    rw [e0] at HC
    go_enter Tryz.func55, Tryz.ntmps55
    go_wp2_with fail
    refine HC.out.mono ?_
    rintro x w1 ⟨rfl, hR1, ho1⟩
    have h1 := hR1.c1
    have f1 := hR1.fz (off + 1)
    have hv1 : (s.1 : Int) ≤ 9223372036854775807 := by omega
    go_wp2
    go_ret
    exact ⟨rfl, ref_of hs hR1 _ rfl, only4_set ho1 ⟨by omega, by omega⟩ _⟩
  · have e0 : (most.toNat : Int) = most := by omega
    rw [e0] at HC
    go_enter Tryz.func55, Tryz.ntmps55
    go_wp2_with fail
    refine HC.out.mono ?_
    rintro x w1 ⟨rfl, hR1, ho1⟩
    have h1 := hR1.c1
    have f1 := hR1.fz (off + 1)
    have hv1 : (s.1 : Int) ≤ 9223372036854775807 := by omega
    go_wp2
    go_ret
    exact ⟨rfl, ref_of hs hR1 _ rfl, only4_set ho1 ⟨by omega, by omega⟩ _⟩


end Go.Proofs.YtiidkgdlngcpgaaGreatDoor

namespace Go.Proofs.YtiidkgdlngcpgaaGreatDoor
open Go.RowKit

set_option maxHeartbeats 2000000 in
theorem fBits (g off : Nat) (b : ByteArray) (p : Nat) (e : Int) (w : World) (hR : Ref w g off b p e (fa e p)) (hp : p ≤ b.size) (hb : b.size < 4294967296) :
    Calls Tryz.prog 56 #[.pointer (some ⟨g, off, none⟩)] w (RefPost (Value.int .u64) g off b (rdrStep 0 (bitsR (b.data.toList.drop p)) p e) w) := by
  have h0 := hR.c0
  have h1 := hR.c1
  have h2 := hR.c2
  have f1 := hR.fz (off + 1)
  by_cases he : e = 0
  · subst he
    by_cases h8 : 8 ≤ (b.data.toList.drop p).length
    · have hn : rdrStep 0 (bitsR (b.data.toList.drop p)) p 0 = ((bitsOf ((b.data.toList.drop p).take 8) : Int), p + 8, 0) := by unfold bitsR; rw [if_pos h8]; rfl
      rw [hn]
      clear hn
      have hsz : p + 8 ≤ b.size := by
        rw [drop_len] at h8
        omega
      have hlt : ¬ (b.size : Int) - p < 8 := by omega
      obtain ⟨l, hl⟩ : ∃ l, l = (b.data.toList.drop p).take 8 := ⟨_, rfl⟩
      have hll : l.length = 8 := by rw [hl, List.length_take]; omega
      have hbyte : ∀ k (hk : k < l.length) (wx : World), (Instr.index 9 (.string b) (.int .i64 ((p : Int) + (k : Int)))).run Tryz.prog wx = .ok (.int .u8 ((l[k]).toNat : Int)) wx := fun k hk wx => by
        obtain ⟨hj, hb⟩ := byte_at (p := p) (b := b) rfl (show k < (b.data.toList.drop p).length by omega)
        have h := run_index_byte (P := Tryz.prog) wx Tryz.underlying9 b (p + k) hj
        rw [hb] at h
        have e1 : l[k] = (b.data.toList.drop p)[k]'(by omega) := by subst hl; exact List.getElem_take
        rw [e1]
        exact h
      rw [← hl]
      have HB := Lib.hid hbyte
      have HL := Lib.hid hll
      clear hl h8 hbyte hll
      go_enter Tryz.func56, Tryz.ntmps56
      go_wp2
      go_quiet (fail)
      go_wp2
      go_loopw [3, 4] (fun n i wr => ∃ k : Nat, k ≤ 8 ∧ i = .int .i64 (k : Int) ∧ n = .int .u64 (bitsOf (l.take k) : Int) ∧ ∃ nd, wr = w.drewN nd) (fun _ i _ => 8 - (intOf i).toNat)
      case atStart => exact ⟨0, by omega, rfl, by simp [bitsOf], _, rfl⟩
      case round =>
        obtain ⟨k, hk, rfl, rfl, nd, rfl⟩ := hrel
        by_cases hlt8 : k < 8
        · have hkl : k < l.length := by have := HL.out; omega
          have hix := HB.out k hkl
          have hv := Lib.hid (bits_step hkl hlt8)
          have hc6 := (l[k]).toNat_lt
          obtain ⟨c, hc⟩ : ∃ c : Int, c = ((l[k]).toNat : Int) := ⟨_, rfl⟩
          have hc7 : 0 ≤ c ∧ c < 256 := by omega
          have HC := Lib.hid hc
          rw [← hc] at hix hv
          clear hc hc6
          go_wp2
          go_quiet (fail)
          go_wp2
          refine ⟨⟨k + 1, by omega, by go_num, ?_, _, rfl⟩, by simp [intOf]; omega⟩
          have hc := HC.out
          subst hc
          rw [hv.out]
        · obtain rfl : k = 8 := by omega
          rw [List.take_of_length_le (by have := HL.out; omega)]
          go_wp2
          go_ret
          exact ⟨rfl, (hR.drewN _).set1 (p + 8), only4_set (only4_drewN (only4_refl _ _ _) _) ⟨by omega, by omega⟩ _⟩
    · have hn : rdrStep 0 (bitsR (b.data.toList.drop p)) p 0 = (0, p, 20) := by unfold bitsR; rw [if_neg h8]; rfl
      rw [hn]
      clear hn
      have hlt : (b.size : Int) - p < 8 := by
        rw [drop_len] at h8
        omega
      go_enter Tryz.func56, Tryz.ntmps56
      go_wp2
      go_quiet (fail)
      go_wp2_with fail
      refine (fwrong_any g off b p 20 _ (hR.drewN _) (by decide)).mono ?_
      rintro x w2 ⟨rfl, hR2, ho2⟩
      have h3 := hR2.c2
      go_wp2
      go_ret
      exact ⟨rfl, hR2, only4_trans (only4_drewN (only4_refl _ _ _) _) ho2⟩
  · have hn : rdrStep 0 (bitsR (b.data.toList.drop p)) p e = (0, p, e) := if_pos he
    rw [hn]
    clear hn
    have hcb : (e == 0) = false := by rw [beq_eq_false_iff_ne]; exact he
    go_enter Tryz.func56, Tryz.ntmps56
    go_wp2
    go_quiet (fail)
    go_wp2
    go_ret
    exact ⟨rfl, hR.drewN _, only4_drewN (only4_refl _ _ _) _⟩

set_option maxHeartbeats 1000000 in
theorem fEnd (g off : Nat) (b : ByteArray) (p : Nat) (e : Int) (w : World) (hR : Ref w g off b p e (fa e p)) :
    Calls Tryz.prog 57 #[.pointer (some ⟨g, off, none⟩)] w fun x w' => x = .returned (.tuple #[.int .i64 (endE b p e), .int .i64 (endP b p e)]) ∧ ∃ n, w' = w.drewN n := by
  have r0 := hR.c0
  have r1 := hR.c1
  have r2 := hR.c2
  have r3 := hR.c3
  by_cases he : e = 0
  · subst he
    rw [fa_zero] at r3
    by_cases hlt : p < b.size
    · have hi : (p : Int) < b.size := by omega
      rw [show endE b p 0 = 24 from if_pos ⟨rfl, hlt⟩, show endP b p 0 = p from if_neg (by simp [hlt])]
      go_enter Tryz.func57, Tryz.ntmps57
      go_wp2
      go_quiet (fail)
      go_wp2
      go_quiet (fail)
      go_wp2
      go_ret2
      exact ⟨rfl, _, by first | rfl | (simp [World.drewN_drewN]; rfl)⟩
    · have hi : ¬ (p : Int) < b.size := by omega
      have hd : decide ((p : Int) < b.size) = false := by simpa using hlt
      rw [show endE b p 0 = 0 from if_neg (by simp [hlt]), show endP b p 0 = 0 from if_pos ⟨rfl, hlt⟩]
      go_enter Tryz.func57, Tryz.ntmps57
      go_wp2
      go_quiet (fail)
      go_wp2
      go_quiet (fail)
      go_wp2
      go_ret2
      exact ⟨rfl, _, by first | rfl | (simp [World.drewN_drewN]; rfl)⟩
  · have hcb : (e == 0) = false := by rw [beq_eq_false_iff_ne]; exact he
    rw [show endE b p e = e from if_neg (by simp [he]), show endP b p e = p from if_neg (by simp [he])]
    rw [show fa e p = (p : Int) from if_neg he] at r3
    go_enter Tryz.func57, Tryz.ntmps57
    go_wp2
    go_quiet (fail)
    go_wp2
    go_quiet (fail)
    go_wp2
    go_ret2
    exact ⟨rfl, _, by first | rfl | (simp [World.drewN_drewN]; rfl)⟩
end Go.Proofs.YtiidkgdlngcpgaaGreatDoor
