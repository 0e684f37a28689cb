/- The reference of layer 7: Encode. -/
import Derived.Test.YtpnfdmglhonkmaaGreatRSame
import Derived.Test.YtpnfdmglhonkmaaGreatWBack
import Derived.Test.YtpnfdmglhonkmaaGreatFieldRes
set_option maxRecDepth 100000
namespace Go.Proofs.YtpnfdmglhonkmaaGreat
open Go.RowKit

/-- the bytes of a letter's field -/
def Mg.rlay (m : Mg) (c : UInt8) : List UInt8 :=
  match c.toNat with
  | 115 => vb m.sess.toNat
  | 110 => vb m.num.toNat
  | 106 => vb m.job.toNat
  | 98 => vb m.badge.toNat
  | 105 => vb m.idx.toNat
  | 99 => vb m.cnt.toNat
  | 114 => vb m.code.toNat ++ bb m.bits.toNat
  | 116 => tb m.text.data.toList
  | _ => tb m.prog.data.toList

def Mg.rbytesTo (m : Mg) (L : List UInt8) : List UInt8 := vb m.kind.toNat ++ (L.map m.rlay).flatten

theorem rbytesTo_snoc (m : Mg) (L : List UInt8) (c : UInt8) : str (m.rbytesTo (L ++ [c])) = str (m.rbytesTo L) ++ str (m.rlay c) := by
  apply ByteArray.ext
  apply Array.toList_inj.1
  simp [str, Mg.rbytesTo]

theorem rbytes_eq (m : Mg) (h1 : 1 ≤ m.kind) (h16 : m.kind ≤ 16) : m.rbytesTo (wordOf m.kind.toNat) = m.bytes := by
  unfold Mg.rbytesTo Mg.bytes
  congr 1
  have h : m.kind.toNat ≤ 16 := by omega
  have h0 : m.kind.toNat ≠ 0 := by omega
  generalize m.kind.toNat = n at h h0 ⊢
  rcases n with _|_|_|_|_|_|_|_|_|_|_|_|_|_|_|_|_|n
  · omega
  all_goals first | omega | rfl

theorem rright_range {k : Int} {c : UInt8} {n lo hi : Int} (h : rright k c n lo hi = true) (h0 : 0 ≤ lo) (hh : 0 ≤ hi) : 0 ≤ n ∧ n ≤ hi := by
  unfold rright at h
  split at h
  · simp at h
    omega
  · simp at h
    omega

structure Mg.Zero (m : Mg) : Prop where
  sess : 0 ≤ m.sess ∧ m.sess ≤ 1099511627776
  num : 0 ≤ m.num ∧ m.num ≤ 1099511627776
  job : 0 ≤ m.job ∧ m.job ≤ 8
  badge : 0 ≤ m.badge ∧ m.badge ≤ 1099511627776
  idx : 0 ≤ m.idx ∧ m.idx ≤ 31
  cnt : 0 ≤ m.cnt ∧ m.cnt ≤ 32
  code : 0 ≤ m.code ∧ m.code ≤ 7
  text : (m.text.size : Int) ≤ 32
  prog : (m.prog.size : Int) ≤ 1024

theorem rmost_le (k : Int) : 0 ≤ (rmost k).1 ∧ (rmost k).1 ≤ 31 ∧ 0 ≤ (rmost k).2 ∧ (rmost k).2 ≤ 32 := by
  unfold rmost
  split
  · decide
  · split
    · decide
    · split <;> decide

theorem check_fields {m : Mg} (h : m.check = 0) : m.Zero := by
  obtain ⟨h1, h16, _⟩ := check_zero h
  rw [← rcheck_eq] at h
  unfold Mg.rcheck at h
  rw [if_neg (by omega)] at h
  have hb : (rok3 m && !rbad1 m && !rbad2 m) = true := by
    by_cases hx : (rok3 m && !rbad1 m && !rbad2 m) = true
    · exact hx
    · rw [if_neg hx] at h
      cases h
  simp only [Bool.and_eq_true] at hb
  have h3 := hb.1.1
  unfold rok3 rok2 rok1 at h3
  simp only [Bool.and_eq_true] at h3
  obtain ⟨⟨⟨⟨⟨⟨⟨⟨r1, r2⟩, r3⟩, r4⟩, r5⟩, r6⟩, r7⟩, r8⟩, r9⟩ := h3
  have hm := rmost_le m.kind
  have i := rright_range r5 (by omega) (by omega)
  have c := rright_range r6 (by omega) (by omega)
  exact ⟨rright_range r1 (by omega) (by omega), rright_range r2 (by omega) (by omega), rright_range r3 (by omega) (by omega), rright_range r4 (by omega) (by omega), ⟨i.1, by omega⟩, ⟨c.1, by omega⟩,
    rright_range r7 (by omega) (by omega), (rright_range r8 (by omega) (by omega)).2, (rright_range r9 (by omega) (by omega)).2⟩

theorem RNum_int (x : Int) (w : World) (h0 : 0 ≤ x) (h1 : x ≤ 9223372036854775807) :
    Calls Tryz.prog 25 #[.int .u64 x] w fun e w' => e = .returned (.string (str (vb x.toNat))) ∧ Below w.heap.size w w' := by
  obtain ⟨n, rfl⟩ := Int.eq_ofNat_of_zero_le h0
  exact RNum_any n w (by omega)

theorem RBits_int (x : Int) (w : World) (h0 : 0 ≤ x) (h1 : x ≤ 18446744073709551615) :
    Calls Tryz.prog 27 #[.int .u64 x] w fun e w' => e = .returned (.string (str (bb x.toNat))) ∧ Below w.heap.size w w' := by
  obtain ⟨n, rfl⟩ := Int.eq_ofNat_of_zero_le h0
  exact RBits_any n w (by omega)

theorem rlay_len {m : Mg} (hz : m.Zero) (c : UInt8) : (m.rlay c).length ≤ 1034 := by
  have t1 : m.text.data.toList.length = m.text.size := rfl
  have p1 : m.prog.data.toList.length = m.prog.size := rfl
  have ht := hz.text
  have hp := hz.prog
  have v1 := vb_len10 m.text.size (by omega)
  have v2 := vb_len10 m.prog.size (by omega)
  unfold Mg.rlay
  split
  · exact Nat.le_trans (vb_len_int hz.sess.1 hz.sess.2) (by decide)
  · exact Nat.le_trans (vb_len_int hz.num.1 hz.num.2) (by decide)
  · exact Nat.le_trans (vb_len_int hz.job.1 (by have := hz.job.2; omega)) (by decide)
  · exact Nat.le_trans (vb_len_int hz.badge.1 hz.badge.2) (by decide)
  · exact Nat.le_trans (vb_len_int hz.idx.1 (by have := hz.idx.2; omega)) (by decide)
  · exact Nat.le_trans (vb_len_int hz.cnt.1 (by have := hz.cnt.2; omega)) (by decide)
  · have := vb_len_int hz.code.1 (by have := hz.code.2; omega)
    rw [List.length_append, bb_len]
    omega
  · simp only [tb, List.length_append, t1]
    omega
  · simp only [tb, List.length_append, p1]
    omega

theorem rbytesTo_len {m : Mg} (hz : m.Zero) (h1 : 1 ≤ m.kind) (h16 : m.kind ≤ 16) : ∀ (L : List UInt8), (m.rbytesTo L).length ≤ 10 + L.length * 1034
  | [] => by
    have := vb_len_int (x := m.kind) (by omega) (by omega)
    simp [Mg.rbytesTo]
    omega
  | c :: L => by
    have ih := rbytesTo_len hz h1 h16 L
    have := rlay_len hz c
    simp only [Mg.rbytesTo, List.length_append, List.map_cons, List.flatten_cons, List.length_cons] at ih ⊢
    omega

set_option maxHeartbeats 8000000 in
set_option maxRecDepth 100000 in
theorem rEncode_any (m : Mg) (w : World) (hfit : m.Fit) :
    Calls Tryz.prog 9 #[m.val] w fun e w' => e = .returned (.tuple #[.string (if m.check = 0 then str m.bytes else ⟨#[]⟩), .int .i64 m.check]) ∧ Below w.heap.size w w' := by
  obtain ⟨W, hW⟩ : ∃ W, W = w.alloc (.cells m.cells 27) := ⟨_, rfl⟩
  have hm : Ms W w.heap.size m := by rw [hW]; exact Cells.newAt _ _ _ _ rfl
  have hBW : Below w.heap.size w W := by rw [hW]; exact below_new0 _ _
  have HW := Lib.hid hW
  clear hW
  have hcall := rCheck_any m W hfit
  rw [rcheck_eq] at hcall
  obtain ⟨q0, q1, q2, q3, q4, q5, q6, q7, q8, q9, q10⟩ := hm.all
  by_cases h0 : m.check = 0
  · have hz := check_zero h0
    have hzf := check_fields h0
    have HZ := Lib.hid h0
    rw [h0] at hcall
    have HC := Lib.hid hcall
    clear hcall h0
    have hb := rbytes_eq m hz.1 hz.2.1
    rw [← hb]
    have hw := rword_in hz.1 hz.2.1
    have hmem := fun c => wordOf_mem m.kind.toNat c
    have hlen := wordOf_len m.kind.toNat
    have hN := fun wx => rNamed_any m.kind wx
    rw [hw] at hN
    clear hw hb
    generalize wordOf m.kind.toNat = L at hN hmem hlen ⊢
    have hbl := fun j => rbytesTo_len hzf hz.1 hz.2.1 (L.take j)
    have hrl := fun c => rlay_len hzf c
    have ZF := Lib.hid hzf
    have HMEM := Lib.hid hmem
    have HN := Lib.hid hN
    have HBL := Lib.hid hbl
    have HRL := Lib.hid hrl
    have HU := Lib.hid (u64_of (x := m.kind) (by omega) (by omega))
    clear hzf hmem hN hbl hrl
    go_enter Tryz.func9, Tryz.ntmps9
    go_wp2_with fail
    rw [← HW.out]
    refine HC.out.mono ?_
    rintro x w1 ⟨rfl, hb1⟩
    have HK1 := Lib.hid (keep_ms hm hBW hb1)
    clear hm hBW hb1 q0 q1 q2 q3 q4 q5 q6 q7 q8 q9 q10
    obtain ⟨q0, -⟩ := HK1.out.1.all
    go_wp2_with fail
    try rw [HU.out]
    refine (RNum_int m.kind _ (by omega) (by omega)).mono ?_
    rintro x w2 ⟨rfl, hb2⟩
    have HK2 := Lib.hid (keep_ms HK1.out.1 HK1.out.2 hb2)
    clear hb2 q0
    obtain ⟨q0, -⟩ := HK2.out.1.all
    go_wp2_with fail
    refine (HN.out _).mono ?_
    rintro x w3 ⟨rfl, hb3⟩
    have hk3 := keep_ms HK2.out.1 HK2.out.2 hb3
    clear hb3 q0
    have HK3 := Lib.hid hk3
    clear hk3
    have HST : Hid (str (vb m.kind.toNat) = str (m.rbytesTo [])) := Lib.hid (by simp [Mg.rbytesTo])
    have hz0 := hz.1
    have hz1 := hz.2.1
    clear hz
    go_wp2_with fail
    go_loopw [7, 5] (fun i bv wx => ∃ j : Nat, j ≤ L.length ∧ i = .int .i64 (j : Int) ∧ bv = .string (str (m.rbytesTo (L.take j))) ∧ Ms wx w.heap.size m ∧ Below w.heap.size w wx) (fun i _ _ => L.length - (intOf i).toNat)
    case atStart => exact ⟨0, Nat.zero_le _, rfl, by rw [List.take_zero, HST.out], HK3.out.1, HK3.out.2⟩
    case round =>
      obtain ⟨j, hj, rfl, rfl, hmr, hbr⟩ := hrel
      have HMR := Lib.hid hmr
      have HBR := Lib.hid hbr
      obtain ⟨q0, q1, q2, q3, q4, q5, q6, q7, q8, q9, q10⟩ := hmr.all
      clear hmr hbr
      by_cases hlt : j < L.length
      · have hall : str (m.rbytesTo (L.take (j + 1))) = str (m.rbytesTo (L.take j)) ++ str (m.rlay (L[j])) := by
          rw [List.take_succ_eq_append_getElem hlt, rbytesTo_snoc]
        have hs1 : (str (m.rbytesTo (L.take j))).size ≤ 6000 := by
          rw [str_size]
          have := HBL.out j
          have : (L.take j).length ≤ 5 := by rw [List.length_take]; omega
          omega
        have hs2 : (str (m.rlay (L[j]))).size ≤ 1034 := by rw [str_size]; exact HRL.out _
        have HALL := Lib.hid hall
        clear hall
        have hin := HMEM.out (L[j]) (List.getElem_mem hlt)
        have hix : ∀ wx : World, (Instr.index 9 (.string (str L)) (.int .i64 (j : Int))).run Tryz.prog wx = .ok (.int .u8 ((L[j]).toNat : Int)) wx := fun wx => str_index wx Tryz.underlying9 L j hlt
        have hsz : (j : Int) < ((str L).size : Int) := by rw [str_size]; omega
        have t0 : decide ((j : Int) < ((str L).size : Int)) = true := decide_eq_true hsz
        generalize hc0 : L[j] = c at HALL hs2 hin hix
        clear hc0
        generalize str (m.rbytesTo (L.take j)) = S0 at HALL hs1 ⊢
        rcases hin with rfl | rfl | rfl | rfl | rfl | rfl | rfl | rfl | rfl
        · have hc1 := fun wx => RNum_int m.sess wx ZF.out.sess.1 (by have := ZF.out.sess.2; omega)
          have HALL : Hid (str (m.rbytesTo (L.take (j + 1))) = S0 ++ str (vb m.sess.toNat)) := Lib.hid HALL.out
          replace hs2 : (str (vb m.sess.toNat)).size ≤ 1034 := hs2
          generalize str (vb m.sess.toNat) = S1 at HALL hc1 hs2
          have HC1 := Lib.hid hc1
          have HU := Lib.hid (u64_of (x := m.sess) ZF.out.sess.1 (by have := ZF.out.sess.2; omega))
          clear hc1
          go_wp2_with fail
          try rw [HU.out]
          refine (HC1.out _).mono ?_
          rintro x w2 ⟨rfl, hb2⟩
          have HE := Lib.hid (keep_ms HMR.out HBR.out hb2)
          go_wp2
          go_roundw
          case rel => exact ⟨j + 1, by omega, by go_num, by rw [HALL.out], HE.out.1, HE.out.2⟩
          case measure => simp [intOf]; omega
        · have hc1 := fun wx => RNum_int m.num wx ZF.out.num.1 (by have := ZF.out.num.2; omega)
          have HALL : Hid (str (m.rbytesTo (L.take (j + 1))) = S0 ++ str (vb m.num.toNat)) := Lib.hid HALL.out
          replace hs2 : (str (vb m.num.toNat)).size ≤ 1034 := hs2
          generalize str (vb m.num.toNat) = S1 at HALL hc1 hs2
          have HC1 := Lib.hid hc1
          have HU := Lib.hid (u64_of (x := m.num) ZF.out.num.1 (by have := ZF.out.num.2; omega))
          clear hc1
          go_wp2_with fail
          try rw [HU.out]
          refine (HC1.out _).mono ?_
          rintro x w2 ⟨rfl, hb2⟩
          have HE := Lib.hid (keep_ms HMR.out HBR.out hb2)
          go_wp2
          go_roundw
          case rel => exact ⟨j + 1, by omega, by go_num, by rw [HALL.out], HE.out.1, HE.out.2⟩
          case measure => simp [intOf]; omega
        · have hc1 := fun wx => RNum_int m.job wx ZF.out.job.1 (by have := ZF.out.job.2; omega)
          have HALL : Hid (str (m.rbytesTo (L.take (j + 1))) = S0 ++ str (vb m.job.toNat)) := Lib.hid HALL.out
          replace hs2 : (str (vb m.job.toNat)).size ≤ 1034 := hs2
          generalize str (vb m.job.toNat) = S1 at HALL hc1 hs2
          have HC1 := Lib.hid hc1
          have HU := Lib.hid (u64_of (x := m.job) ZF.out.job.1 (by have := ZF.out.job.2; omega))
          clear hc1
          go_wp2_with fail
          try rw [HU.out]
          refine (HC1.out _).mono ?_
          rintro x w2 ⟨rfl, hb2⟩
          have HE := Lib.hid (keep_ms HMR.out HBR.out hb2)
          go_wp2
          go_roundw
          case rel => exact ⟨j + 1, by omega, by go_num, by rw [HALL.out], HE.out.1, HE.out.2⟩
          case measure => simp [intOf]; omega
        · have hc1 := fun wx => RNum_int m.badge wx ZF.out.badge.1 (by have := ZF.out.badge.2; omega)
          have HALL : Hid (str (m.rbytesTo (L.take (j + 1))) = S0 ++ str (vb m.badge.toNat)) := Lib.hid HALL.out
          replace hs2 : (str (vb m.badge.toNat)).size ≤ 1034 := hs2
          generalize str (vb m.badge.toNat) = S1 at HALL hc1 hs2
          have HC1 := Lib.hid hc1
          have HU := Lib.hid (u64_of (x := m.badge) ZF.out.badge.1 (by have := ZF.out.badge.2; omega))
          clear hc1
          go_wp2_with fail
          try rw [HU.out]
          refine (HC1.out _).mono ?_
          rintro x w2 ⟨rfl, hb2⟩
          have HE := Lib.hid (keep_ms HMR.out HBR.out hb2)
          go_wp2
          go_roundw
          case rel => exact ⟨j + 1, by omega, by go_num, by rw [HALL.out], HE.out.1, HE.out.2⟩
          case measure => simp [intOf]; omega
        · have hc1 := fun wx => RNum_int m.idx wx ZF.out.idx.1 (by have := ZF.out.idx.2; omega)
          have HALL : Hid (str (m.rbytesTo (L.take (j + 1))) = S0 ++ str (vb m.idx.toNat)) := Lib.hid HALL.out
          replace hs2 : (str (vb m.idx.toNat)).size ≤ 1034 := hs2
          generalize str (vb m.idx.toNat) = S1 at HALL hc1 hs2
          have HC1 := Lib.hid hc1
          have HU := Lib.hid (u64_of (x := m.idx) ZF.out.idx.1 (by have := ZF.out.idx.2; omega))
          clear hc1
          go_wp2_with fail
          try rw [HU.out]
          refine (HC1.out _).mono ?_
          rintro x w2 ⟨rfl, hb2⟩
          have HE := Lib.hid (keep_ms HMR.out HBR.out hb2)
          go_wp2
          go_roundw
          case rel => exact ⟨j + 1, by omega, by go_num, by rw [HALL.out], HE.out.1, HE.out.2⟩
          case measure => simp [intOf]; omega
        · have hc1 := fun wx => RNum_int m.cnt wx ZF.out.cnt.1 (by have := ZF.out.cnt.2; omega)
          have HALL : Hid (str (m.rbytesTo (L.take (j + 1))) = S0 ++ str (vb m.cnt.toNat)) := Lib.hid HALL.out
          replace hs2 : (str (vb m.cnt.toNat)).size ≤ 1034 := hs2
          generalize str (vb m.cnt.toNat) = S1 at HALL hc1 hs2
          have HC1 := Lib.hid hc1
          have HU := Lib.hid (u64_of (x := m.cnt) ZF.out.cnt.1 (by have := ZF.out.cnt.2; omega))
          clear hc1
          go_wp2_with fail
          try rw [HU.out]
          refine (HC1.out _).mono ?_
          rintro x w2 ⟨rfl, hb2⟩
          have HE := Lib.hid (keep_ms HMR.out HBR.out hb2)
          go_wp2
          go_roundw
          case rel => exact ⟨j + 1, by omega, by go_num, by rw [HALL.out], HE.out.1, HE.out.2⟩
          case measure => simp [intOf]; omega
        · have hc1 := fun wx => RNum_int m.code wx ZF.out.code.1 (by have := ZF.out.code.2; omega)
          have hc2 := fun wx => RBits_int m.bits wx hfit.bits.1 hfit.bits.2
          have hcat : str (m.rlay 114) = str (vb m.code.toNat) ++ str (bb m.bits.toNat) := by
            show str (vb m.code.toNat ++ bb m.bits.toNat) = _
            apply ByteArray.ext
            apply Array.toList_inj.1
            simp [str]
          have s1 : (str (vb m.code.toNat)).size ≤ 10 := by rw [str_size]; exact vb_len_int ZF.out.code.1 (by have := ZF.out.code.2; omega)
          have s2 : (str (bb m.bits.toNat)).size ≤ 8 := by rw [str_size, bb_len]; omega
          rw [hcat] at HALL hs2
          clear hcat
          generalize str (vb m.code.toNat) = S1 at HALL hc1 hs2 s1
          generalize str (bb m.bits.toNat) = S2 at HALL hc2 hs2 s2
          have hs12 : (S1 ++ S2).size ≤ 18 := by rw [ByteArray.size_append]; omega
          clear hs2
          have hx1 : ¬ 9223372036854775807 < S1.size + S2.size := by omega
          have hx2 : ¬ 9223372036854775807 < S0.size + (S1.size + S2.size) := by omega
          have HC1 := Lib.hid hc1
          have HC2 := Lib.hid hc2
          have HU := Lib.hid (u64_of (x := m.code) ZF.out.code.1 (by have := ZF.out.code.2; omega))
          clear hc1 hc2
          have HK := Lib.hid fun (wx wy : World) (hw : Below wx.heap.size wx wy) (h : wx.cell? ⟨w.heap.size, 7, none⟩ = some (.int .i64 m.code) ∧ wx.cell? ⟨w.heap.size, 8, none⟩ = some (.int .u64 m.bits)) => (show wy.cell? ⟨w.heap.size, 7, none⟩ = some (.int .i64 m.code) ∧ wy.cell? ⟨w.heap.size, 8, none⟩ = some (.int .u64 m.bits) from ⟨(hw.cell (World.block_lt_of_cell? _ _ h.1)).trans h.1, (hw.cell (World.block_lt_of_cell? _ _ h.2)).trans h.2⟩)
          have e7 : wr.drew.cell? ⟨w.heap.size, 7, none⟩ = some (.int .i64 m.code) := q7
          have e8 : wr.drew.cell? ⟨w.heap.size, 8, none⟩ = some (.int .u64 m.bits) := q8
          have HKE := Lib.hid fun (wy : World) (h : Below wr.drew.heap.size wr.drew wy) => (show Ms wy w.heap.size m ∧ Below w.heap.size w wy from ⟨Cells.keep (Cells.drew HMR.out) h, (HBR.out.drew).trans (h.mono HBR.out.size)⟩)
          go_wp2_with fail
          go_region_held3 (fun w' => w'.cell? ⟨w.heap.size, 7, none⟩ = some (.int .i64 m.code) ∧ w'.cell? ⟨w.heap.size, 8, none⟩ = some (.int .u64 m.bits)) ((first | exact ⟨e7, e8⟩ | assumption | exact HK.out _ _ (by assumption) (by assumption)))
            (first | (go_at_call 25; (try rw [HU.out]); refine (HC1.out _).mono ?_; rintro x wa ⟨rfl, hba⟩) | (go_at_call 27; refine (HC2.out _).mono ?_; rintro x wb ⟨rfl, hbb⟩))
          all_goals
            have hbx := Lib.hid (by first | exact hba.trans (hbb.mono hba.size) | exact hbb.trans (hba.mono hbb.size) : Below wr.drew.heap.size wr.drew _)
            go_wp2
            go_roundw
            case rel => exact ⟨j + 1, by omega, by go_num, by rw [HALL.out], (HKE.out _ hbx.out).1, (HKE.out _ hbx.out).2⟩
            case measure => simp [intOf]; omega
        · have hc1 := fun wx => RText_any m.text wx (by have := ZF.out.text; omega)
          have HALL : Hid (str (m.rbytesTo (L.take (j + 1))) = S0 ++ str (tb m.text.data.toList)) := Lib.hid HALL.out
          replace hs2 : (str (tb m.text.data.toList)).size ≤ 1034 := hs2
          generalize str (tb m.text.data.toList) = S1 at HALL hc1 hs2
          have HC1 := Lib.hid hc1
          clear hc1
          go_wp2_with fail
          refine (HC1.out _).mono ?_
          rintro x w2 ⟨rfl, hb2⟩
          have HE := Lib.hid (keep_ms HMR.out HBR.out hb2)
          go_wp2
          go_roundw
          case rel => exact ⟨j + 1, by omega, by go_num, by rw [HALL.out], HE.out.1, HE.out.2⟩
          case measure => simp [intOf]; omega
        · have hc1 := fun wx => RText_any m.prog wx (by have := ZF.out.prog; omega)
          have HALL : Hid (str (m.rbytesTo (L.take (j + 1))) = S0 ++ str (tb m.prog.data.toList)) := Lib.hid HALL.out
          replace hs2 : (str (tb m.prog.data.toList)).size ≤ 1034 := hs2
          generalize str (tb m.prog.data.toList) = S1 at HALL hc1 hs2
          have HC1 := Lib.hid hc1
          clear hc1
          go_wp2_with fail
          refine (HC1.out _).mono ?_
          rintro x w2 ⟨rfl, hb2⟩
          have HE := Lib.hid (keep_ms HMR.out HBR.out hb2)
          go_wp2
          go_roundw
          case rel => exact ⟨j + 1, by omega, by go_num, by rw [HALL.out], HE.out.1, HE.out.2⟩
          case measure => simp [intOf]; omega
      · have hjl : j = L.length := by omega
        subst hjl
        rw [List.take_of_length_le (Nat.le_refl _)]
        have hsz : ¬ (L.length : Int) < ((str L).size : Int) := by rw [str_size]; omega
        have t0 : decide ((L.length : Int) < ((str L).size : Int)) = false := decide_eq_false hsz
        clear q0 q1 q2 q3 q4 q5 q6 q7 q8 q9 q10
        go_wp2
        go_ret2
        exact ⟨by first | rfl | (rw [HZ.out]; rfl), HBR.out⟩
  · have HC := Lib.hid hcall
    clear hcall
    have t0 : (m.check != 0) = true := by rw [bne_iff_ne]; exact h0
    have HNE := Lib.hid h0
    clear h0
    go_enter Tryz.func9, Tryz.ntmps9
    go_wp2_with fail
    rw [← HW.out]
    refine HC.out.mono ?_
    rintro x w1 ⟨rfl, hb1⟩
    go_wp2
    go_ret2
    exact ⟨by first | rfl | (rw [if_neg HNE.out]; rfl), hBW.trans (hb1.mono hBW.size)⟩
end Go.Proofs.YtpnfdmglhonkmaaGreat
