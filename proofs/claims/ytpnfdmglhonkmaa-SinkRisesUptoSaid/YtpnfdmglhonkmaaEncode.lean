/- wire.Encode. -/
import Derived.Test.YtpnfdmglhonkmaaCheck
set_option maxRecDepth 100000
namespace Go.Proofs.Ytpnfdmglhonkmaa
open Go.RowKit

/-- the bytes of the first fields -/
def Mg.bytesTo (m : Mg) (L : List Fd) : List UInt8 := vb m.kind.toNat ++ (L.map fun f => f.lay m).flatten

theorem bytesTo_snoc (m : Mg) (L : List Fd) (f : Fd) : str (m.bytesTo (L ++ [f])) = str (m.bytesTo L) ++ str (f.lay m) := by
  apply ByteArray.ext
  apply Array.toList_inj.1
  simp [str, Mg.bytesTo]

def Fd.ok2 : Fd → Bool
  | .whole k l h => decide (1 ≤ k) && (decide (k ≤ 6) && (decide (0 ≤ l) && decide (h ≤ 1099511627776)))
  | .text k l h => (decide (k = 9) || decide (k = 10)) && (decide (0 ≤ l) && decide (h ≤ 1024))
  | .result => true
theorem fieldsOf_ok2 (k : Nat) : ∀ f ∈ fieldsOf k, f.ok2 = true := by
  unfold fieldsOf
  split <;> decide

theorem vb_len_int {x : Int} (h0 : 0 ≤ x) (h1 : x ≤ 1099511627776) : (vb x.toNat).length ≤ 10 := vb_len10 _ (by omega)
theorem lay_len {m : Mg} (hfit : m.Fit) {f : Fd} (hf : f.ok2 = true) (hm : f.may m = true) : (f.lay m).length ≤ 1073741844 := by
  cases f with
  | whole k l h =>
    simp only [Fd.ok2, Fd.may, Bool.and_eq_true, decide_eq_true_eq] at hf hm
    show (vb (m.int k).toNat).length ≤ _
    have := vb_len_int (x := m.int k) (by omega) (by omega)
    omega
  | text k l h =>
    simp only [Fd.ok2, Bool.and_eq_true, Bool.or_eq_true, decide_eq_true_eq] at hf
    show (vb (m.str k).data.toList.length ++ (m.str k).data.toList).length ≤ _
    have hs : (m.str k).size < 1073741824 := by
      rcases hf.1 with rfl | rfl
      · exact hfit.text
      · exact hfit.prog
    have hl : (m.str k).data.toList.length = (m.str k).size := by rw [Array.length_toList]; rfl
    have := vb_len10 (m.str k).data.toList.length (by omega)
    simp only [List.length_append]
    omega
  | result =>
    unfold Fd.may at hm
    have hc : 0 ≤ m.code ∧ m.code ≤ 7 := by
      simp at hm
      omega
    have := vb_len_int (x := m.code) hc.1 (by omega)
    show (vb m.code.toNat ++ bb m.bits.toNat).length ≤ _
    simp only [List.length_append, bb_len]
    omega

theorem bytesTo_len {m : Mg} (hfit : m.Fit) (h1 : 1 ≤ m.kind) (h16 : m.kind ≤ 16) : ∀ (L : List Fd), (∀ f ∈ L, f.ok2 = true) → (∀ f ∈ L, f.may m = true) → (m.bytesTo L).length ≤ 10 + L.length * 1073741844
  | [], _, _ => by
    have := vb_len_int (x := m.kind) (by omega) (by omega)
    simp [Mg.bytesTo]
    omega
  | f :: L, ho, hm => by
    have ih := bytesTo_len hfit h1 h16 L (fun f hf => ho f (List.mem_cons_of_mem _ hf)) (fun f hf => hm f (List.mem_cons_of_mem _ hf))
    have := lay_len hfit (ho f (List.mem_cons_self ..)) (hm f (List.mem_cons_self ..))
    simp only [Mg.bytesTo, List.length_append, List.map_cons, List.flatten_cons, List.length_cons] at ih ⊢
    omega

theorem check_zero {m : Mg} (h : m.check = 0) : 1 ≤ m.kind ∧ m.kind ≤ 16 ∧ m.named = m ∧ ¬ (m.kind = 6 ∧ m.idx = 0 ∧ m.text ≠ ⟨#[]⟩) ∧ ∀ f ∈ fieldsOf m.kind.toNat, f.may m = true := by
  unfold Mg.check at h
  split at h
  · cases h
  · split at h
    · rename_i h1 h2
      exact ⟨by omega, by omega, h2.1, h2.2.1, List.all_eq_true.1 h2.2.2⟩
    · cases h

theorem Num_int (x : Int) (w : World) (h0 : 0 ≤ x) (h1 : x ≤ 9223372036854775807) :
    Calls Try.prog 26 #[.int .u64 x] w fun e w' => e = .returned (.string (str (vb x.toNat))) ∧ Below w.heap.size w w' := by
  obtain ⟨n, rfl⟩ := Int.eq_ofNat_of_zero_le h0
  exact Num_any n w (by omega)

set_option maxHeartbeats 8000000 in
set_option maxRecDepth 100000 in
theorem Encode_any (m : Mg) (w : World) (hfit : m.Fit) :
    Calls Try.prog 16 #[m.val] w fun e w' => e = .returned (.tuple #[.string (if m.check = 0 then str m.bytes else ⟨#[]⟩), .int .i64 m.check]) ∧ Below w.heap.size w w' := by
  obtain ⟨W, hW⟩ : ∃ W, W = w.alloc (.cells m.cells 61) := ⟨_, rfl⟩
  have hm : Ms W w.heap.size m := by rw [hW]; exact Cells.newAt _ _ _ _ rfl
  have hBW : Below w.heap.size w W := by rw [hW]; exact below_new0 _ _
  have hs : W.heap.size = w.heap.size + 1 := by rw [hW]; simp
  have HW := Lib.hid hW
  have HS := Lib.hid hs
  clear hW hs
  obtain ⟨k0, k1, k2, k3, k4, k5, k6, k7, k8, k9, k10⟩ := hm.all
  have hcall := Check_any m W hfit
  by_cases h0 : m.check = 0
  · have hz := check_zero h0
    have HZ := Lib.hid h0
    rw [h0] at hcall
    have HC := Lib.hid hcall
    clear hcall h0
    have hk0 := u64_of (x := m.kind) (by omega) (by omega)
    have HU := Lib.hid hk0
    clear hk0
    go_enter Try.func16, Try.ntmps16
    go_wp2_with fail
    rw [← HW.out]
    refine HC.out.mono ?_
    rintro x w1 ⟨rfl, hb1⟩
    have hm1 : Ms w1 w.heap.size m := Cells.keep hm hb1
    obtain ⟨q0, _⟩ := Ms.all hm1
    clear k0 k1 k2 k3 k4 k5 k6 k7 k8 k9 k10
    go_wp2_with fail
    try rw [HU.out]
    refine (Num_int m.kind _ (by omega) (by omega)).mono ?_
    rintro x w2 ⟨rfl, hb2⟩
    have hm2 : Ms w2 w.heap.size m := Cells.keep hm1 hb2
    obtain ⟨s0, _⟩ := Ms.all hm2
    go_wp2_with fail
    refine (fields_int m.kind _ (by omega) (by omega)).mono ?_
    rintro x w3 ⟨A, rfl, hF, hb3⟩
    have hok := fieldsOf_ok2 m.kind.toNat
    have hlen := fieldsOf_len m.kind.toNat
    have hmay := hz.2.2.2.2
    have hbts : str m.bytes = str (m.bytesTo (fieldsOf m.kind.toNat)) := rfl
    generalize fieldsOf m.kind.toNat = L at hF hok hlen hmay hbts ⊢
    have hbl := fun j => bytesTo_len hfit hz.1 hz.2.1 (L.take j) (fun f hf => hok f (List.mem_of_mem_take hf)) (fun f hf => hmay f (List.mem_of_mem_take hf))
    have hlo : w.heap.size < w2.heap.size := Cells.lt hm2
    have hm3 : Ms w3 w.heap.size m := Cells.keep hm2 hb3
    have hbw3 : Below w.heap.size w w3 := ((hBW.trans (hb1.mono hBW.size)).trans (hb2.mono (Nat.le_trans hBW.size hb1.size))).trans (hb3.mono (by omega))
    have hlohi := hb3.size
    have HOK := Lib.hid hok
    have HMAY := Lib.hid hmay
    have HBL := Lib.hid hbl
    have HB := Lib.hid hbts
    clear hok hmay hbl hbts q0 s0 hz hm hm1 hm2
    go_wp2_with fail
    go_loopw [21, 5] (fun i bv wx => ∃ j : Nat, j ≤ L.length ∧ i = .int .i64 (j : Int) ∧ bv = .string (str (m.bytesTo (L.take j))) ∧ FieldsAt wx w2.heap.size w3.heap.size A L ∧ Ms wx w.heap.size m ∧ Below w.heap.size w wx ∧ w3.heap.size ≤ wx.heap.size) (fun i _ _ => L.length - (intOf i).toNat)
    case atStart => exact ⟨0, Nat.zero_le _, rfl, by simp [Mg.bytesTo], hF, hm3, hbw3, Nat.le_refl _⟩
    case round =>
      obtain ⟨j, hj, rfl, rfl, hFr, hmr, hbr, hsr⟩ := hrel
      by_cases hlt : j < L.length
      · have hall : str (m.bytesTo (L.take (j + 1))) = str (m.bytesTo (L.take j)) ++ str ((L[j]).lay m) := by
          rw [List.take_succ_eq_append_getElem hlt, bytesTo_snoc]
        obtain ⟨g, rfl, hg, v1, v2, v3, e1, e2, e3, hv⟩ := hFr.get (List.getElem?_eq_getElem hlt)
        have hfok := HOK.out L[j] (List.getElem_mem hlt)
        have hfm := HMAY.out L[j] (List.getElem_mem hlt)
        have hll := lay_len hfit hfok hfm
        have hbl := HBL.out j
        have hs1 : (str (m.bytesTo (L.take j))).size ≤ 6000000000 := by
          rw [str_size]
          have : (L.take j).length ≤ 5 := by rw [List.length_take]; omega
          have := Nat.mul_le_mul_right 1073741844 this
          omega
        have hs2 : (str ((L[j]).lay m)).size ≤ 1073741844 := by rw [str_size]; exact hll
        have HALL := Lib.hid hall
        clear hall hll hbl
        generalize hf0 : L[j] = f at hv hfok hfm HALL hs2
        clear hf0
        generalize str (m.bytesTo (L.take j)) = S0 at HALL hs1 ⊢
        have hi0 : (0 : Int) ≤ (j : Int) := by omega
        have hi1 : (j : Int) < (L.length : Int) := by omega
        cases f with
        | whole k l h =>
              obtain ⟨b1, b2, b3, r1, r2, r3, rfl, rfl, rfl, c1, c2, c3⟩ := hv
              simp only [Fd.ok2, Fd.may, Bool.and_eq_true, decide_eq_true_eq] at hfok hfm
              have hcall := fun (o : Obj) => wholeLay w.heap.size b1 k l h m _ (c1.alloc o) (Cells.alloc hmr o) (by omega) (by omega) (by omega) (by omega)
              generalize str ((Fd.whole k l h).lay m) = S1 at HALL hcall hs2
              have HCALL := Lib.hid hcall
              clear hcall c1 c2 c3 hfok hfm
              go_wp2_with fail
              refine (HCALL.out _).mono ?_
              rintro x w2 ⟨rfl, hb2⟩
              have HE := Lib.hid <| rel_end hFr hmr hbr hsr ((below_new0 wr (.cells #[.func (.func 59) #[] #[ptr b1, ptr b2, ptr b3], .func (.func 60) #[] #[ptr b1], .func (.func 61) #[] #[ptr b1]] 79)).trans (hb2.mono (by simp)))
              go_wp2
              go_roundw
              case rel => exact ⟨j + 1, by omega, by go_num, by rw [HALL.out], HE.out.1, HE.out.2.1, HE.out.2.2.1, HE.out.2.2.2⟩
              case measure => simp [intOf]; omega
        | text k l h =>
              obtain ⟨b1, b2, b3, r1, r2, r3, rfl, rfl, rfl, c1, c2, c3⟩ := hv
              simp only [Fd.ok2, Bool.and_eq_true, Bool.or_eq_true, decide_eq_true_eq] at hfok
              have hsz : (m.str k).size < 1073741824 := by
                rcases hfok.1 with rfl | rfl
                · exact hfit.text
                · exact hfit.prog
              have hcall := fun (o : Obj) => textLay w.heap.size b1 k l h m _ (c1.alloc o) (Cells.alloc hmr o) hfok.1 hsz
              generalize str ((Fd.text k l h).lay m) = S1 at HALL hcall hs2
              have HCALL := Lib.hid hcall
              clear hcall c1 c2 c3 hfok hfm hsz
              go_wp2_with fail
              refine (HCALL.out _).mono ?_
              rintro x w2 ⟨rfl, hb2⟩
              have HE := Lib.hid <| rel_end hFr hmr hbr hsr ((below_new0 wr (.cells #[.func (.func 62) #[] #[ptr b1, ptr b2, ptr b3], .func (.func 63) #[] #[ptr b1], .func (.func 65) #[] #[ptr b3, ptr b1]] 79)).trans (hb2.mono (by simp)))
              go_wp2
              go_roundw
              case rel => exact ⟨j + 1, by omega, by go_num, by rw [HALL.out], HE.out.1, HE.out.2.1, HE.out.2.2.1, HE.out.2.2.2⟩
              case measure => simp [intOf]; omega
        | result =>
              obtain ⟨rfl, rfl, rfl⟩ := hv
              have hc : 0 ≤ m.code ∧ m.code ≤ 7 := by
                unfold Fd.may at hfm
                simp at hfm
                omega
              have hcall := fun (o : Obj) => resultLay w.heap.size m _ (Cells.alloc hmr o) hc.1 hc.2 hfit.bits
              generalize str (Fd.result.lay m) = S1 at HALL hcall hs2
              have HCALL := Lib.hid hcall
              clear hcall hfok hfm hc
              unfold fn0 at e1 e2 e3
              go_wp2_with fail
              refine (HCALL.out _).mono ?_
              rintro x w2 ⟨rfl, hb2⟩
              have HE := Lib.hid <| rel_end hFr hmr hbr hsr ((below_new0 wr (.cells #[fn0 67, fn0 69, fn0 71] 79)).trans (hb2.mono (by simp)))
              go_wp2
              go_roundw
              case rel => exact ⟨j + 1, by omega, by go_num, by rw [HALL.out], HE.out.1, HE.out.2.1, HE.out.2.2.1, HE.out.2.2.2⟩
              case measure => simp [intOf]; omega
      · have hjl : j = L.length := by omega
        subst hjl
        rw [List.take_of_length_le (Nat.le_refl _)]
        rw [← HB.out]
        go_wp2
        go_ret2
        exact ⟨rfl, hbr⟩
  · have HC := Lib.hid hcall
    clear hcall
    have t0 : (m.check != 0) = true := by rw [bne_iff_ne]; exact h0
    go_enter Try.func16, Try.ntmps16
    go_wp2_with fail
    rw [← HW.out]
    refine HC.out.mono ?_
    rintro x w1 ⟨rfl, hb1⟩
    go_wp2
    go_ret2
    exact ⟨rfl, hBW.trans (hb1.mono hBW.size)⟩
end Go.Proofs.Ytpnfdmglhonkmaa
