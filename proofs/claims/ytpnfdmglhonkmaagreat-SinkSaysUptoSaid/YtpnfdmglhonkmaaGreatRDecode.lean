/- The reference of layer 7: Decode. -/
import Derived.Test.YtpnfdmglhonkmaaGreatREncode
import Derived.Test.YtpnfdmglhonkmaaGreatDecode
import Derived.Test.YtpnfdmglhonkmaaGreatRf
set_option maxRecDepth 100000
namespace Go.Proofs.YtpnfdmglhonkmaaGreat
open Go.RowKit

/-- what a letter's field reads -/
def rread (b : ByteArray) (c : UInt8) (s : Mg × Nat × Int) : Mg × Nat × Int :=
  match c.toNat with
  | 115 => (fun (r : Int × Nat × Int) => (s.1.setInt r.1 1, r.2)) (rdrStep 0 (upR (numR (b.data.toList.drop s.2.1) 1099511627776 21)) s.2.1 s.2.2)
  | 110 => (fun (r : Int × Nat × Int) => (s.1.setInt r.1 2, r.2)) (rdrStep 0 (upR (numR (b.data.toList.drop s.2.1) 1099511627776 21)) s.2.1 s.2.2)
  | 106 => (fun (r : Int × Nat × Int) => (s.1.setInt r.1 3, r.2)) (rdrStep 0 (upR (numR (b.data.toList.drop s.2.1) 1099511627776 21)) s.2.1 s.2.2)
  | 98 => (fun (r : Int × Nat × Int) => (s.1.setInt r.1 4, r.2)) (rdrStep 0 (upR (numR (b.data.toList.drop s.2.1) 1099511627776 21)) s.2.1 s.2.2)
  | 105 => (fun (r : Int × Nat × Int) => (s.1.setInt r.1 5, r.2)) (rdrStep 0 (upR (numR (b.data.toList.drop s.2.1) 1099511627776 21)) s.2.1 s.2.2)
  | 99 => (fun (r : Int × Nat × Int) => (s.1.setInt r.1 6, r.2)) (rdrStep 0 (upR (numR (b.data.toList.drop s.2.1) 1099511627776 21)) s.2.1 s.2.2)
  | 114 => (fun (r : Int × Nat × Int) => (fun (q : Int × Nat × Int) => ({ s.1 with code := r.1, bits := q.1 }, q.2)) (rdrStep 0 (bitsR (b.data.toList.drop r.2.1)) r.2.1 r.2.2)) (rdrStep 0 (upR (numR (b.data.toList.drop s.2.1) 1099511627776 21)) s.2.1 s.2.2)
  | 116 => (fun (r : ByteArray × Nat × Int) => (s.1.setStr r.1 9, r.2)) (rdrStep ⟨#[]⟩ (textR (b.data.toList.drop s.2.1) 2048) s.2.1 s.2.2)
  | 112 => (fun (r : ByteArray × Nat × Int) => (s.1.setStr r.1 10, r.2)) (rdrStep ⟨#[]⟩ (textR (b.data.toList.drop s.2.1) 2048) s.2.1 s.2.2)
  | _ => s

def rreadAll (b : ByteArray) : Mg × Nat × Int := (rword (readKind b).1.kind).foldl (fun s c => rread b c s) (readKind b)

/-- the message of bytes, as the document says it -/
def rdecode (b : ByteArray) : Mg × Int :=
  if 2048 < b.size then (Mg.none 0, 73) else
  if endE b (rreadAll b).2.1 (rreadAll b).2.2 ≠ 0 ∨ (rreadAll b).1.check ≠ 0 then (Mg.none 0, 72) else ((rreadAll b).1, 0)

theorem rread_inv {b : ByteArray} {c : UInt8} {s : Mg × Nat × Int} (hb : b.size < 1073741824) (h : ReadInv b s) : ReadInv b (rread b c s) := by
  obtain ⟨m, p, e⟩ := s
  obtain ⟨hf, hp⟩ := h
  unfold rread
  simp only
  split
  · exact ⟨setInt_fit (m := m) (x := (rdrStep (0 : Int) (upR (numR (b.data.toList.drop p) 1099511627776 21)) p e).1) hf num_bd 1, rdrStep_le hp (fun v k h => num_le hp h)⟩
  · exact ⟨setInt_fit (m := m) (x := (rdrStep (0 : Int) (upR (numR (b.data.toList.drop p) 1099511627776 21)) p e).1) hf num_bd 2, rdrStep_le hp (fun v k h => num_le hp h)⟩
  · exact ⟨setInt_fit (m := m) (x := (rdrStep (0 : Int) (upR (numR (b.data.toList.drop p) 1099511627776 21)) p e).1) hf num_bd 3, rdrStep_le hp (fun v k h => num_le hp h)⟩
  · exact ⟨setInt_fit (m := m) (x := (rdrStep (0 : Int) (upR (numR (b.data.toList.drop p) 1099511627776 21)) p e).1) hf num_bd 4, rdrStep_le hp (fun v k h => num_le hp h)⟩
  · exact ⟨setInt_fit (m := m) (x := (rdrStep (0 : Int) (upR (numR (b.data.toList.drop p) 1099511627776 21)) p e).1) hf num_bd 5, rdrStep_le hp (fun v k h => num_le hp h)⟩
  · exact ⟨setInt_fit (m := m) (x := (rdrStep (0 : Int) (upR (numR (b.data.toList.drop p) 1099511627776 21)) p e).1) hf num_bd 6, rdrStep_le hp (fun v k h => num_le hp h)⟩
  · have hp1 := rdrStep_le (zero := (0 : Int)) (e := e) hp (fun v k h => num_le (most := 1099511627776) (over := 21) hp h)
    have hc := num_bd (l := b.data.toList.drop p) (most := 1099511627776) (p := p) (e := e) (over := 21)
    refine ⟨⟨hf.kind, hf.sess, hf.num, hf.job, hf.badge, hf.idx, hf.cnt, ?_, bits_bd, hf.text, hf.prog⟩, rdrStep_le hp1 (fun v k h => bits_le hp1 h)⟩
    have h1 := hc.1
    have h2 := hc.2
    exact ⟨Int.le_trans (by decide) h1, Int.le_trans h2 (by decide)⟩
  · exact ⟨setStr_fit (m := m) (x := (rdrStep (⟨#[]⟩ : ByteArray) (textR (b.data.toList.drop p) 2048) p e).1) hf (Nat.lt_of_le_of_lt text_bd hb) 9, rdrStep_le hp (fun v k h => text_le hp h)⟩
  · exact ⟨setStr_fit (m := m) (x := (rdrStep (⟨#[]⟩ : ByteArray) (textR (b.data.toList.drop p) 2048) p e).1) hf (Nat.lt_of_le_of_lt text_bd hb) 10, rdrStep_le hp (fun v k h => text_le hp h)⟩
  · exact ⟨hf, hp⟩

theorem rfold_inv {b : ByteArray} (hb : b.size < 1073741824) : ∀ (L : List UInt8) (s : Mg × Nat × Int), ReadInv b s → ReadInv b (L.foldl (fun s c => rread b c s) s)
  | [], _, h => h
  | c :: L, s, h => rfold_inv hb L (rread b c s) (rread_inv hb h)

theorem rword_mem (k : Int) (c : UInt8) (h : c ∈ rword k) : c = 63 ∨ c = 115 ∨ c = 110 ∨ c = 106 ∨ c = 98 ∨ c = 105 ∨ c = 99 ∨ c = 114 ∨ c = 116 ∨ c = 112 := by
  unfold rword at h
  split at h
  · left
    simpa using h
  · exact .inr (wordOf_mem _ c h)

/-- behind a reader's call in the loop -/
theorem rd_mid {w wr w2 : World} {gm gr gz : Nat} {m : Mg} (hm : Ms wr gm m) (hz : Ms wr gz (Mg.none 0)) (hb : Below w.heap.size w wr) (hg : wr.grownBy w2 (some gr)) (h1 : gm ≠ gr) (h2 : gz ≠ gr) (h3 : w.heap.size ≤ gr) :
    Ms w2 gm m ∧ Ms w2 gz (Mg.none 0) ∧ Below w.heap.size w w2 :=
  ⟨Cells.grown hm hg (by intro he; injection he with he; exact h1 he), Cells.grown hz hg (by intro he; injection he with he; exact h2 he), hb.trans (below_of_only hg h3 hb.size)⟩

theorem Ref.far {w : World} {g off : Nat} {b : ByteArray} {p : Nat} {e a : Int} (h : Ref w g off b p e a) {x : Addr} (hx : g ≠ x.block) (u : Value) : Ref (w.setCell x u) g off b p e a := by
  obtain ⟨cur, E, hh, h0, h1, h2, h3⟩ := h
  exact ⟨cur, E, (Below.heap_setCell w x u g hx).trans hh, h0, h1, h2, h3⟩

theorem Ref.keep {w w' : World} {g off : Nat} {b : ByteArray} {p : Nat} {e a : Int} (h : Ref w g off b p e a) (hb : Below w.heap.size w w') : Ref w' g off b p e a := by
  have hlt := h.lt
  obtain ⟨cur, E, hh, h0, h1, h2, h3⟩ := h
  exact ⟨cur, E, (hb.block g hlt).trans hh, h0, h1, h2, h3⟩

theorem Ref.alloc {w : World} {g off : Nat} {b : ByteArray} {p : Nat} {e a : Int} (h : Ref w g off b p e a) (o : Obj) : Ref (w.alloc o) g off b p e a := by
  have hlt := h.lt
  obtain ⟨cur, E, hh, h0, h1, h2, h3⟩ := h
  exact ⟨cur, E, (Below.heap_alloc w o g hlt).trans hh, h0, h1, h2, h3⟩

/-- behind a store into the message -/
theorem rd_set {w w2 : World} {gm gr gz : Nat} {b : ByteArray} {p : Nat} {e a : Int} {m m' : Mg} (k : Nat) (v : Value) (hm : Ms w2 gm m) (hz : Ms w2 gz (Mg.none 0)) (hb : Below w.heap.size w w2) (hR : Ref w2 gr 0 b p e a) (h1 : gm ≠ gr) (h2 : gz ≠ gm) (h3 : w.heap.size ≤ gm)
    (hc : m.cells.setIfInBounds k v = m'.cells) : Ms (w2.setCell ⟨gm, k, none⟩ v) gm m' ∧ Ms (w2.setCell ⟨gm, k, none⟩ v) gz (Mg.none 0) ∧ Below w.heap.size w (w2.setCell ⟨gm, k, none⟩ v) ∧ Ref (w2.setCell ⟨gm, k, none⟩ v) gr 0 b p e a := by
  refine ⟨?_, Cells.far hz h2 v, below_setAt hb h3, hR.far (fun he => h1 he.symm) v⟩
  have h := Cells.set hm k v
  rw [hc] at h
  exact h

set_option maxHeartbeats 8000000 in
set_option maxRecDepth 100000 in
theorem rDecode_any (b : ByteArray) (w : World) (hb : b.size < 1073741824) :
    Calls Tryz.prog 11 #[.string b] w fun e w' => e = .returned (.tuple #[(rdecode b).1.val, .int .i64 (rdecode b).2]) ∧ Below w.heap.size w w' := by
  obtain ⟨W, hW⟩ : ∃ W, W = w.alloc (.cells #[.int .i64 0, .int .i64 0, .int .i64 0, .int .i64 0, .int .i64 0, .int .i64 0, .int .i64 0, .int .i64 0, .int .u64 0, .string ⟨#[]⟩, .string ⟨#[]⟩] 27) := ⟨_, rfl⟩
  have hz : Ms W w.heap.size (Mg.none 0) := by rw [hW]; exact Cells.newAt _ _ _ _ rfl
  have hBW : Below w.heap.size w W := by rw [hW]; exact below_new0 _ _
  have hs : W.heap.size = w.heap.size + 1 := by rw [hW]; simp
  have HW := Lib.hid hW
  clear hW
  by_cases hbig : 2048 < b.size
  · have t0 : decide ((2048 : Int) < (b.size : Int)) = true := decide_eq_true (by omega)
    have hdec : rdecode b = (Mg.none 0, 73) := by
      unfold rdecode
      rw [if_pos hbig]
    have HD := Lib.hid hdec
    clear hdec hs
    go_enter Tryz.func11, Tryz.ntmps11
    go_wp2
    rw [← HW.out]
    exact dec_ret rfl rfl rfl hz rfl ⟨by rw [HD.out]; rfl, hBW⟩
  · have t0 : decide ((2048 : Int) < (b.size : Int)) = false := decide_eq_false (by omega)
    obtain ⟨W1, hW1⟩ : ∃ W1, W1 = W.alloc (.cells #[.string b, .int .i64 0, .int .i64 0, .int .i64 0] 80) := ⟨_, rfl⟩
    have hR1 : Ref W1 (w.heap.size + 1) 0 b 0 0 (fa 0 0) := by
      rw [hW1, ← hs]
      exact ⟨_, _, heap_alloc_new W _, rfl, rfl, rfl, rfl⟩
    have hz1 : Ms W1 w.heap.size (Mg.none 0) := by rw [hW1]; exact Cells.alloc hz _
    have hb1 : Below w.heap.size w W1 := by rw [hW1]; exact hBW.alloc (by omega) _
    have hs1 : W1.heap.size = w.heap.size + 1 + 1 := by rw [hW1]; simp [hs]
    rw [HW.out] at hW1
    have HW1 := Lib.hid hW1
    have HS := Lib.hid hs
    have HS1 := Lib.hid hs1
    clear hW1 hs hs1
    have hdec : rdecode b = if endE b (rreadAll b).2.1 (rreadAll b).2.2 ≠ 0 ∨ (rreadAll b).1.check ≠ 0 then (Mg.none 0, 72) else ((rreadAll b).1, 0) := by
      unfold rdecode
      rw [if_neg hbig]
    have hki := kind_inv b
    have hrk : readKind b = (Mg.none (rdrStep (0 : Int) (upR (numR (b.data.toList.drop 0) 16 21)) 0 0).1, (rdrStep (0 : Int) (upR (numR (b.data.toList.drop 0) 16 21)) 0 0).2) := rfl
    have hra : rreadAll b = (rword (readKind b).1.kind).foldl (fun s c => rread b c s) (readKind b) := rfl
    have hfin := rfold_inv hb (rword (readKind b).1.kind) (readKind b) hki.1
    rw [← hra] at hfin
    have hnum := fNum (w.heap.size + 1) 0 b 0 0 16 W1 hR1 (Nat.zero_le _) (by omega) (by omega)
    generalize rdrStep (0 : Int) (upR (numR (b.data.toList.drop 0) 16 21)) 0 0 = R0 at hnum hrk
    obtain ⟨v, p0, e0⟩ := R0
    simp only at hrk
    rw [hrk] at hra hki
    have hv : 0 ≤ v ∧ v ≤ 16 := hki.2
    have hinv0 : ReadInv b (Mg.none v, p0, e0) := hki.1
    have hra : rreadAll b = (rword v).foldl (fun s c => rread b c s) (Mg.none v, p0, e0) := hra
    have HV := Lib.hid (i64_of hv.1 (by omega))
    have HN := Lib.hid hnum
    have HRA := Lib.hid hra
    have HD := Lib.hid hdec
    have HFI := Lib.hid hfin
    clear hnum hra hki hrk hdec hfin
    go_enter Tryz.func11, Tryz.ntmps11
    go_wp2_with fail
    rw [← HW1.out]
    refine HN.out.mono ?_
    rintro x w2 ⟨rfl, hR2, hg2⟩
    simp only at hR2
    have hz2 : Ms w2 w.heap.size (Mg.none 0) := Cells.grown hz1 hg2.1 (by intro he; injection he with he; omega)
    have hb2 : Below w.heap.size w w2 := hb1.trans (below_of_only hg2.1 (by omega) hb1.size)
    have hgm : w.heap.size ≤ w2.heap.size := hb2.size
    have hgr2 : w.heap.size + 1 < w2.heap.size := hR2.lt
    go_wp2_with fail
    try rw [HV.out]
    refine (rNamed_any v _).mono ?_
    rintro x w3 ⟨rfl, hb3⟩
    have hm3 : Ms w3 w2.heap.size (Mg.none v) := (Cells.newAt w2 27 (Mg.none v).cells _ rfl).keep hb3
    have hR3 : Ref w3 (w.heap.size + 1) 0 b p0 e0 (fa e0 p0) := (hR2.alloc _).keep hb3
    have hz3 : Ms w3 w.heap.size (Mg.none 0) := (Cells.alloc hz2 _).keep hb3
    have hbw3 : Below w.heap.size w w3 := (hb2.alloc hgm _).trans (hb3.mono (by simp; omega))
    have hra := HRA.out
    have hlen := rword_len v
    have hmem := rword_mem v
    generalize rword v = L at hra hlen hmem ⊢
    generalize hgr : w.heap.size + 1 = gr at hR3 ⊢
    generalize hgm2 : w2.heap.size = gm at hm3 hgr2 hgm ⊢
    have HNE := Lib.hid (show gm ≠ gr ∧ w.heap.size ≠ gr ∧ w.heap.size ≤ gr ∧ w.heap.size ≠ gm ∧ w.heap.size ≤ gm from ⟨by omega, by omega, by omega, by omega, by omega⟩)
    have HRA2 := Lib.hid hra
    have HMEM := Lib.hid hmem
    have HINV := Lib.hid fun j => rfold_inv hb (L.take j) (Mg.none v, p0, e0) hinv0
    have HM3 := Lib.hid (And.intro hm3 (And.intro hR3 (And.intro hz3 hbw3)))
    clear hra hmem hR1 hR2 hz hz1 hz2 hb1 hb2 hg2 hb3 hm3 hR3 hz3 hbw3 hgr hgm2 hgr2 hgm HRA HN HS HS1 HW1 HW hBW
    go_wp2_with fail
    go_loopw [7] (fun i wx => ∃ j : Nat, j ≤ L.length ∧ i = .int .i64 (j : Int) ∧ Ms wx gm ((L.take j).foldl (fun s c => rread b c s) (Mg.none v, p0, e0)).1 ∧ Ref wx gr 0 b ((L.take j).foldl (fun s c => rread b c s) (Mg.none v, p0, e0)).2.1 ((L.take j).foldl (fun s c => rread b c s) (Mg.none v, p0, e0)).2.2 (fa ((L.take j).foldl (fun s c => rread b c s) (Mg.none v, p0, e0)).2.2 ((L.take j).foldl (fun s c => rread b c s) (Mg.none v, p0, e0)).2.1)
        ∧ Ms wx w.heap.size (Mg.none 0) ∧ Below w.heap.size w wx) (fun i _ => L.length - (intOf i).toNat)
    case atStart => exact ⟨0, Nat.zero_le _, rfl, HM3.out.1, HM3.out.2.1, HM3.out.2.2.1, HM3.out.2.2.2⟩
    case round =>
      obtain ⟨j, hj, rfl, hmr, hRr, hzr, hbr⟩ := hrel
      by_cases hlt : j < L.length
      · have hst : (L.take (j + 1)).foldl (fun s c => rread b c s) (Mg.none v, p0, e0) = rread b (L[j]) ((L.take j).foldl (fun s c => rread b c s) (Mg.none v, p0, e0)) := by
          rw [List.take_succ_eq_append_getElem hlt, List.foldl_append]
          rfl
        have hinv := HINV.out j
        generalize (L.take j).foldl (fun s c => rread b c s) (Mg.none v, p0, e0) = S at hst hmr hRr hinv
        obtain ⟨m, p, e⟩ := S
        have hp : p ≤ b.size := hinv.2
        simp only at hmr hRr
        have hin := HMEM.out (L[j]) (List.getElem_mem hlt)
        have hix : ∀ wx : World, (Instr.index 9 (.string (str L)) (.int .i64 (j : Int))).run Tryz.prog wx = .ok (.int .u8 ((L[j]).toNat : Int)) wx := fun wx => str_index wx Tryz.underlying9 L j hlt
        have hsz : (j : Int) < ((str L).size : Int) := by rw [str_size]; omega
        have t1 : decide ((j : Int) < ((str L).size : Int)) = true := decide_eq_true hsz
        generalize hc0 : L[j] = c at hst hin hix
        have HST := Lib.hid hst
        have HMR := Lib.hid hmr
        have HRR := Lib.hid hRr
        have HZR := Lib.hid hzr
        have HBR := Lib.hid hbr
        clear hc0 hst hinv hmr hRr hzr hbr
        rcases hin with rfl | rfl | rfl | rfl | rfl | rfl | rfl | rfl | rfl | rfl
        · have HST2 : Hid ((L.take (j + 1)).foldl (fun s c => rread b c s) (Mg.none v, p0, e0) = (m, p, e)) := Lib.hid HST.out
          go_wp2
          refine ⟨⟨j + 1, by omega, by go_num, ?_, ?_, HZR.out, HBR.out⟩, by simp [intOf]; omega⟩
          · rw [HST2.out]; exact HMR.out
          · rw [HST2.out]; exact HRR.out
        · have hc1 := fNum gr 0 b p e 1099511627776 wr HRR.out hp (by omega) (by omega)
          have hbd := num_bd (l := b.data.toList.drop p) (most := 1099511627776) (p := p) (e := e) (over := 21)
          have hst : (L.take (j + 1)).foldl (fun s c => rread b c s) (Mg.none v, p0, e0) = (m.setInt (rdrStep (0 : Int) (upR (numR (b.data.toList.drop p) 1099511627776 21)) p e).1 1, (rdrStep (0 : Int) (upR (numR (b.data.toList.drop p) 1099511627776 21)) p e).2) := HST.out
          generalize rdrStep (0 : Int) (upR (numR (b.data.toList.drop p) 1099511627776 21)) p e = R1 at hc1 hbd hst
          obtain ⟨v1, p1, e1⟩ := R1
          have hv1 : 0 ≤ v1 := hbd.1
          have hv2 : v1 ≤ 1099511627776 := hbd.2
          have HV1 := Lib.hid (i64_of hbd.1 (by have := hbd.2; simp only at this ⊢; omega))
          have HC1 := Lib.hid hc1
          have HST2 := Lib.hid hst
          clear hc1 hbd hst
          go_wp2_with fail
          refine HC1.out.mono ?_
          rintro x w5 ⟨rfl, hR5, hg5⟩
          have HR5 := Lib.hid hR5
          have H5 := Lib.hid (rd_mid HMR.out HZR.out HBR.out hg5.1 HNE.out.1 HNE.out.2.1 HNE.out.2.2.1)
          clear hR5 hg5
          obtain ⟨s0, s1, s2, s3, s4, s5, s6, s7, s8, s9, s10⟩ := H5.out.1.all
          have kf := fun j => Cells.fz H5.out.1 j
          go_wp2
          try rw [HV1.out]
          have HE := Lib.hid (rd_set (m' := m.setInt v1 1) 1 (.int .i64 v1) H5.out.1 H5.out.2.1 H5.out.2.2 HR5.out HNE.out.1 HNE.out.2.2.2.1 HNE.out.2.2.2.2 rfl)
          refine ⟨⟨j + 1, by omega, by go_num, ?_, ?_, HE.out.2.1, HE.out.2.2.1⟩, by simp [intOf]; omega⟩
          · rw [HST2.out]; exact HE.out.1
          · rw [HST2.out]; exact HE.out.2.2.2
        · have hc1 := fNum gr 0 b p e 1099511627776 wr HRR.out hp (by omega) (by omega)
          have hbd := num_bd (l := b.data.toList.drop p) (most := 1099511627776) (p := p) (e := e) (over := 21)
          have hst : (L.take (j + 1)).foldl (fun s c => rread b c s) (Mg.none v, p0, e0) = (m.setInt (rdrStep (0 : Int) (upR (numR (b.data.toList.drop p) 1099511627776 21)) p e).1 2, (rdrStep (0 : Int) (upR (numR (b.data.toList.drop p) 1099511627776 21)) p e).2) := HST.out
          generalize rdrStep (0 : Int) (upR (numR (b.data.toList.drop p) 1099511627776 21)) p e = R1 at hc1 hbd hst
          obtain ⟨v1, p1, e1⟩ := R1
          have hv1 : 0 ≤ v1 := hbd.1
          have hv2 : v1 ≤ 1099511627776 := hbd.2
          have HV1 := Lib.hid (i64_of hbd.1 (by have := hbd.2; simp only at this ⊢; omega))
          have HC1 := Lib.hid hc1
          have HST2 := Lib.hid hst
          clear hc1 hbd hst
          go_wp2_with fail
          refine HC1.out.mono ?_
          rintro x w5 ⟨rfl, hR5, hg5⟩
          have HR5 := Lib.hid hR5
          have H5 := Lib.hid (rd_mid HMR.out HZR.out HBR.out hg5.1 HNE.out.1 HNE.out.2.1 HNE.out.2.2.1)
          clear hR5 hg5
          obtain ⟨s0, s1, s2, s3, s4, s5, s6, s7, s8, s9, s10⟩ := H5.out.1.all
          have kf := fun j => Cells.fz H5.out.1 j
          go_wp2
          try rw [HV1.out]
          have HE := Lib.hid (rd_set (m' := m.setInt v1 2) 2 (.int .i64 v1) H5.out.1 H5.out.2.1 H5.out.2.2 HR5.out HNE.out.1 HNE.out.2.2.2.1 HNE.out.2.2.2.2 rfl)
          refine ⟨⟨j + 1, by omega, by go_num, ?_, ?_, HE.out.2.1, HE.out.2.2.1⟩, by simp [intOf]; omega⟩
          · rw [HST2.out]; exact HE.out.1
          · rw [HST2.out]; exact HE.out.2.2.2
        · have hc1 := fNum gr 0 b p e 1099511627776 wr HRR.out hp (by omega) (by omega)
          have hbd := num_bd (l := b.data.toList.drop p) (most := 1099511627776) (p := p) (e := e) (over := 21)
          have hst : (L.take (j + 1)).foldl (fun s c => rread b c s) (Mg.none v, p0, e0) = (m.setInt (rdrStep (0 : Int) (upR (numR (b.data.toList.drop p) 1099511627776 21)) p e).1 3, (rdrStep (0 : Int) (upR (numR (b.data.toList.drop p) 1099511627776 21)) p e).2) := HST.out
          generalize rdrStep (0 : Int) (upR (numR (b.data.toList.drop p) 1099511627776 21)) p e = R1 at hc1 hbd hst
          obtain ⟨v1, p1, e1⟩ := R1
          have hv1 : 0 ≤ v1 := hbd.1
          have hv2 : v1 ≤ 1099511627776 := hbd.2
          have HV1 := Lib.hid (i64_of hbd.1 (by have := hbd.2; simp only at this ⊢; omega))
          have HC1 := Lib.hid hc1
          have HST2 := Lib.hid hst
          clear hc1 hbd hst
          go_wp2_with fail
          refine HC1.out.mono ?_
          rintro x w5 ⟨rfl, hR5, hg5⟩
          have HR5 := Lib.hid hR5
          have H5 := Lib.hid (rd_mid HMR.out HZR.out HBR.out hg5.1 HNE.out.1 HNE.out.2.1 HNE.out.2.2.1)
          clear hR5 hg5
          obtain ⟨s0, s1, s2, s3, s4, s5, s6, s7, s8, s9, s10⟩ := H5.out.1.all
          have kf := fun j => Cells.fz H5.out.1 j
          go_wp2
          try rw [HV1.out]
          have HE := Lib.hid (rd_set (m' := m.setInt v1 3) 3 (.int .i64 v1) H5.out.1 H5.out.2.1 H5.out.2.2 HR5.out HNE.out.1 HNE.out.2.2.2.1 HNE.out.2.2.2.2 rfl)
          refine ⟨⟨j + 1, by omega, by go_num, ?_, ?_, HE.out.2.1, HE.out.2.2.1⟩, by simp [intOf]; omega⟩
          · rw [HST2.out]; exact HE.out.1
          · rw [HST2.out]; exact HE.out.2.2.2
        · have hc1 := fNum gr 0 b p e 1099511627776 wr HRR.out hp (by omega) (by omega)
          have hbd := num_bd (l := b.data.toList.drop p) (most := 1099511627776) (p := p) (e := e) (over := 21)
          have hst : (L.take (j + 1)).foldl (fun s c => rread b c s) (Mg.none v, p0, e0) = (m.setInt (rdrStep (0 : Int) (upR (numR (b.data.toList.drop p) 1099511627776 21)) p e).1 4, (rdrStep (0 : Int) (upR (numR (b.data.toList.drop p) 1099511627776 21)) p e).2) := HST.out
          generalize rdrStep (0 : Int) (upR (numR (b.data.toList.drop p) 1099511627776 21)) p e = R1 at hc1 hbd hst
          obtain ⟨v1, p1, e1⟩ := R1
          have hv1 : 0 ≤ v1 := hbd.1
          have hv2 : v1 ≤ 1099511627776 := hbd.2
          have HV1 := Lib.hid (i64_of hbd.1 (by have := hbd.2; simp only at this ⊢; omega))
          have HC1 := Lib.hid hc1
          have HST2 := Lib.hid hst
          clear hc1 hbd hst
          go_wp2_with fail
          refine HC1.out.mono ?_
          rintro x w5 ⟨rfl, hR5, hg5⟩
          have HR5 := Lib.hid hR5
          have H5 := Lib.hid (rd_mid HMR.out HZR.out HBR.out hg5.1 HNE.out.1 HNE.out.2.1 HNE.out.2.2.1)
          clear hR5 hg5
          obtain ⟨s0, s1, s2, s3, s4, s5, s6, s7, s8, s9, s10⟩ := H5.out.1.all
          have kf := fun j => Cells.fz H5.out.1 j
          go_wp2
          try rw [HV1.out]
          have HE := Lib.hid (rd_set (m' := m.setInt v1 4) 4 (.int .i64 v1) H5.out.1 H5.out.2.1 H5.out.2.2 HR5.out HNE.out.1 HNE.out.2.2.2.1 HNE.out.2.2.2.2 rfl)
          refine ⟨⟨j + 1, by omega, by go_num, ?_, ?_, HE.out.2.1, HE.out.2.2.1⟩, by simp [intOf]; omega⟩
          · rw [HST2.out]; exact HE.out.1
          · rw [HST2.out]; exact HE.out.2.2.2
        · have hc1 := fNum gr 0 b p e 1099511627776 wr HRR.out hp (by omega) (by omega)
          have hbd := num_bd (l := b.data.toList.drop p) (most := 1099511627776) (p := p) (e := e) (over := 21)
          have hst : (L.take (j + 1)).foldl (fun s c => rread b c s) (Mg.none v, p0, e0) = (m.setInt (rdrStep (0 : Int) (upR (numR (b.data.toList.drop p) 1099511627776 21)) p e).1 5, (rdrStep (0 : Int) (upR (numR (b.data.toList.drop p) 1099511627776 21)) p e).2) := HST.out
          generalize rdrStep (0 : Int) (upR (numR (b.data.toList.drop p) 1099511627776 21)) p e = R1 at hc1 hbd hst
          obtain ⟨v1, p1, e1⟩ := R1
          have hv1 : 0 ≤ v1 := hbd.1
          have hv2 : v1 ≤ 1099511627776 := hbd.2
          have HV1 := Lib.hid (i64_of hbd.1 (by have := hbd.2; simp only at this ⊢; omega))
          have HC1 := Lib.hid hc1
          have HST2 := Lib.hid hst
          clear hc1 hbd hst
          go_wp2_with fail
          refine HC1.out.mono ?_
          rintro x w5 ⟨rfl, hR5, hg5⟩
          have HR5 := Lib.hid hR5
          have H5 := Lib.hid (rd_mid HMR.out HZR.out HBR.out hg5.1 HNE.out.1 HNE.out.2.1 HNE.out.2.2.1)
          clear hR5 hg5
          obtain ⟨s0, s1, s2, s3, s4, s5, s6, s7, s8, s9, s10⟩ := H5.out.1.all
          have kf := fun j => Cells.fz H5.out.1 j
          go_wp2
          try rw [HV1.out]
          have HE := Lib.hid (rd_set (m' := m.setInt v1 5) 5 (.int .i64 v1) H5.out.1 H5.out.2.1 H5.out.2.2 HR5.out HNE.out.1 HNE.out.2.2.2.1 HNE.out.2.2.2.2 rfl)
          refine ⟨⟨j + 1, by omega, by go_num, ?_, ?_, HE.out.2.1, HE.out.2.2.1⟩, by simp [intOf]; omega⟩
          · rw [HST2.out]; exact HE.out.1
          · rw [HST2.out]; exact HE.out.2.2.2
        · have hc1 := fNum gr 0 b p e 1099511627776 wr HRR.out hp (by omega) (by omega)
          have hbd := num_bd (l := b.data.toList.drop p) (most := 1099511627776) (p := p) (e := e) (over := 21)
          have hst : (L.take (j + 1)).foldl (fun s c => rread b c s) (Mg.none v, p0, e0) = (m.setInt (rdrStep (0 : Int) (upR (numR (b.data.toList.drop p) 1099511627776 21)) p e).1 6, (rdrStep (0 : Int) (upR (numR (b.data.toList.drop p) 1099511627776 21)) p e).2) := HST.out
          generalize rdrStep (0 : Int) (upR (numR (b.data.toList.drop p) 1099511627776 21)) p e = R1 at hc1 hbd hst
          obtain ⟨v1, p1, e1⟩ := R1
          have hv1 : 0 ≤ v1 := hbd.1
          have hv2 : v1 ≤ 1099511627776 := hbd.2
          have HV1 := Lib.hid (i64_of hbd.1 (by have := hbd.2; simp only at this ⊢; omega))
          have HC1 := Lib.hid hc1
          have HST2 := Lib.hid hst
          clear hc1 hbd hst
          go_wp2_with fail
          refine HC1.out.mono ?_
          rintro x w5 ⟨rfl, hR5, hg5⟩
          have HR5 := Lib.hid hR5
          have H5 := Lib.hid (rd_mid HMR.out HZR.out HBR.out hg5.1 HNE.out.1 HNE.out.2.1 HNE.out.2.2.1)
          clear hR5 hg5
          obtain ⟨s0, s1, s2, s3, s4, s5, s6, s7, s8, s9, s10⟩ := H5.out.1.all
          have kf := fun j => Cells.fz H5.out.1 j
          go_wp2
          try rw [HV1.out]
          have HE := Lib.hid (rd_set (m' := m.setInt v1 6) 6 (.int .i64 v1) H5.out.1 H5.out.2.1 H5.out.2.2 HR5.out HNE.out.1 HNE.out.2.2.2.1 HNE.out.2.2.2.2 rfl)
          refine ⟨⟨j + 1, by omega, by go_num, ?_, ?_, HE.out.2.1, HE.out.2.2.1⟩, by simp [intOf]; omega⟩
          · rw [HST2.out]; exact HE.out.1
          · rw [HST2.out]; exact HE.out.2.2.2
        · have hc1 := fNum gr 0 b p e 1099511627776 wr HRR.out hp (by omega) (by omega)
          have hbd := num_bd (l := b.data.toList.drop p) (most := 1099511627776) (p := p) (e := e) (over := 21)
          have hle := rdrStep_le (zero := (0 : Int)) (e := e) hp (fun v k h => num_le (most := 1099511627776) (over := 21) hp h)
          have hst : (L.take (j + 1)).foldl (fun s c => rread b c s) (Mg.none v, p0, e0) = ((fun (r : Int × Nat × Int) => (fun (q : Int × Nat × Int) => ({ m with code := r.1, bits := q.1 }, q.2)) (rdrStep 0 (bitsR (b.data.toList.drop r.2.1)) r.2.1 r.2.2)) (rdrStep (0 : Int) (upR (numR (b.data.toList.drop p) 1099511627776 21)) p e)) := HST.out
          generalize rdrStep (0 : Int) (upR (numR (b.data.toList.drop p) 1099511627776 21)) p e = R1 at hc1 hbd hst hle
          obtain ⟨v1, p1, e1⟩ := R1
          have hc2 := fun wx (hx : Ref wx gr 0 b p1 e1 (fa e1 p1)) => fBits gr 0 b p1 e1 wx hx hle (by omega)
          simp only at hst
          generalize rdrStep (0 : Int) (bitsR (b.data.toList.drop p1)) p1 e1 = R2 at hc2 hst
          obtain ⟨v2, p2, e2⟩ := R2
          have hv1 : 0 ≤ v1 := hbd.1
          have hv2 : v1 ≤ 1099511627776 := hbd.2
          have HV1 := Lib.hid (i64_of hbd.1 (by have := hbd.2; simp only at this ⊢; omega))
          have HC1 := Lib.hid hc1
          have HC2 := Lib.hid hc2
          have HST2 := Lib.hid hst
          clear hc1 hc2 hbd hst hle
          go_wp2_with fail
          refine HC1.out.mono ?_
          rintro x w5 ⟨rfl, hR5, hg5⟩
          have HR5 := Lib.hid hR5
          have H5 := Lib.hid (rd_mid HMR.out HZR.out HBR.out hg5.1 HNE.out.1 HNE.out.2.1 HNE.out.2.2.1)
          clear hR5 hg5
          obtain ⟨s0, s1, s2, s3, s4, s5, s6, s7, s8, s9, s10⟩ := H5.out.1.all
          have kf := fun j => Cells.fz H5.out.1 j
          go_wp2_with fail
          have HE := Lib.hid (rd_set (m' := { m with code := v1 }) 7 (.int .i64 v1) H5.out.1 H5.out.2.1 H5.out.2.2 HR5.out HNE.out.1 HNE.out.2.2.2.1 HNE.out.2.2.2.2 rfl)
          try rw [HV1.out]
          refine (HC2.out _ HE.out.2.2.2).mono ?_
          rintro x w6 ⟨rfl, hR6, hg6⟩
          have HR6 := Lib.hid hR6
          have H6 := Lib.hid (rd_mid HE.out.1 HE.out.2.1 HE.out.2.2.1 hg6.1 HNE.out.1 HNE.out.2.1 HNE.out.2.2.1)
          clear hR6 hg6 s0 s1 s2 s3 s4 s5 s6 s7 s8 s9 s10 kf
          obtain ⟨s0, s1, s2, s3, s4, s5, s6, s7, s8, s9, s10⟩ := H6.out.1.all
          have kf := fun j => Cells.fz H6.out.1 j
          go_wp2
          have HE2 := Lib.hid (rd_set (m' := { m with code := v1, bits := v2 }) 8 (.int .u64 v2) H6.out.1 H6.out.2.1 H6.out.2.2 HR6.out HNE.out.1 HNE.out.2.2.2.1 HNE.out.2.2.2.2 rfl)
          refine ⟨⟨j + 1, by omega, by go_num, ?_, ?_, HE2.out.2.1, HE2.out.2.2.1⟩, by simp [intOf]; omega⟩
          · rw [HST2.out]; exact HE2.out.1
          · rw [HST2.out]; exact HE2.out.2.2.2
        · have hc1 := fText gr 0 b p e 2048 wr HRR.out hp (by omega) (by omega)
          have hst : (L.take (j + 1)).foldl (fun s c => rread b c s) (Mg.none v, p0, e0) = (m.setStr (rdrStep (⟨#[]⟩ : ByteArray) (textR (b.data.toList.drop p) 2048) p e).1 9, (rdrStep (⟨#[]⟩ : ByteArray) (textR (b.data.toList.drop p) 2048) p e).2) := HST.out
          rw [show (2048 : Int).toNat = 2048 from rfl] at hc1
          generalize rdrStep (⟨#[]⟩ : ByteArray) (textR (b.data.toList.drop p) 2048) p e = R1 at hc1 hst
          obtain ⟨v1, p1, e1⟩ := R1
          have HC1 := Lib.hid hc1
          have HST2 := Lib.hid hst
          clear hc1 hst
          go_wp2_with fail
          refine HC1.out.mono ?_
          rintro x w5 ⟨rfl, hR5, hg5⟩
          have HR5 := Lib.hid hR5
          have H5 := Lib.hid (rd_mid HMR.out HZR.out HBR.out hg5.1 HNE.out.1 HNE.out.2.1 HNE.out.2.2.1)
          clear hR5 hg5
          obtain ⟨s0, s1, s2, s3, s4, s5, s6, s7, s8, s9, s10⟩ := H5.out.1.all
          have kf := fun j => Cells.fz H5.out.1 j
          go_wp2
          have HE := Lib.hid (rd_set (m' := m.setStr v1 9) 9 (.string v1) H5.out.1 H5.out.2.1 H5.out.2.2 HR5.out HNE.out.1 HNE.out.2.2.2.1 HNE.out.2.2.2.2 rfl)
          refine ⟨⟨j + 1, by omega, by go_num, ?_, ?_, HE.out.2.1, HE.out.2.2.1⟩, by simp [intOf]; omega⟩
          · rw [HST2.out]; exact HE.out.1
          · rw [HST2.out]; exact HE.out.2.2.2
        · have hc1 := fText gr 0 b p e 2048 wr HRR.out hp (by omega) (by omega)
          have hst : (L.take (j + 1)).foldl (fun s c => rread b c s) (Mg.none v, p0, e0) = (m.setStr (rdrStep (⟨#[]⟩ : ByteArray) (textR (b.data.toList.drop p) 2048) p e).1 10, (rdrStep (⟨#[]⟩ : ByteArray) (textR (b.data.toList.drop p) 2048) p e).2) := HST.out
          rw [show (2048 : Int).toNat = 2048 from rfl] at hc1
          generalize rdrStep (⟨#[]⟩ : ByteArray) (textR (b.data.toList.drop p) 2048) p e = R1 at hc1 hst
          obtain ⟨v1, p1, e1⟩ := R1
          have HC1 := Lib.hid hc1
          have HST2 := Lib.hid hst
          clear hc1 hst
          go_wp2_with fail
          refine HC1.out.mono ?_
          rintro x w5 ⟨rfl, hR5, hg5⟩
          have HR5 := Lib.hid hR5
          have H5 := Lib.hid (rd_mid HMR.out HZR.out HBR.out hg5.1 HNE.out.1 HNE.out.2.1 HNE.out.2.2.1)
          clear hR5 hg5
          obtain ⟨s0, s1, s2, s3, s4, s5, s6, s7, s8, s9, s10⟩ := H5.out.1.all
          have kf := fun j => Cells.fz H5.out.1 j
          go_wp2
          have HE := Lib.hid (rd_set (m' := m.setStr v1 10) 10 (.string v1) H5.out.1 H5.out.2.1 H5.out.2.2 HR5.out HNE.out.1 HNE.out.2.2.2.1 HNE.out.2.2.2.2 rfl)
          refine ⟨⟨j + 1, by omega, by go_num, ?_, ?_, HE.out.2.1, HE.out.2.2.1⟩, by simp [intOf]; omega⟩
          · rw [HST2.out]; exact HE.out.1
          · rw [HST2.out]; exact HE.out.2.2.2
      · have hjl : j = L.length := by omega
        subst hjl
        have hsz : ¬ (L.length : Int) < ((str L).size : Int) := by rw [str_size]; omega
        have t1 : decide ((L.length : Int) < ((str L).size : Int)) = false := decide_eq_false hsz
        rw [List.take_of_length_le (Nat.le_refl _), ← HRA2.out] at hmr hRr
        have hfin := HFI.out
        have hdec := HD.out
        generalize rreadAll b = S at hmr hRr hfin hdec
        obtain ⟨m, p, e⟩ := S
        simp only at hmr hRr hdec
        have hend := fun wx (hx : Ref wx gr 0 b p e (fa e p)) => fEnd gr 0 b p e wx hx
        generalize endE b p e = E at hend hdec
        have hchk := fun wx => rCheck_any m wx hfin.1
        rw [rcheck_eq] at hchk
        generalize hC : m.check = C at hchk hdec
        clear hC
        have HC := Lib.hid hchk
        have HDEC := Lib.hid hdec
        have HEND := Lib.hid hend
        have HRR := Lib.hid hRr
        clear hchk hdec hend hRr
        go_wp2_with fail
        refine (HEND.out _ HRR.out).mono ?_
        rintro x wy ⟨rfl, n1, rfl⟩
        have hmy : Ms (wr.drewN n1) gm m := hmr
        have hzy : Ms (wr.drewN n1) w.heap.size (Mg.none 0) := hzr
        have hby : Below w.heap.size w (wr.drewN n1) := below_drewN hbr n1
        clear hmr hzr hbr HRR
        generalize wr.drewN n1 = wy at hmy hzy hby ⊢
        obtain ⟨z0, z1, z2, z3, z4, z5, z6, z7, z8, z9, z10⟩ := Ms.all hzy
        have zf := fun j => Cells.fz hzy j
        obtain ⟨k0, k1, k2, k3, k4, k5, k6, k7, k8, k9, k10⟩ := Ms.all hmy
        by_cases hE : E = 0
        · subst hE
          go_wp2_with fail
          refine (HC.out _).mono ?_
          rintro x wq ⟨rfl, hbq⟩
          have hmq : Ms wq gm m := Cells.keep hmy hbq
          have hzq : Ms wq w.heap.size (Mg.none 0) := Cells.keep hzy hbq
          have hbyq : Below w.heap.size w wq := hby.trans (hbq.mono hby.size)
          clear z0 z1 z2 z3 z4 z5 z6 z7 z8 z9 z10 zf k0 k1 k2 k3 k4 k5 k6 k7 k8 k9 k10
          obtain ⟨z0, z1, z2, z3, z4, z5, z6, z7, z8, z9, z10⟩ := Ms.all hzq
          have zf := fun j => Cells.fz hzq j
          obtain ⟨k0, k1, k2, k3, k4, k5, k6, k7, k8, k9, k10⟩ := Ms.all hmq
          by_cases hC0 : C = 0
          · subst hC0
            go_wp2
            generalize hW3 : World.setCell _ _ _ = W3
            have hfin3 : Ms W3 w.heap.size (m) := by
              rw [← hW3]
              exact Ms.stored hzq (m)
            have hb3' : Below w.heap.size w W3 := by
              rw [← hW3]
              iterate 11 (refine below_setAt ?_ (Nat.le_refl _))
              exact hbyq
            exact dec_ret rfl rfl rfl hfin3 rfl ⟨by rw [HDEC.out, if_neg (by simp)]; rfl, hb3'⟩
          · have t2 : (C != 0) = true := by rw [bne_iff_ne]; exact hC0
            have HCC := Lib.hid hC0
            clear hC0
            go_wp2
            generalize hW3 : World.setCell _ _ _ = W3
            have hfin3 : Ms W3 w.heap.size (Mg.none 0) := by
              rw [← hW3]
              exact Ms.storedNone hzq
            have hb3' : Below w.heap.size w W3 := by
              rw [← hW3]
              iterate 11 (refine below_setAt ?_ (Nat.le_refl _))
              exact hbyq
            exact dec_ret rfl rfl rfl hfin3 rfl ⟨by rw [HDEC.out, if_pos (.inr HCC.out)]; rfl, hb3'⟩
        · have t2 : (E != 0) = true := by rw [bne_iff_ne]; exact hE
          have HEE := Lib.hid hE
          clear hE
          go_wp2
          generalize hW3 : World.setCell _ _ _ = W3
          have hfin3 : Ms W3 w.heap.size (Mg.none 0) := by
            rw [← hW3]
            exact Ms.storedNone hzy
          have hb3' : Below w.heap.size w W3 := by
            rw [← hW3]
            iterate 11 (refine below_setAt ?_ (Nat.le_refl _))
            exact hby
          exact dec_ret rfl rfl rfl hfin3 rfl ⟨by rw [HDEC.out, if_pos (.inl HEE.out)]; rfl, hb3'⟩
end Go.Proofs.YtpnfdmglhonkmaaGreat
