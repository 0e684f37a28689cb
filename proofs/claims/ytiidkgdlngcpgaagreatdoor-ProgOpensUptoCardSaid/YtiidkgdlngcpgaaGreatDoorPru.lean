/- The document's Unpack (contract): the program of bytes. -/
import Derived.RangeFuncBox
import Derived.Test.YtiidkgdlngcpgaaGreatDoorPu
import Derived.Test.YtiidkgdlngcpgaaGreatDoorPx
import Derived.Test.YtiidkgdlngcpgaaGreatDoorRf
set_option maxRecDepth 100000
namespace Go.Proofs.YtiidkgdlngcpgaaGreatDoor
open Go.RowKit Ieee

/-- the document's reader in a block of its own -/
def RdF (w : World) (g : Nat) (S : ByteArray) (p : Nat) (e : Int) : Prop := Cells w g 87 #[.string S, .int .i64 (p : Int), .int .i64 e, .int .i64 (fa e p)]
theorem RdF.ref {w : World} {g : Nat} {S : ByteArray} {p : Nat} {e : Int} (h : RdF w g S p e) : Ref w g 0 S p e (fa e p) := ⟨_, _, h, rfl, rfl, rfl, rfl⟩
theorem rdf_of {w w' : World} {g : Nat} {S S' : ByteArray} {p p' : Nat} {e e' : Int} (h : RdF w g S p e) (ho : Only4 w w' g 0) (hr : Ref w' g 0 S' p' e' (fa e' p')) : RdF w' g S' p' e' := by
  obtain ⟨cur', h', hs, _⟩ := ho.2 _ _ h
  obtain ⟨cur, E, hh, h0, h1, h2, h3⟩ := hr
  rw [h'] at hh
  injection hh with hh
  injection hh with e1 e2
  subst e1
  unfold RdF Cells
  rw [h']
  congr 2
  apply Array.ext_getElem?
  intro i
  rcases i with _ | _ | _ | _ | i
  · exact h0
  · exact h1
  · exact h2
  · exact h3
  · rw [Array.getElem?_eq_none (by rw [hs]; simp), Array.getElem?_eq_none (by simp)]
theorem only4_turns {g : Nat} {a w : World} (h : Only4 a w g 0) : Turns [g] a w := Turns.of_only h.1
theorem rd_fault {L : List UInt8} {m i p : Nat} {s1 : Nat × Int} {e : Int} {acc : List Ins} (h : RdInv L m s1 acc i (p, e)) (he : e ≠ 0) : (readC L m s1).2.2 ≠ 0 := by
  rw [h.1]
  intro h2
  exact he (readC_fault _ _ _ h2)
theorem regY_set3 (L : List UInt8) (s : Nat × Int) (i : Nat) (hi : i < 3) (u : Nat) (hu : (rn L 7 (regS L s i)).1 = (u : Int)) :
    (#[.int .i64 (regY L s i 0), .int .i64 (regY L s i 1), .int .i64 (regY L s i 2)] : Array Value).setIfInBounds i (.int .i64 (u : Nat)) = #[.int .i64 (regY L s (i + 1) 0), .int .i64 (regY L s (i + 1) 1), .int .i64 (regY L s (i + 1) 2)] := by
  rw [← hu]
  rcases i with _ | _ | _ | i
  · simp [regY]
  · simp [regY]
  · simp [regY]
  · omega
theorem regY_zero3 (L : List UInt8) (s : Nat × Int) : (#[.int .i64 (regY L s 0 0), .int .i64 (regY L s 0 1), .int .i64 (regY L s 0 2)] : Array Value) = #[.int .i64 0, .int .i64 0, .int .i64 0] := by simp [regY]
theorem unpack_len {L : List UInt8} {er : Int} {F : Nat} {acc : List Ins} (h : unpackP L = (er, F, acc)) : acc.length < 1073741820 := by
  by_cases he : er = 0
  · subst he
    have h2 := unpack_back h
    have h3 := progCheck_ok h2.2.1
    omega
  · have : acc = [] := by
      unfold unpackP at h
      split at h
      · injection h with h1 h2; injection h2 with h2 h3; exact h3.symm
      · dsimp only at h
        split at h
        · injection h with h1 h2; exact absurd h1.symm he
        · injection h with h1 h2; injection h2 with h2 h3; exact h3.symm
    rw [this]; decide
theorem unpack_ks {L : List UInt8} {er : Int} {F : Nat} {acc : List Ins} (h : unpackP L = (er, F, acc)) : ∀ x ∈ acc, x.k < 2 * signB := by
  by_cases he : er = 0
  · subst he
    exact (unpack_back h).2.2.1
  · have : acc = [] := by
      unfold unpackP at h
      split at h
      · injection h with h1 h2; injection h2 with h2 h3; exact h3.symm
      · dsimp only at h
        split at h
        · injection h with h1 h2; exact absurd h1.symm he
        · injection h with h1 h2; injection h2 with h2 h3; exact h3.symm
    rw [this]; intro x hx; cases hx

set_option maxHeartbeats 8000000 in
set_option maxRecDepth 100000 in
theorem runpack_any (L : List UInt8) (hl : L.length < 4294967296) (w : World) : Calls Tryz.prog 24 #[.string (str L)] w (UnpackOut w L) := by
  have hsz : (str L).size = L.length := str_size L
  have HX0 := Lib.hid (Cells.new w 24 #[.int .i64 0, .slice none 0 0])
  have HB0 := Lib.hid ((Below.refl w.heap.size w).alloc (Nat.le_refl _) (.cells #[.int .i64 0, .slice none 0 0] 24))
  by_cases hbig : 1024 < L.length
  · have hu : unpackP L = (57, 0, []) := by unfold unpackP; rw [if_pos hbig]
    have HU := Lib.hid hu
    have t1 : (1024 : Int) < ((str L).size : Int) := by omega
    generalize str L = S at *
    clear hu hbig hsz hl
    have c0 := HX0.out.cell (j := 0) rfl
    have c1 := HX0.out.cell (j := 1) rfl
    have z0 := HX0.out.fz 0
    have z1 := HX0.out.fz 1
    go_enter Tryz.func24, Tryz.ntmps24
    go_wp2
    exact ret_prog rfl rfl rfl HX0.out rfl (uo_bad HU.out HB0.out)
  have t1 : ¬ (1024 : Int) < ((str L).size : Int) := by omega
  have hnum : ∀ (W : World) (g p most : Nat) (e : Int), RdF W g (str L) p e → p ≤ L.length → most < 18446744073709551616 → Calls Tryz.prog 54 #[.pointer (some ⟨g, 0, none⟩), .int .u64 (most : Int)] W fun x w' => ∃ (n q : Nat) (f : Int), x = .returned (.int .u64 (n : Nat)) ∧ rn L most (p, e) = ((n : Int), q, f) ∧ n ≤ most ∧ q ≤ L.length ∧ RdF w' g (str L) q f ∧ Turns [g] W w' := fun W g p most e hR hp hm => by
    obtain ⟨n, q, f, h1, h2, _, h4⟩ := rn_told (L := L) (most := most) (e := e) hp
    have k := fNum g 0 (str L) p e most W hR.ref (by rw [hsz]; exact hp) (by rw [hsz]; exact hl) hm
    rw [str_back] at k
    refine k.mono ?_
    rintro x w' ⟨k1, k2, k3⟩
    have e1 : rdrStep 0 (upR (numR (L.drop p) most 21)) p e = ((n : Int), q, f) := h1
    rw [e1] at k1 k2
    exact ⟨n, q, f, k1, h1, h2, h4, rdf_of hR k3 k2, only4_turns k3⟩
  have hlist : ∀ (W : World) (g p : Nat) (e : Int), RdF W g (str L) p e → p ≤ L.length → Calls Tryz.prog 55 #[.pointer (some ⟨g, 0, none⟩), .int .i64 64] W fun x w' => ∃ (n q : Nat) (f : Int), x = .returned (.int .i64 (n : Nat)) ∧ rl L 64 (p, e) = ((n : Int), q, f) ∧ n ≤ 64 ∧ q ≤ L.length ∧ RdF w' g (str L) q f ∧ Turns [g] W w' := fun W g p e hR hp => by
    obtain ⟨n, q, f, h1, h2, h4⟩ := rl_told (L := L) (most := 64) (e := e) hp
    have k := fList g 0 (str L) p e 64 W hR.ref (by rw [hsz]; exact hp) (by rw [hsz]; exact hl) (by decide)
    rw [str_back] at k
    refine k.mono ?_
    rintro x w' ⟨k1, k2, k3⟩
    have e1 : rdrStep 0 (upR (numR (L.drop p) (64 : Int).toNat 23)) p e = ((n : Int), q, f) := h1
    rw [e1] at k1 k2
    exact ⟨n, q, f, k1, h1, h2, h4, rdf_of hR k3 k2, only4_turns k3⟩
  have hbits : ∀ (W : World) (g p : Nat) (e : Int), RdF W g (str L) p e → p ≤ L.length → Calls Tryz.prog 56 #[.pointer (some ⟨g, 0, none⟩)] W fun x w' => ∃ (n q : Nat) (f : Int), x = .returned (.int .u64 (n : Nat)) ∧ rb L (p, e) = ((n : Int), q, f) ∧ n < 18446744073709551616 ∧ q ≤ L.length ∧ RdF w' g (str L) q f ∧ Turns [g] W w' := fun W g p e hR hp => by
    obtain ⟨n, q, f, h1, h2, h4⟩ := rb_told (L := L) (e := e) hp
    have k := fBits g 0 (str L) p e W hR.ref (by rw [hsz]; exact hp) (by rw [hsz]; exact hl)
    rw [str_back] at k
    refine k.mono ?_
    rintro x w' ⟨k1, k2, k3⟩
    have e1 : rdrStep 0 (bitsR (L.drop p)) p e = ((n : Int), q, f) := h1
    rw [e1] at k1 k2
    exact ⟨n, q, f, k1, h1, h2, h4, rdf_of hR k3 k2, only4_turns k3⟩
  have hend : ∀ (W : World) (g p : Nat) (e : Int), RdF W g (str L) p e → Calls Tryz.prog 57 #[.pointer (some ⟨g, 0, none⟩)] W fun x w' => (∃ pp : Int, x = .returned (.tuple #[.int .i64 (if e = 0 ∧ p < L.length then 24 else e), .int .i64 pp])) ∧ ∃ n, w' = W.drewN n := fun W g p e hR => by
    refine (fEnd g 0 (str L) p e W hR.ref).mono ?_
    rintro x w' ⟨rfl, n, rfl⟩
    unfold endE
    rw [hsz]
    exact ⟨⟨_, rfl⟩, n, rfl⟩
  have K1024 : Hid (∀ (W : World) (g p : Nat) (e : Int), RdF W g (str L) p e → p ≤ L.length → Calls Tryz.prog 54 #[.pointer (some ⟨g, 0, none⟩), .int .u64 1024] W fun x w' => ∃ (n q : Nat) (f : Int), x = .returned (.int .u64 (n : Nat)) ∧ rn L 1024 (p, e) = ((n : Int), q, f) ∧ n ≤ 1024 ∧ q ≤ L.length ∧ RdF w' g (str L) q f ∧ Turns [g] W w') := Lib.hid fun W g p e h1 h2 => hnum W g p 1024 e h1 h2 (by decide)
  have K24 : Hid (∀ (W : World) (g p : Nat) (e : Int), RdF W g (str L) p e → p ≤ L.length → Calls Tryz.prog 54 #[.pointer (some ⟨g, 0, none⟩), .int .u64 24] W fun x w' => ∃ (n q : Nat) (f : Int), x = .returned (.int .u64 (n : Nat)) ∧ rn L 24 (p, e) = ((n : Int), q, f) ∧ n ≤ 24 ∧ q ≤ L.length ∧ RdF w' g (str L) q f ∧ Turns [g] W w') := Lib.hid fun W g p e h1 h2 => hnum W g p 24 e h1 h2 (by decide)
  have K7 : Hid (∀ (W : World) (g p : Nat) (e : Int), RdF W g (str L) p e → p ≤ L.length → Calls Tryz.prog 54 #[.pointer (some ⟨g, 0, none⟩), .int .u64 7] W fun x w' => ∃ (n q : Nat) (f : Int), x = .returned (.int .u64 (n : Nat)) ∧ rn L 7 (p, e) = ((n : Int), q, f) ∧ n ≤ 7 ∧ q ≤ L.length ∧ RdF w' g (str L) q f ∧ Turns [g] W w') := Lib.hid fun W g p e h1 h2 => hnum W g p 7 e h1 h2 (by decide)
  have K64 : Hid (∀ (W : World) (g p : Nat) (e : Int), RdF W g (str L) p e → p ≤ L.length → Calls Tryz.prog 54 #[.pointer (some ⟨g, 0, none⟩), .int .u64 64] W fun x w' => ∃ (n q : Nat) (f : Int), x = .returned (.int .u64 (n : Nat)) ∧ rn L 64 (p, e) = ((n : Int), q, f) ∧ n ≤ 64 ∧ q ≤ L.length ∧ RdF w' g (str L) q f ∧ Turns [g] W w') := Lib.hid fun W g p e h1 h2 => hnum W g p 64 e h1 h2 (by decide)
  have KL := Lib.hid hlist
  have KB := Lib.hid hbits
  have KE := Lib.hid hend
  have HU : Hid (∀ (F q0 : Nat) (f0 : Int) (m q1 : Nat) (f1 : Int) (acc : List Ins) (p : Nat) (e : Int), rn L 1024 (0, 0) = ((F : Int), q0, f0) → rl L 64 (q0, f0) = ((m : Int), q1, f1) → readC L m (q1, f1) = (acc, (p, e)) → unpackP L = if e = 0 ∧ ¬ p < L.length ∧ (progCheck (F : Int) acc).1 = 0 then (0, F, acc) else (54, 0, [])) := Lib.hid fun F q0 f0 m q1 f1 acc p e h1 h2 h3 => by
    unfold unpackP
    rw [if_neg hbig]
    simp only [h1, h2, Int.toNat_natCast, h3]
  obtain ⟨S, hS⟩ : ∃ S, str L = S := ⟨_, rfl⟩
  rw [hS] at K1024 K24 K7 K64 KL KB KE t1 ⊢
  clear hnum hlist hbits hend hbig hsz hl hS
  obtain ⟨i0, hi, hz0, hz1, hz2⟩ := info_parts ins_info
  go_enter Tryz.func24, Tryz.ntmps24
  go_upto_region 1 with fail
  generalize w.alloc (.cells #[.int .i64 0, .slice none 0 0] 24) = w0 at *
  go_upto_region 4 with fail
  have HR1 : Hid (RdF (w0.alloc (.cells #[.string S, .int .i64 0, .int .i64 0, .int .i64 0] 87)) w0.heap.size S 0 0) := Lib.hid (Cells.new w0 87 #[.string S, .int .i64 0, .int .i64 0, .int .i64 0])
  have HX1 := Lib.hid (HX0.out.alloc (.cells #[.string S, .int .i64 0, .int .i64 0, .int .i64 0] 87))
  have HB1 := Lib.hid (HB0.out.alloc HB0.out.size (.cells #[.string S, .int .i64 0, .int .i64 0, .int .i64 0] 87))
  have HGN := Lib.hid (show w.heap.size < w0.heap.size from HX0.out.lt)
  clear t1 HX0 HB0
  generalize w0.alloc (.cells #[.string S, .int .i64 0, .int .i64 0, .int .i64 0] 87) = w1 at *
  generalize w0.heap.size = G at *
  clear w0
  have k0 := K1024.out w1 G 0 0 HR1.out (Nat.zero_le _)
  clear K1024
  go_upto_region 5 with (go_at_call 54; refine k0.mono ?_; rintro _ w2 ⟨F, q0, f0, rfl, hF, hF2, hq0, hr2, hg2⟩; have HF := Lib.hid hF; have HQ0 := Lib.hid hq0; have HR2 := Lib.hid hr2; have HX2 := Lib.hid (HX1.out.turns hg2 (by simpa using Nat.ne_of_lt HGN.out)); have HB2 := Lib.hid (HB1.out.trans (hg2.below HB1.out.size (by simpa using Nat.le_of_lt HGN.out))); have huf := wrap_id (n := F) (by omega); clear k0 hF hF2 hq0 hr2 hg2)
  have HP3 := Lib.hid (Cells.new w2 24 #[.int .i64 (F : Nat), .slice none 0 0])
  have HR3 : Hid (RdF (w2.alloc (.cells #[.int .i64 (F : Nat), .slice none 0 0] 24)) G S q0 f0) := Lib.hid (Cells.alloc HR2.out (.cells #[.int .i64 (F : Nat), .slice none 0 0] 24))
  have HX3 := Lib.hid (HX2.out.alloc (.cells #[.int .i64 (F : Nat), .slice none 0 0] 24))
  have HB3 := Lib.hid (HB2.out.alloc HB2.out.size (.cells #[.int .i64 (F : Nat), .slice none 0 0] 24))
  have HGP := Lib.hid (show G < w2.heap.size from Cells.lt HR2.out)
  clear HR1 HX1 HB1 HR2 HX2 HB2 huf
  generalize w2.alloc (.cells #[.int .i64 (F : Nat), .slice none 0 0] 24) = w3 at *
  generalize w2.heap.size = PB at *
  clear w1 w2
  have k1 := KL.out w3 G q0 f0 HR3.out HQ0.out
  clear KL
  go_wp2_with (go_at_call 55; refine k1.mono ?_; rintro _ w4 ⟨m, q1, f1, rfl, hm, hm64, hq1, hr4, hg4⟩; have HM := Lib.hid hm; have HM64 := Lib.hid hm64; have HQ1 := Lib.hid hq1; have HR4 := Lib.hid hr4; have HX4 := Lib.hid (HX3.out.turns hg4 (by simpa using Nat.ne_of_lt HGN.out)); have HP4 := Lib.hid (HP3.out.turns hg4 (by simpa using Nat.ne_of_gt HGP.out)); have HB4 := Lib.hid (HB3.out.trans (hg4.below HB3.out.size (by simpa using Nat.le_of_lt HGN.out))); clear k1 hm hm64 hq1 hr4 hg4)
  clear HR3 HX3 HP3 HB3 HQ0
  clear w3
  go_loopw [7] (fun iv wr => ∃ (i : Nat) (acc : List Ins) (v : Value) (p : Nat) (e : Int), i ≤ m ∧ iv = .int .i64 (i : Int) ∧ RdF wr G S p e ∧ p ≤ L.length ∧ Cells wr w.heap.size 24 #[.int .i64 0, .slice none 0 0] ∧ Cells wr PB 24 #[.int .i64 (F : Nat), v] ∧ RowI wr w.heap.size v acc ∧ Below w.heap.size w wr ∧ RdInv L m (q1, f1) acc i (p, e)) (fun iv _ => m - (intOf iv).toNat)
  case atStart => exact ⟨0, [], .slice none 0 0, q1, f1, Nat.zero_le _, rfl, HR4.out, HQ1.out, HX4.out, HP4.out, rowI_nil _ _, HB4.out, rd_start _ _ _⟩
  case round =>
    obtain ⟨i, acc, v, p, e, hi2, rfl, hR, hp, hX, hP, hW, hB, hI⟩ := hrel
    have HRr := Lib.hid hR
    have HXr := Lib.hid hX
    have HPr := Lib.hid hP
    have HWr := Lib.hid hW
    have HBr := Lib.hid hB
    have HIr := Lib.hid hI
    have HPl := Lib.hid hp
    have q2c : wr.cell? ⟨G, 2, none⟩ = some (.int .i64 e) := Cells.cell (j := 2) hR rfl
    clear hR hX hP hW hB hI hp HR4 HX4 HP4 HB4
    have HNE : Hid (w.heap.size ≠ G ∧ PB ≠ G ∧ w.heap.size ≠ PB ∧ w.heap.size < G ∧ G < PB) := Lib.hid ⟨Nat.ne_of_lt HGN.out, Nat.ne_of_gt HGP.out, Nat.ne_of_lt (Nat.lt_trans HGN.out HGP.out), HGN.out, HGP.out⟩
    obtain ⟨Av, capv, rfl⟩ := HWr.out.shape
    by_cases hgo : i < m ∧ e = 0
    · obtain ⟨hlt, rfl⟩ := hgo
      have t2 : (i : Int) < m := by omega
      have HLT := Lib.hid hlt
      have HWI := Lib.hid (wrap_up hlt HM64.out)
      have HACC : Hid (acc.length < 1073741824) := Lib.hid (by have := HIr.out.2.2; have := HLT.out; have := HM64.out; omega)
      have k2 := K24.out wr G p 0 HRr.out HPl.out
      clear hlt hi2 K24
      go_upto_region 10 with (go_at_call 54; refine k2.mono ?_; rintro _ w5 ⟨o, q2, f2, rfl, ho, ho24, hq2, hr5, hg5⟩; have HO := Lib.hid ho; have HQ2 := Lib.hid hq2; have HO24 := Lib.hid ho24; have HR5 := Lib.hid hr5; have HT5 := Lib.hid hg5; have huo := wrap_id (n := o) (by omega); clear k2 ho ho24 hq2 hr5 hg5)
      clear huo q2c t2
      have HX5 := Lib.hid (HXr.out.turns HT5.out (by simpa using HNE.out.1))
      have HP5 := Lib.hid (HPr.out.turns HT5.out (by simpa using HNE.out.2.1))
      have HW5 := Lib.hid (HWr.out.turns HT5.out (fun k hk => by simpa using HWr.out.ne (show Cells wr G 87 _ from HRr.out) (by decide) k hk))
      have HB5 := Lib.hid (HBr.out.trans (HT5.out.below HBr.out.size (by simp; exact Nat.le_of_lt HNE.out.2.2.2.1)))
      have HI6 := Lib.hid (Cells.new w5 43 #[.int .i64 (o : Nat), .int .i64 0, .int .i64 0, .int .i64 0, .int .i64 0, .int .u64 0])
      have HR6 : Hid (RdF (w5.alloc (.cells #[.int .i64 (o : Nat), .int .i64 0, .int .i64 0, .int .i64 0, .int .i64 0, .int .u64 0] 43)) G S q2 f2) := Lib.hid (Cells.alloc HR5.out (.cells #[.int .i64 (o : Nat), .int .i64 0, .int .i64 0, .int .i64 0, .int .i64 0, .int .u64 0] 43))
      have HX6 := Lib.hid (HX5.out.alloc (.cells #[.int .i64 (o : Nat), .int .i64 0, .int .i64 0, .int .i64 0, .int .i64 0, .int .u64 0] 43))
      have HP6 := Lib.hid (HP5.out.alloc (.cells #[.int .i64 (o : Nat), .int .i64 0, .int .i64 0, .int .i64 0, .int .i64 0, .int .u64 0] 43))
      have HW6 : Hid (RowI (w5.alloc (.cells #[.int .i64 (o : Nat), .int .i64 0, .int .i64 0, .int .i64 0, .int .i64 0, .int .u64 0] 43)) w.heap.size (.slice Av acc.length capv) acc) := Lib.hid (HW5.out.keep ((Below.refl w5.heap.size w5).alloc (Nat.le_refl _) _))
      have HB6 := Lib.hid (HB5.out.alloc HB5.out.size (.cells #[.int .i64 (o : Nat), .int .i64 0, .int .i64 0, .int .i64 0, .int .i64 0, .int .u64 0] 43))
      have HOWN := Lib.hid (show (∀ k, (Value.slice Av acc.length capv).ownBlock = some k → k < w5.heap.size) ∧ G < w5.heap.size ∧ PB < w5.heap.size ∧ w.heap.size < w5.heap.size from ⟨fun k hk => (World.ownsRow.lt HW5.out k hk).2, Cells.lt HR5.out, HP5.out.lt, HX5.out.lt⟩)
      clear HRr HXr HPr HWr HBr HR5 HT5 HX5 HP5 HW5 HB5
      generalize w5.alloc (.cells #[.int .i64 (o : Nat), .int .i64 0, .int .i64 0, .int .i64 0, .int .i64 0, .int .u64 0] 43) = w6 at *
      generalize w5.heap.size = Gx at *
      clear wr w5
      have o2 : o < 25 := by have := HO24.out; omega
      obtain ⟨r, er⟩ : ∃ r : Nat, opRegs (o : Int) = (r : Int) := ⟨(opRegs (o : Int)).toNat, by have := opRegs_le (o : Int); omega⟩
      have r3 : r ≤ 3 := by have := opRegs_le (o : Int); omega
      have HRB : Hid (readB L (p, 0) = (⟨o, regY L (q2, f2) r 0, regY L (q2, f2) r 1, regY L (q2, f2) r 2, (stepN L (opN (o : Int)) (regS L (q2, f2) r)).1, (stepK L (opK (o : Int)) (stepN L (opN (o : Int)) (regS L (q2, f2) r)).2).1.toNat⟩, (stepK L (opK (o : Int)) (stepN L (opN (o : Int)) (regS L (q2, f2) r)).2).2)) := Lib.hid (readB_told HO.out er r3)
      have HNK := Lib.hid (nk_not (o : Int))
      have kh := fun W => rhas0_any (o := o) o2 W
      rw [er] at kh
      generalize opN (o : Int) = bn at *
      generalize opK (o : Int) = bk at *
      have KH := Lib.hid kh
      clear kh er o2
      have d0 : w6.cell? ⟨Gx, 0, none⟩ = some (.int .i64 (o : Nat)) := HI6.out.cell (j := 0) rfl
      go_upto_region 12 with (go_at_call 47; go_loud (refine (KH.out _).mono ?_); rintro _ w8 ⟨rfl, e8⟩; rw [e8]; clear e8 w8)
      clear KH d0
      have HL7 := Lib.hid (Cells.new w6 76 #[.int .i64 0, .int .i64 0, .int .i64 0])
      have HI7 := Lib.hid (HI6.out.alloc (.cells #[.int .i64 0, .int .i64 0, .int .i64 0] 76))
      have HR7 : Hid (RdF (w6.alloc (.cells #[.int .i64 0, .int .i64 0, .int .i64 0] 76)) G S q2 f2) := Lib.hid (Cells.alloc HR6.out (.cells #[.int .i64 0, .int .i64 0, .int .i64 0] 76))
      have HX7 := Lib.hid (HX6.out.alloc (.cells #[.int .i64 0, .int .i64 0, .int .i64 0] 76))
      have HP7 := Lib.hid (HP6.out.alloc (.cells #[.int .i64 0, .int .i64 0, .int .i64 0] 76))
      have HW7 : Hid (RowI (w6.alloc (.cells #[.int .i64 0, .int .i64 0, .int .i64 0] 76)) w.heap.size (.slice Av acc.length capv) acc) := Lib.hid (HW6.out.keep ((Below.refl w6.heap.size w6).alloc (Nat.le_refl _) _))
      have HB7 := Lib.hid (HB6.out.alloc HB6.out.size (.cells #[.int .i64 0, .int .i64 0, .int .i64 0] 76))
      have HNA := Lib.hid (show Gx < w6.heap.size ∧ G < w6.heap.size ∧ PB < w6.heap.size ∧ w.heap.size < w6.heap.size ∧ (∀ k, (Value.slice Av acc.length capv).ownBlock = some k → k < w6.heap.size) from ⟨HI6.out.lt, Cells.lt HR6.out, HP6.out.lt, HX6.out.lt, fun k hk => (World.ownsRow.lt HW6.out k hk).2⟩)
      clear HI6 HR6 HX6 HP6 HW6 HB6
      generalize w6.alloc (.cells #[.int .i64 0, .int .i64 0, .int .i64 0] 76) = w7 at *
      generalize w6.heap.size = AR at *
      clear w6
      go_wp2
      go_loopw [13] (fun jv wx => ∃ j : Nat, j ≤ r ∧ jv = .int .i64 (j : Int) ∧ RdF wx G S (regS L (q2, f2) j).1 (regS L (q2, f2) j).2 ∧ Cells wx AR 76 #[.int .i64 (regY L (q2, f2) j 0), .int .i64 (regY L (q2, f2) j 1), .int .i64 (regY L (q2, f2) j 2)] ∧ Turns [G, AR] w7 wx) (fun jv _ => r - (intOf jv).toNat)
      case atStart => exact ⟨0, Nat.zero_le _, rfl, HR7.out, by rw [regY_zero3]; exact HL7.out, Turns.refl _ _⟩
      case round =>
        obtain ⟨j, hj, rfl, hR, hX, hT⟩ := hrel
        have HRx := Lib.hid hR
        have HLx := Lib.hid hX
        have HTx := Lib.hid hT
        have HRK := HR7
        clear hR hX hT HL7 HR7
        have hle := regS_le (L := L) (s := (q2, f2)) HQ2.out j
        by_cases hlt2 : j < r
        · have h3j : j < 3 := by omega
          have HLJ := Lib.hid (show j < r ∧ j < 3 from ⟨hlt2, h3j⟩)
          have i2 : (0 : Int) ≤ j := by omega
          have i3 : (j : Int) < r := by omega
          have i9 : (j : Int) < 3 := by omega
          have hwj : wrap64 ((j : Int) + 1) = (j : Int) + 1 := by unfold wrap64; omega
          have k7 := K7.out wr G _ _ HRx.out hle
          clear hlt2 h3j hj r3 hle
          have HRS : Hid (∀ (u q : Nat) (f : Int), rn L 7 ((regS L (q2, f2) j).1, (regS L (q2, f2) j).2) = ((u : Int), q, f) → regS L (q2, f2) (j + 1) = (q, f) ∧ (#[.int .i64 (regY L (q2, f2) j 0), .int .i64 (regY L (q2, f2) j 1), .int .i64 (regY L (q2, f2) j 2)] : Array Value).setIfInBounds j (.int .i64 (u : Nat)) = #[.int .i64 (regY L (q2, f2) (j + 1) 0), .int .i64 (regY L (q2, f2) (j + 1) 1), .int .i64 (regY L (q2, f2) (j + 1) 2)]) := Lib.hid fun u q f hu => ⟨by show (rn L 7 (regS L (q2, f2) j)).2 = _; rw [show rn L 7 (regS L (q2, f2) j) = ((u : Int), q, f) from hu], regY_set3 L (q2, f2) j HLJ.out.2 u (by rw [show rn L 7 (regS L (q2, f2) j) = ((u : Int), q, f) from hu])⟩
          have K7j := Lib.hid k7
          have HWJ := Lib.hid hwj
          clear k7 hwj
          go_wp2_with (go_at_call 54; refine K7j.out.mono ?_; rintro _ w8 ⟨u, q3, f3, rfl, hu, hu7, hq3, hr7, hg7⟩; have HUU := Lib.hid hu; have HR8 := Lib.hid hr7; have HT8 := Lib.hid hg7; have HL8 := Lib.hid (HLx.out.turns hg7 (by simp; exact Nat.ne_of_gt HNA.out.2.1)); obtain ⟨v1, c1⟩ := cell3 HL8.out j HLJ.out.2; have z1 := HL8.out.fz j; have n7 := wrap_id (n := u) (by omega); clear hu hu7 hq3 hr7 hg7)
          have hst := HRS.out _ _ _ HUU.out
          refine ⟨⟨j + 1, HLJ.out.1, by first | exact up_val HWJ.out | rfl, ?_, ?_, ?_⟩, by first | exact up_end HLJ.out.1 HWJ.out | (have hh := HLJ.out; simp [intOf]; omega)⟩
          · rw [hst.1]
            exact Cells.far (a := ⟨AR, j, none⟩) HR8.out (Nat.ne_of_lt HNA.out.2.1) _
          · have := HL8.out.set j (.int .i64 (u : Nat))
            rw [hst.2] at this
            exact this
          · exact (HTx.out.trans (HT8.out.mono fun y hy => .inl (by simp at hy; simp [hy]))).set (p := ⟨AR, j, none⟩) (.inl (by simp)) _
        · obtain rfl : j = r := by omega
          have i4 : ¬ (j : Int) < j := by omega
          have HX8 := Lib.hid (HX7.out.turns HTx.out (by simp; exact ⟨HNE.out.1, Nat.ne_of_lt HNA.out.2.2.2.1⟩))
          have HP8 := Lib.hid (HP7.out.turns HTx.out (by simp; exact ⟨HNE.out.2.1, Nat.ne_of_lt HNA.out.2.2.1⟩))
          have HI8 := Lib.hid (HI7.out.turns HTx.out (by simp; exact ⟨Nat.ne_of_gt HOWN.out.2.1, Nat.ne_of_lt HNA.out.1⟩))
          have HW8 := Lib.hid (HW7.out.turns HTx.out (fun k hk => by simp; exact ⟨HW7.out.ne (show Cells w7 G 87 _ from HRK.out) (by decide) k hk, Nat.ne_of_lt (HNA.out.2.2.2.2 k hk)⟩))
          have HB8 := Lib.hid (HB7.out.trans (HTx.out.below HB7.out.size (by simp; exact ⟨Nat.le_of_lt HNE.out.2.2.2.1, Nat.le_of_lt HNA.out.2.2.2.1⟩)))
          have HLE := Lib.hid hle
          have a0 : wr.cell? ⟨AR, 0, none⟩ = some (.int .i64 (regY L (q2, f2) j 0)) := HLx.out.cell (j := 0) rfl
          have a1 : wr.cell? ⟨AR, 1, none⟩ = some (.int .i64 (regY L (q2, f2) j 1)) := HLx.out.cell (j := 1) rfl
          have a2 : wr.cell? ⟨AR, 2, none⟩ = some (.int .i64 (regY L (q2, f2) j 2)) := HLx.out.cell (j := 2) rfl
          have b0 : (wr.setCell ⟨Gx, 1, none⟩ (.int .i64 (regY L (q2, f2) j 0))).cell? ⟨AR, 1, none⟩ = some (.int .i64 (regY L (q2, f2) j 1)) := (HLx.out.far (a := ⟨Gx, 1, none⟩) (Nat.ne_of_gt HNA.out.1) _).cell (j := 1) rfl
          have b1 : (wr.setCell ⟨Gx, 1, none⟩ (.int .i64 (regY L (q2, f2) j 0))).cell? ⟨AR, 2, none⟩ = some (.int .i64 (regY L (q2, f2) j 2)) := (HLx.out.far (a := ⟨Gx, 1, none⟩) (Nat.ne_of_gt HNA.out.1) _).cell (j := 2) rfl
          have b2 : ((wr.setCell ⟨Gx, 1, none⟩ (.int .i64 (regY L (q2, f2) j 0))).setCell ⟨Gx, 2, none⟩ (.int .i64 (regY L (q2, f2) j 1))).cell? ⟨AR, 2, none⟩ = some (.int .i64 (regY L (q2, f2) j 2)) := ((HLx.out.far (a := ⟨Gx, 1, none⟩) (Nat.ne_of_gt HNA.out.1) _).far (a := ⟨Gx, 2, none⟩) (Nat.ne_of_gt HNA.out.1) _).cell (j := 2) rfl
          have x1 : wr.cell? ⟨Gx, 1, none⟩ = some (.int .i64 0) := HI8.out.cell (j := 1) rfl
          have x2 : wr.cell? ⟨Gx, 2, none⟩ = some (.int .i64 0) := HI8.out.cell (j := 2) rfl
          have x3 : wr.cell? ⟨Gx, 3, none⟩ = some (.int .i64 0) := HI8.out.cell (j := 3) rfl
          have z1 := HI8.out.fz 1
          have z2 := HI8.out.fz 2
          have z3 := HI8.out.fz 3
          have HT9 := Lib.hid ((((Turns.refl [Gx] wr).set (p := ⟨Gx, 1, none⟩) (.inl (by simp)) (.int .i64 (regY L (q2, f2) j 0))).set (p := ⟨Gx, 2, none⟩) (.inl (by simp)) (.int .i64 (regY L (q2, f2) j 1))).set (p := ⟨Gx, 3, none⟩) (.inl (by simp)) (.int .i64 (regY L (q2, f2) j 2))).drew
          replace HT9 := Lib.hid HT9
          have HI9 := Lib.hid (Cells.drew (((HI8.out.set 1 (.int .i64 (regY L (q2, f2) j 0))).set 2 (.int .i64 (regY L (q2, f2) j 1))).set 3 (.int .i64 (regY L (q2, f2) j 2))))
          have HR9 : Hid (RdF _ G S (regS L (q2, f2) j).1 (regS L (q2, f2) j).2) := Lib.hid (Cells.turns HRx.out HT9.out (by simp; exact Nat.ne_of_lt HOWN.out.2.1))
          have HX9 := Lib.hid (HX8.out.turns HT9.out (by simp; exact Nat.ne_of_lt HOWN.out.2.2.2))
          have HP9 := Lib.hid (HP8.out.turns HT9.out (by simp; exact Nat.ne_of_lt HOWN.out.2.2.1))
          have HW9 := Lib.hid (HW8.out.turns HT9.out (fun k hk => by simpa using Nat.ne_of_lt (HOWN.out.1 k hk)))
          have HB9 := Lib.hid (HB8.out.trans (HT9.out.below HB8.out.size (by simp; exact Nat.le_of_lt HOWN.out.2.2.2)))
          clear hle hj hlt2 r3 HX7 HP7 HW7 HB7 HI7 HX8 HP8 HW8 HB8 HI8 HTx HLx HRx HT9
          generalize regY L (q2, f2) j 0 = ya at *
          generalize regY L (q2, f2) j 1 = yb at *
          generalize regY L (q2, f2) j 2 = yc at *
          obtain ⟨⟨rp, re⟩, hrs⟩ : ∃ s, regS L (q2, f2) j = s := ⟨_, rfl⟩
          rw [hrs] at HR9 HLE HRB
          dsimp only at HR9 HLE
          clear hrs
          go_upto_region 16 with fail
          go_region
          clear a0 a1 a2 b0 b1 b2 x1 x2 x3 z1 z2 z3
          generalize hw9 : World.drew _ = w9
          rw [hw9] at HI9 HR9 HX9 HP9 HW9 HB9
          clear hw9
          replace HI9 : Hid (Cells w9 Gx 43 #[.int .i64 (o : Nat), .int .i64 ya, .int .i64 yb, .int .i64 yc, .int .i64 0, .int .u64 0]) := HI9
          clear wr
          generalize w9 = wr at *
          have HLE9 := HLE
          cases bn <;> cases bk
          · skip
            have HRB2 : Hid (readB L (p, 0) = (⟨o, ya, yb, yc, 0, 0⟩, (rp, re))) := HRB
            go_upto_region 21 with fail
            have HR8 := HR9
            have HI8 := HI9
            have HX8 := HX9
            have HP8 := HP9
            have HW8 := HW9
            have HB8 := HB9
            have HLE8 := HLE9
            generalize wr = w8 at *
            clear HR9 HI9 HX9 HP9 HW9 HB9 HLE9 HLE HRB
            have p1 : w8.cell? ⟨PB, 1, none⟩ = some (.slice Av acc.length capv) := HP8.out.cell (j := 1) rfl
            have d0 : w8.cell? ⟨Gx, 0, none⟩ = some (.int .i64 (o : Nat)) := HI8.out.cell (j := 0) rfl
            have d1 : w8.cell? ⟨Gx, 1, none⟩ = some (.int .i64 ya) := HI8.out.cell (j := 1) rfl
            have d2 : w8.cell? ⟨Gx, 2, none⟩ = some (.int .i64 yb) := HI8.out.cell (j := 2) rfl
            have d3 : w8.cell? ⟨Gx, 3, none⟩ = some (.int .i64 yc) := HI8.out.cell (j := 3) rfl
            have d4 : w8.cell? ⟨Gx, 4, none⟩ = some (.int .i64 0) := HI8.out.cell (j := 4) rfl
            have d5 : w8.cell? ⟨Gx, 5, none⟩ = some (.int .u64 0) := HI8.out.cell (j := 5) rfl
            go_wp2_with (at_builtin; go_loud (refine wpList_append_elem' rfl _ _ _ rfl w.heap.size 43 i0 _ 6 48 Tryz.underlying22 hi hz0 hz1 hz2 rfl (by decide) (.slice Av acc.length capv) acc.length (acc.flatMap insVals) rfl (show w8.ownsRow w.heap.size 43 6 (.slice Av acc.length capv) acc.length (acc.flatMap insVals) from HW8.out) #[.int .i64 (o : Nat), .int .i64 ya, .int .i64 yb, .int .i64 yc, .int .i64 0, .int .u64 0] rfl (by simp [Value.oneCell']) _ rfl rfl HACC.out (by decide) HB8.out.size ?_); intro v' w9 hown hgrow hat; obtain ⟨g', cap', rfl⟩ := ownsRow_succ hown; have HX9 := Lib.hid (HX8.out.grown hgrow (fun e => HW8.out.ne HX8.out (by decide) _ e.symm rfl)); have HP9 := Lib.hid (HP8.out.grown hgrow (fun e => HW8.out.ne HP8.out (by decide) _ e.symm rfl)); have HR9 : Hid (RdF w9 G S rp re) := Lib.hid (Cells.grown HR8.out hgrow (fun e => HW8.out.ne (show Cells w8 G 87 _ from HR8.out) (by decide) _ e.symm rfl)); have HW9 : Hid (RowI w9 w.heap.size (.slice (some ⟨g', 0, none⟩) (acc.length + 1) cap') (acc ++ [⟨o, ya, yb, yc, 0, 0⟩])) := Lib.hid (rowI_snoc hown); have HB9 := Lib.hid (HB8.out.grown hgrow HB8.out.size (fun k hk => (World.ownsRow.lt HW8.out k hk).1)); have u1 := HP9.out.cell (j := 1) rfl; have z1 := HP9.out.fz 1; clear hown hgrow hat)
            refine ⟨⟨i + 1, acc ++ [⟨o, ya, yb, yc, 0, 0⟩], .slice (some ⟨g', 0, none⟩) (acc.length + 1) cap', rp, re, HLT.out, by first | exact up_val HWI.out | rfl, Cells.far (a := ⟨PB, 1, none⟩) HR9.out HNE.out.2.1.symm _, HLE8.out, HX9.out.far (a := ⟨PB, 1, none⟩) HNE.out.2.2.1 _, HP9.out.set 1 _, HW9.out.turns (S := [PB]) ((Turns.refl _ w9).set (p := ⟨PB, 1, none⟩) (.inl (by simp)) _) (fun k hk => by simpa using HW9.out.ne HP9.out (by decide) k hk), HB9.out.setCell (p := ⟨PB, 1, none⟩) (Nat.le_of_lt (Nat.lt_trans HNE.out.2.2.2.1 HNE.out.2.2.2.2)) _, rd_step HIr.out HLT.out HRB2.out ?_⟩, by first | exact up_end HLT.out HWI.out | (have hh := HLT.out; simp [intOf]; omega)⟩
            exact (show (0 : Nat) < 2 * signB from by unfold signB; decide)
          · skip
            have kk := KB.out wr G rp re HR9.out HLE9.out
            have KKK := Lib.hid kk
            clear kk
            go_upto_region 21 with (go_at_call 56; refine KKK.out.mono ?_; rintro _ w7x ⟨u, q3, f3, rfl, hu, hu7, hq3, hr7, hg7⟩; have HUU := Lib.hid hu; have HU7 := Lib.hid hu7; have HQ3 := Lib.hid hq3; have HR7 := Lib.hid hr7; have HT7 := Lib.hid hg7; have HI7 := Lib.hid (HI9.out.turns hg7 (by simp; exact Nat.ne_of_gt HOWN.out.2.1)); have c1 : w7x.cell? ⟨Gx, 5, none⟩ = some (.int .u64 0) := HI7.out.cell (j := 5) rfl; have z1 := HI7.out.fz 5; clear hu hu7 hq3 hr7 hg7)
            have HR8 : Hid (RdF (w7x.setCell ⟨Gx, 5, none⟩ (.int .u64 (u : Nat))) G S q3 f3) := Lib.hid (Cells.far (a := ⟨Gx, 5, none⟩) HR7.out (Nat.ne_of_lt HOWN.out.2.1) (.int .u64 (u : Nat)))
            have HI8 := Lib.hid (HI7.out.set 5 (.int .u64 (u : Nat)))
            have HX8 := Lib.hid ((HX9.out.turns HT7.out (by simpa using HNE.out.1)).far (a := ⟨Gx, 5, none⟩) (Nat.ne_of_lt HOWN.out.2.2.2) (.int .u64 (u : Nat)))
            have HP8 := Lib.hid ((HP9.out.turns HT7.out (by simpa using HNE.out.2.1)).far (a := ⟨Gx, 5, none⟩) (Nat.ne_of_lt HOWN.out.2.2.1) (.int .u64 (u : Nat)))
            have HW8 := Lib.hid ((HW9.out.turns HT7.out (fun k hk => by simpa using HW9.out.ne (show Cells wr G 87 _ from HR9.out) (by decide) k hk)).turns (S := [Gx]) ((Turns.refl _ w7x).set (p := ⟨Gx, 5, none⟩) (.inl (by simp)) (.int .u64 (u : Nat))) (fun k hk => by simpa using Nat.ne_of_lt (HOWN.out.1 k hk)))
            have HB8 := Lib.hid ((HB9.out.trans (HT7.out.below HB9.out.size (by simp; exact Nat.le_of_lt HNE.out.2.2.2.1))).setCell (p := ⟨Gx, 5, none⟩) (Nat.le_of_lt HOWN.out.2.2.2) (.int .u64 (u : Nat)))
            have HLE8 := Lib.hid HQ3.out
            have HRB2 : Hid (readB L (p, 0) = (⟨o, ya, yb, yc, 0, u⟩, (q3, f3))) := Lib.hid (by have h := HRB.out; unfold stepN stepK at h; simp only [if_true, if_false, Bool.false_eq_true, HUU.out, Int.toNat_natCast] at h; exact h)
            generalize w7x.setCell ⟨Gx, 5, none⟩ (.int .u64 (u : Nat)) = w8 at *
            clear HRB HLE HLE9 HR9 HI9 HX9 HP9 HW9 HB9 c1 z1 KKK HUU HQ3 HR7 HT7 HI7
            have p1 : w8.cell? ⟨PB, 1, none⟩ = some (.slice Av acc.length capv) := HP8.out.cell (j := 1) rfl
            have d0 : w8.cell? ⟨Gx, 0, none⟩ = some (.int .i64 (o : Nat)) := HI8.out.cell (j := 0) rfl
            have d1 : w8.cell? ⟨Gx, 1, none⟩ = some (.int .i64 ya) := HI8.out.cell (j := 1) rfl
            have d2 : w8.cell? ⟨Gx, 2, none⟩ = some (.int .i64 yb) := HI8.out.cell (j := 2) rfl
            have d3 : w8.cell? ⟨Gx, 3, none⟩ = some (.int .i64 yc) := HI8.out.cell (j := 3) rfl
            have d4 : w8.cell? ⟨Gx, 4, none⟩ = some (.int .i64 0) := HI8.out.cell (j := 4) rfl
            have d5 : w8.cell? ⟨Gx, 5, none⟩ = some (.int .u64 (u : Nat)) := HI8.out.cell (j := 5) rfl
            go_wp2_with (at_builtin; go_loud (refine wpList_append_elem' rfl _ _ _ rfl w.heap.size 43 i0 _ 6 48 Tryz.underlying22 hi hz0 hz1 hz2 rfl (by decide) (.slice Av acc.length capv) acc.length (acc.flatMap insVals) rfl (show w8.ownsRow w.heap.size 43 6 (.slice Av acc.length capv) acc.length (acc.flatMap insVals) from HW8.out) #[.int .i64 (o : Nat), .int .i64 ya, .int .i64 yb, .int .i64 yc, .int .i64 0, .int .u64 (u : Nat)] rfl (by simp [Value.oneCell']) _ rfl rfl HACC.out (by decide) HB8.out.size ?_); intro v' w9 hown hgrow hat; obtain ⟨g', cap', rfl⟩ := ownsRow_succ hown; have HX9 := Lib.hid (HX8.out.grown hgrow (fun e => HW8.out.ne HX8.out (by decide) _ e.symm rfl)); have HP9 := Lib.hid (HP8.out.grown hgrow (fun e => HW8.out.ne HP8.out (by decide) _ e.symm rfl)); have HR9 : Hid (RdF w9 G S q3 f3) := Lib.hid (Cells.grown HR8.out hgrow (fun e => HW8.out.ne (show Cells w8 G 87 _ from HR8.out) (by decide) _ e.symm rfl)); have HW9 : Hid (RowI w9 w.heap.size (.slice (some ⟨g', 0, none⟩) (acc.length + 1) cap') (acc ++ [⟨o, ya, yb, yc, 0, u⟩])) := Lib.hid (rowI_snoc hown); have HB9 := Lib.hid (HB8.out.grown hgrow HB8.out.size (fun k hk => (World.ownsRow.lt HW8.out k hk).1)); have u1 := HP9.out.cell (j := 1) rfl; have z1 := HP9.out.fz 1; clear hown hgrow hat)
            refine ⟨⟨i + 1, acc ++ [⟨o, ya, yb, yc, 0, u⟩], .slice (some ⟨g', 0, none⟩) (acc.length + 1) cap', q3, f3, HLT.out, by first | exact up_val HWI.out | rfl, Cells.far (a := ⟨PB, 1, none⟩) HR9.out HNE.out.2.1.symm _, HLE8.out, HX9.out.far (a := ⟨PB, 1, none⟩) HNE.out.2.2.1 _, HP9.out.set 1 _, HW9.out.turns (S := [PB]) ((Turns.refl _ w9).set (p := ⟨PB, 1, none⟩) (.inl (by simp)) _) (fun k hk => by simpa using HW9.out.ne HP9.out (by decide) k hk), HB9.out.setCell (p := ⟨PB, 1, none⟩) (Nat.le_of_lt (Nat.lt_trans HNE.out.2.2.2.1 HNE.out.2.2.2.2)) _, rd_step HIr.out HLT.out HRB2.out ?_⟩, by first | exact up_end HLT.out HWI.out | (have hh := HLT.out; simp [intOf]; omega)⟩
            exact (by have := HU7.out; unfold signB; omega)
          · skip
            have kk := K64.out wr G rp re HR9.out HLE9.out
            have KKK := Lib.hid kk
            clear kk
            go_upto_region 21 with (go_at_call 54; refine KKK.out.mono ?_; rintro _ w7x ⟨u, q3, f3, rfl, hu, hu7, hq3, hr7, hg7⟩; have HUU := Lib.hid hu; have HU7 := Lib.hid hu7; have HQ3 := Lib.hid hq3; have HR7 := Lib.hid hr7; have HT7 := Lib.hid hg7; have HI7 := Lib.hid (HI9.out.turns hg7 (by simp; exact Nat.ne_of_gt HOWN.out.2.1)); have c1 : w7x.cell? ⟨Gx, 4, none⟩ = some (.int .i64 0) := HI7.out.cell (j := 4) rfl; have z1 := HI7.out.fz 4; have n8 := wrap_id (n := u) (by omega); clear hu hu7 hq3 hr7 hg7)
            have HR8 : Hid (RdF (w7x.setCell ⟨Gx, 4, none⟩ (.int .i64 (u : Nat))) G S q3 f3) := Lib.hid (Cells.far (a := ⟨Gx, 4, none⟩) HR7.out (Nat.ne_of_lt HOWN.out.2.1) (.int .i64 (u : Nat)))
            have HI8 := Lib.hid (HI7.out.set 4 (.int .i64 (u : Nat)))
            have HX8 := Lib.hid ((HX9.out.turns HT7.out (by simpa using HNE.out.1)).far (a := ⟨Gx, 4, none⟩) (Nat.ne_of_lt HOWN.out.2.2.2) (.int .i64 (u : Nat)))
            have HP8 := Lib.hid ((HP9.out.turns HT7.out (by simpa using HNE.out.2.1)).far (a := ⟨Gx, 4, none⟩) (Nat.ne_of_lt HOWN.out.2.2.1) (.int .i64 (u : Nat)))
            have HW8 := Lib.hid ((HW9.out.turns HT7.out (fun k hk => by simpa using HW9.out.ne (show Cells wr G 87 _ from HR9.out) (by decide) k hk)).turns (S := [Gx]) ((Turns.refl _ w7x).set (p := ⟨Gx, 4, none⟩) (.inl (by simp)) (.int .i64 (u : Nat))) (fun k hk => by simpa using Nat.ne_of_lt (HOWN.out.1 k hk)))
            have HB8 := Lib.hid ((HB9.out.trans (HT7.out.below HB9.out.size (by simp; exact Nat.le_of_lt HNE.out.2.2.2.1))).setCell (p := ⟨Gx, 4, none⟩) (Nat.le_of_lt HOWN.out.2.2.2) (.int .i64 (u : Nat)))
            have HLE8 := Lib.hid HQ3.out
            have HRB2 : Hid (readB L (p, 0) = (⟨o, ya, yb, yc, (u : Nat), 0⟩, (q3, f3))) := Lib.hid (by have h := HRB.out; unfold stepN stepK at h; simp only [if_true, if_false, Bool.false_eq_true, HUU.out] at h; exact h)
            generalize w7x.setCell ⟨Gx, 4, none⟩ (.int .i64 (u : Nat)) = w8 at *
            clear HRB HLE HLE9 HR9 HI9 HX9 HP9 HW9 HB9 c1 z1 KKK HUU HQ3 HR7 HT7 HI7
            have p1 : w8.cell? ⟨PB, 1, none⟩ = some (.slice Av acc.length capv) := HP8.out.cell (j := 1) rfl
            have d0 : w8.cell? ⟨Gx, 0, none⟩ = some (.int .i64 (o : Nat)) := HI8.out.cell (j := 0) rfl
            have d1 : w8.cell? ⟨Gx, 1, none⟩ = some (.int .i64 ya) := HI8.out.cell (j := 1) rfl
            have d2 : w8.cell? ⟨Gx, 2, none⟩ = some (.int .i64 yb) := HI8.out.cell (j := 2) rfl
            have d3 : w8.cell? ⟨Gx, 3, none⟩ = some (.int .i64 yc) := HI8.out.cell (j := 3) rfl
            have d4 : w8.cell? ⟨Gx, 4, none⟩ = some (.int .i64 (u : Nat)) := HI8.out.cell (j := 4) rfl
            have d5 : w8.cell? ⟨Gx, 5, none⟩ = some (.int .u64 0) := HI8.out.cell (j := 5) rfl
            go_wp2_with (at_builtin; go_loud (refine wpList_append_elem' rfl _ _ _ rfl w.heap.size 43 i0 _ 6 48 Tryz.underlying22 hi hz0 hz1 hz2 rfl (by decide) (.slice Av acc.length capv) acc.length (acc.flatMap insVals) rfl (show w8.ownsRow w.heap.size 43 6 (.slice Av acc.length capv) acc.length (acc.flatMap insVals) from HW8.out) #[.int .i64 (o : Nat), .int .i64 ya, .int .i64 yb, .int .i64 yc, .int .i64 (u : Nat), .int .u64 0] rfl (by simp [Value.oneCell']) _ rfl rfl HACC.out (by decide) HB8.out.size ?_); intro v' w9 hown hgrow hat; obtain ⟨g', cap', rfl⟩ := ownsRow_succ hown; have HX9 := Lib.hid (HX8.out.grown hgrow (fun e => HW8.out.ne HX8.out (by decide) _ e.symm rfl)); have HP9 := Lib.hid (HP8.out.grown hgrow (fun e => HW8.out.ne HP8.out (by decide) _ e.symm rfl)); have HR9 : Hid (RdF w9 G S q3 f3) := Lib.hid (Cells.grown HR8.out hgrow (fun e => HW8.out.ne (show Cells w8 G 87 _ from HR8.out) (by decide) _ e.symm rfl)); have HW9 : Hid (RowI w9 w.heap.size (.slice (some ⟨g', 0, none⟩) (acc.length + 1) cap') (acc ++ [⟨o, ya, yb, yc, ((u : Nat) : Int), 0⟩])) := Lib.hid (rowI_snoc hown); have HB9 := Lib.hid (HB8.out.grown hgrow HB8.out.size (fun k hk => (World.ownsRow.lt HW8.out k hk).1)); have u1 := HP9.out.cell (j := 1) rfl; have z1 := HP9.out.fz 1; clear hown hgrow hat)
            refine ⟨⟨i + 1, acc ++ [⟨o, ya, yb, yc, ((u : Nat) : Int), 0⟩], .slice (some ⟨g', 0, none⟩) (acc.length + 1) cap', q3, f3, HLT.out, by first | exact up_val HWI.out | rfl, Cells.far (a := ⟨PB, 1, none⟩) HR9.out HNE.out.2.1.symm _, HLE8.out, HX9.out.far (a := ⟨PB, 1, none⟩) HNE.out.2.2.1 _, HP9.out.set 1 _, HW9.out.turns (S := [PB]) ((Turns.refl _ w9).set (p := ⟨PB, 1, none⟩) (.inl (by simp)) _) (fun k hk => by simpa using HW9.out.ne HP9.out (by decide) k hk), HB9.out.setCell (p := ⟨PB, 1, none⟩) (Nat.le_of_lt (Nat.lt_trans HNE.out.2.2.2.1 HNE.out.2.2.2.2)) _, rd_step HIr.out HLT.out HRB2.out ?_⟩, by first | exact up_end HLT.out HWI.out | (have hh := HLT.out; simp [intOf]; omega)⟩
            exact (show (0 : Nat) < 2 * signB from by unfold signB; decide)
          · exact absurd ⟨rfl, rfl⟩ HNK.out
    · have hcase : e = 0 ∧ i = m ∨ e ≠ 0 := by
        by_cases h : e = 0
        · exact .inl ⟨h, Classical.byContradiction fun hh => hgo ⟨by omega, h⟩⟩
        · exact .inr h
      have hway : ¬ (i : Int) < m ∨ ((i : Int) < m ∧ (e == 0) = false) := by
        by_cases h : i < m
        · exact .inr ⟨by omega, by rw [beq_eq_false_iff_ne]; exact fun h2 => hgo ⟨h, h2⟩⟩
        · exact .inl (by omega)
      have HCODE := Lib.hid (HWr.out.code HIr.out.2.1)
      have HKK := Lib.hid HIr.out.2.1
      have ke := KE.out wr G p e HRr.out
      have kc := fun n => rcheck_any (F : Nat) Av acc capv (wr.drewN n) (show CodeIn (wr.drewN n) (wr.drewN n).heap.size Av acc from HCODE.out)
      obtain ⟨er, her⟩ : ∃ er, (progCheck (F : Nat) acc).1 = er := ⟨_, rfl⟩
      obtain ⟨at_, hat⟩ : ∃ at_, (progCheck (F : Nat) acc).2 = at_ := ⟨_, rfl⟩
      have HOUT : Hid ((e = 0 ∧ ¬ p < L.length ∧ er = 0 → unpackP L = (0, F, acc)) ∧ (¬ (e = 0 ∧ ¬ p < L.length ∧ er = 0) → unpackP L = (54, 0, []))) := Lib.hid (by
        rcases hcase with ⟨he, him⟩ | he
        · have hI := HIr.out
          rw [him] at hI
          have hu := HU.out _ _ _ _ _ _ _ _ _ HF.out HM.out (rd_end hI)
          rw [her] at hu
          exact ⟨fun h => hu.trans (if_pos h), fun h => hu.trans (if_neg h)⟩
        · refine ⟨fun h => absurd h.1 he, fun _ => ?_⟩
          have hf := rd_fault HIr.out he
          obtain ⟨⟨acc2, p2, e2⟩, hrc⟩ : ∃ x, readC L m (q1, f1) = x := ⟨_, rfl⟩
          have hu := HU.out _ _ _ _ _ _ _ _ _ HF.out HM.out hrc
          rw [hrc] at hf
          exact hu.trans (if_neg fun h => hf h.1))
      rw [her, hat] at kc
      have KEE := Lib.hid ke
      have KCC := Lib.hid kc
      clear ke kc her hat hi2 hgo hcase
      have q0c : ∀ n, (wr.drewN n).cell? ⟨PB, 0, none⟩ = some (.int .i64 (F : Nat)) := fun n => (HPr.out.drewN n).cell (j := 0) rfl
      have q1c : ∀ n, (wr.drewN n).cell? ⟨PB, 1, none⟩ = some (.slice Av acc.length capv) := fun n => (HPr.out.drewN n).cell (j := 1) rfl
      obtain ⟨ft, hft⟩ : ∃ ft : Int, (if e = 0 ∧ p < L.length then 24 else e) = ft := ⟨_, rfl⟩
      rw [hft] at KEE
      have HFT : Hid (ft = 0 ↔ e = 0 ∧ ¬ p < L.length) := Lib.hid (by
        rw [← hft]
        by_cases h : e = 0 ∧ p < L.length
        · rw [if_pos h]; exact ⟨fun h2 => absurd h2 (by decide), fun h2 => absurd h.2 h2.2⟩
        · rw [if_neg h]; exact ⟨fun h2 => ⟨h2, fun h3 => h ⟨h2, h3⟩⟩, fun h2 => h2.1⟩)
      clear hft
      by_cases hgood : er = 0 ∧ ft = 0
      · obtain ⟨rfl, rfl⟩ := hgood
        have HOK : Hid (unpackP L = (0, F, acc)) := Lib.hid (HOUT.out.1 ⟨(HFT.out.1 rfl).1, (HFT.out.1 rfl).2, rfl⟩)
        clear HOUT HFT
        rcases hway with t2 | ⟨t2, t3⟩
        all_goals go_wp2_with (first | (go_at_call 57; refine KEE.out.mono ?_; rintro _ w8 ⟨⟨pp, rfl⟩, nn, rfl⟩) | (go_at_call 13; refine (KCC.out _).mono ?_; rintro _ w9 ⟨rfl, hb9⟩; have HX9 := Lib.hid ((HXr.out.drewN _).keep hb9); have HP9 := Lib.hid ((HPr.out.drewN _).keep hb9); have HW9 := Lib.hid ((show RowI (wr.drewN _) w.heap.size (.slice Av acc.length capv) acc from HWr.out).keep hb9); have HB9 := Lib.hid (grow_to (below_drewN HBr.out _) hb9); have u0 := HP9.out.cell (j := 0) rfl; have u1 := HP9.out.cell (j := 1) rfl; have v0 := HX9.out.cell (j := 0) rfl; have v1 := HX9.out.cell (j := 1) rfl; have z0 := HX9.out.fz 0; have z1 := HX9.out.fz 1; clear hb9))
        all_goals generalize hW9 : World.setCell _ _ _ = W9
        all_goals refine ret_prog rfl rfl rfl (hW9 ▸ (HX9.out.set 0 _).set 1 _) rfl ?_
        all_goals unfold UnpackOut
        all_goals rw [HOK.out]
        all_goals refine ⟨⟨Av, capv, rfl, ?_, HKK.out⟩, hW9 ▸ (HB9.out.setCell (Nat.le_refl _) _).setCell (Nat.le_refl _) _⟩
        all_goals rw [← hW9]
        all_goals exact HW9.out.turns (S := [w.heap.size]) (((Turns.refl _ w9).set (p := ⟨w.heap.size, 0, none⟩) (.inl (by simp)) _).set (p := ⟨w.heap.size, 1, none⟩) (.inl (by simp)) _) (fun k hk => by simpa using HW9.out.ne HX9.out (by decide) k hk)
      · have HOK : Hid (unpackP L = (54, 0, [])) := Lib.hid (HOUT.out.2 fun h => hgood ⟨h.2.2, HFT.out.2 ⟨h.1, h.2.1⟩⟩)
        have hway2 : (ft != 0) = true ∨ ((ft != 0) = false ∧ (er != 0) = true) := by
          by_cases h : ft = 0
          · exact .inr ⟨by rw [bne_eq_false_iff_eq]; exact h, by rw [bne_iff_ne]; exact fun h2 => hgood ⟨h2, h⟩⟩
          · exact .inl (by rw [bne_iff_ne]; exact h)
        clear HOUT HFT hgood
        rcases hway with t2 | ⟨t2, t3⟩ <;> rcases hway2 with b0 | ⟨b0, b1⟩
        all_goals go_wp2_with (first | (go_at_call 57; refine KEE.out.mono ?_; rintro _ w8 ⟨⟨pp, rfl⟩, nn, rfl⟩) | (go_at_call 13; refine (KCC.out _).mono ?_; rintro _ w9 ⟨rfl, hb9⟩; have HX9 := Lib.hid ((HXr.out.drewN _).keep hb9); have HB9 := Lib.hid (grow_to (below_drewN HBr.out _) hb9); have v0 := HX9.out.cell (j := 0) rfl; have v1 := HX9.out.cell (j := 1) rfl; have z0 := HX9.out.fz 0; have z1 := HX9.out.fz 1; clear hb9))
        all_goals generalize hW9 : World.setCell _ _ _ = W9
        all_goals exact ret_prog rfl rfl rfl (hW9 ▸ (HX9.out.set 0 _).set 1 _) rfl (uo_bad HOK.out (hW9 ▸ (HB9.out.setCell (Nat.le_refl _) _).setCell (Nat.le_refl _) _))
end Go.Proofs.YtiidkgdlngcpgaaGreatDoor
