/- prog.Unpack (contract). -/
import Derived.Test.YtdkencepmdfacaaGreatDoorPc
import Derived.Test.YtdkencepmdfacaaGreatDoorPe
import Derived.Test.YtdkencepmdfacaaGreatDoorGr10
import Derived.Test.YtdkencepmdfacaaGreatDoorQf
import Derived.RangeFuncBox
set_option maxRecDepth 100000
namespace Go.Proofs.YtdkencepmdfacaaGreatDoor
open Go.RowKit Ieee

theorem prog_size2 : (Tryz.prog.info? 71).map (·.size) = some 2 := by kernel_rfl
theorem ret_prog {fn : Func} {R : Ending → World → Prop} {a : Act} {w : World} (h : fn.results = #[.cell 2 71, .tmp 3]) {g : Nat} {v0 v1 x : Value}
    (hp : a.tmps.getD 2 undef = .pointer (some ⟨g, 0, none⟩)) (hx : a.tmps.getD 3 undef = x) (hg : Cells w g 71 #[v0, v1]) (hdef : a.defers = []) (hR : R (.returned (.tuple #[.agg #[v0, v1], x])) w) : bodyPost Tryz.prog fn R .ret a w :=
  ret_cell_tmp h hp hx hg Tryz.underlying71 rfl prog_size2 hdef hR
/-- what a reader of bytes answers -/
def UnpackOut (w : World) (L : List UInt8) (e : Ending) (w' : World) : Prop :=
  (∃ A cap, e = .returned (.tuple #[.agg #[.int .i64 ((unpackP L).2.1 : Nat), .slice A (unpackP L).2.2.length cap], .int .i64 (unpackP L).1]) ∧ RowI w' w.heap.size (.slice A (unpackP L).2.2.length cap) (unpackP L).2.2 ∧ ∀ x ∈ (unpackP L).2.2, x.k < 2 * signB) ∧ Below w.heap.size w w'
theorem uo_bad {w w' : World} {L : List UInt8} {c : Int} (h : unpackP L = (c, 0, [])) (hb : Below w.heap.size w w') : UnpackOut w L (.returned (.tuple #[.agg #[.int .i64 0, .slice none 0 0], .int .i64 c])) w' := by
  unfold UnpackOut
  rw [h]
  exact ⟨⟨none, 0, rfl, rowI_nil _ _, fun x hx => by cases hx⟩, hb⟩
/-- the reader's state between two instructions -/
def RdInv (L : List UInt8) (m : Nat) (s1 : Nat × Int) (acc : List Ins) (i : Nat) (s : Nat × Int) : Prop :=
  readC L m s1 = (acc ++ (readC L (m - i) s).1, (readC L (m - i) s).2) ∧ (∀ x ∈ acc, x.k < 2 * signB) ∧ acc.length = i
theorem rd_start (L : List UInt8) (m : Nat) (s1 : Nat × Int) : RdInv L m s1 [] 0 s1 := ⟨by simp, by simp, rfl⟩
theorem rd_step {L : List UInt8} {m i : Nat} {s1 s : Nat × Int} {acc : List Ins} (h : RdInv L m s1 acc i s) (hi : i < m) {x : Ins} {s' : Nat × Int} (hx : readB L s = (x, s')) (hk : x.k < 2 * signB) : RdInv L m s1 (acc ++ [x]) (i + 1) s' := by
  refine ⟨?_, fun y hy => ?_, by rw [List.length_append, h.2.2]; rfl⟩
  · rw [h.1, show m - i = (m - (i + 1)) + 1 by omega, readC, hx]
    simp
  · rcases List.mem_append.1 hy with hy | hy
    · exact h.2.1 y hy
    · rw [List.mem_singleton] at hy
      rw [hy]
      exact hk
theorem rd_end {L : List UInt8} {m : Nat} {s1 s : Nat × Int} {acc : List Ins} (h : RdInv L m s1 acc m s) : readC L m s1 = (acc, s) := by
  rw [h.1, Nat.sub_self, readC]
  simp
theorem only_turns {g : Nat} {a w : World} (h : a.grownBy w (some g)) : Turns [g] a w := Turns.of_only h
theorem wrap_id {n : Nat} (h : n < 9223372036854775808) : wrap64 (n : Int) = n := by unfold wrap64; omega

set_option maxHeartbeats 8000000 in
set_option maxRecDepth 100000 in
theorem unpack_any (L : List UInt8) (hl : L.length < 4294967296) (w : World) : Calls Tryz.prog 37 #[.string (str L)] w (UnpackOut w L) := by
  have hsz : (str L).size = L.length := str_size L
  have HX0 := Lib.hid (Cells.new w 71 #[.int .i64 0, .slice none 0 0])
  have HB0 := Lib.hid ((Below.refl w.heap.size w).alloc (Nat.le_refl _) (.cells #[.int .i64 0, .slice none 0 0] 71))
  by_cases hbig : 1024 < L.length
  · have hu : unpackP L = (57, 0, []) := by unfold unpackP; rw [if_pos hbig]
    have HU := Lib.hid hu
    have t1 : (1024 : Int) < ((str L).size : Int) := by omega
    generalize str L = S at *
    clear hu hbig hsz hl
    have c0 := HX0.out.cell (j := 0) rfl
    have c1 := HX0.out.cell (j := 1) rfl
    have z0 := HX0.out.fz 0
    have z1 := HX0.out.fz 1
    go_enter Tryz.func37, Tryz.ntmps37
    go_wp2
    exact ret_prog rfl rfl rfl HX0.out rfl (uo_bad HU.out HB0.out)
  have t1 : ¬ (1024 : Int) < ((str L).size : Int) := by omega
  have hnum : ∀ (W : World) (g p most : Nat) (e : Int), Rdr W g (str L) p e → p ≤ L.length → most < 18446744073709551616 → Calls Tryz.prog 61 #[.pointer (some ⟨g, 0, none⟩), .int .u64 (most : Int)] W fun x w' => ∃ (n q : Nat) (f : Int), x = .returned (.int .u64 (n : Nat)) ∧ rn L most (p, e) = ((n : Int), q, f) ∧ n ≤ most ∧ q ≤ L.length ∧ Rdr w' g (str L) q f ∧ W.grownBy w' (some g) := fun W g p most e hR hp hm => by
    obtain ⟨n, q, f, h1, h2, _, h4⟩ := rn_told (L := L) (most := most) (e := e) hp
    have k := rNum g (str L) p e most W hR (by rw [hsz]; exact hp) (by rw [hsz]; exact hl) hm
    rw [str_back] at k
    refine k.mono ?_
    rintro x w' ⟨k1, k2, k3⟩
    have e1 : rdrStep 0 (upR (numR (L.drop p) most 21)) p e = ((n : Int), q, f) := h1
    rw [e1] at k1 k2
    exact ⟨n, q, f, k1, h1, h2, h4, k2, k3⟩
  have hlist : ∀ (W : World) (g p : Nat) (e : Int), Rdr W g (str L) p e → p ≤ L.length → Calls Tryz.prog 62 #[.pointer (some ⟨g, 0, none⟩), .int .i64 64] W fun x w' => ∃ (n q : Nat) (f : Int), x = .returned (.int .i64 (n : Nat)) ∧ rl L 64 (p, e) = ((n : Int), q, f) ∧ n ≤ 64 ∧ q ≤ L.length ∧ Rdr w' g (str L) q f ∧ W.grownBy w' (some g) := fun W g p e hR hp => by
    obtain ⟨n, q, f, h1, h2, h4⟩ := rl_told (L := L) (most := 64) (e := e) hp
    have k := rList g (str L) p e 64 W hR (by rw [hsz]; exact hp) (by rw [hsz]; exact hl) (by decide)
    rw [str_back] at k
    refine k.mono ?_
    rintro x w' ⟨k1, k2, k3⟩
    have e1 : rdrStep 0 (upR (numR (L.drop p) (64 : Int).toNat 23)) p e = ((n : Int), q, f) := h1
    rw [e1] at k1 k2
    exact ⟨n, q, f, k1, h1, h2, h4, k2, k3⟩
  have hbits : ∀ (W : World) (g p : Nat) (e : Int), Rdr W g (str L) p e → p ≤ L.length → Calls Tryz.prog 64 #[.pointer (some ⟨g, 0, none⟩)] W fun x w' => ∃ (n q : Nat) (f : Int), x = .returned (.int .u64 (n : Nat)) ∧ rb L (p, e) = ((n : Int), q, f) ∧ n < 18446744073709551616 ∧ q ≤ L.length ∧ Rdr w' g (str L) q f ∧ W.grownBy w' (some g) := fun W g p e hR hp => by
    obtain ⟨n, q, f, h1, h2, h4⟩ := rb_told (L := L) (e := e) hp
    have k := rBits g (str L) p e W hR (by rw [hsz]; exact hp) (by rw [hsz]; exact hl)
    rw [str_back] at k
    refine k.mono ?_
    rintro x w' ⟨k1, k2, k3⟩
    have e1 : rdrStep 0 (bitsR (L.drop p)) p e = ((n : Int), q, f) := h1
    rw [e1] at k1 k2
    exact ⟨n, q, f, k1, h1, h2, h4, k2, k3⟩
  have hend : ∀ (W : World) (g p : Nat) (e : Int), Rdr W g (str L) p e → Calls Tryz.prog 65 #[.pointer (some ⟨g, 0, none⟩)] W fun x w' => (∃ pp : Int, x = .returned (.tuple #[.int .i64 (if e = 0 ∧ p < L.length then 24 else e), .int .i64 pp])) ∧ ∃ n, w' = W.drewN n := fun W g p e hR => by
    refine (end_any g (str L) p e W hR).mono ?_
    rintro x w' ⟨rfl, n, rfl⟩
    unfold endE
    rw [hsz]
    exact ⟨⟨_, rfl⟩, n, rfl⟩
  have K1024 : Hid (∀ (W : World) (g p : Nat) (e : Int), Rdr W g (str L) p e → p ≤ L.length → Calls Tryz.prog 61 #[.pointer (some ⟨g, 0, none⟩), .int .u64 1024] W fun x w' => ∃ (n q : Nat) (f : Int), x = .returned (.int .u64 (n : Nat)) ∧ rn L 1024 (p, e) = ((n : Int), q, f) ∧ n ≤ 1024 ∧ q ≤ L.length ∧ Rdr w' g (str L) q f ∧ W.grownBy w' (some g)) := Lib.hid fun W g p e h1 h2 => hnum W g p 1024 e h1 h2 (by decide)
  have K24 : Hid (∀ (W : World) (g p : Nat) (e : Int), Rdr W g (str L) p e → p ≤ L.length → Calls Tryz.prog 61 #[.pointer (some ⟨g, 0, none⟩), .int .u64 24] W fun x w' => ∃ (n q : Nat) (f : Int), x = .returned (.int .u64 (n : Nat)) ∧ rn L 24 (p, e) = ((n : Int), q, f) ∧ n ≤ 24 ∧ q ≤ L.length ∧ Rdr w' g (str L) q f ∧ W.grownBy w' (some g)) := Lib.hid fun W g p e h1 h2 => hnum W g p 24 e h1 h2 (by decide)
  have K7 : Hid (∀ (W : World) (g p : Nat) (e : Int), Rdr W g (str L) p e → p ≤ L.length → Calls Tryz.prog 61 #[.pointer (some ⟨g, 0, none⟩), .int .u64 7] W fun x w' => ∃ (n q : Nat) (f : Int), x = .returned (.int .u64 (n : Nat)) ∧ rn L 7 (p, e) = ((n : Int), q, f) ∧ n ≤ 7 ∧ q ≤ L.length ∧ Rdr w' g (str L) q f ∧ W.grownBy w' (some g)) := Lib.hid fun W g p e h1 h2 => hnum W g p 7 e h1 h2 (by decide)
  have K64 : Hid (∀ (W : World) (g p : Nat) (e : Int), Rdr W g (str L) p e → p ≤ L.length → Calls Tryz.prog 61 #[.pointer (some ⟨g, 0, none⟩), .int .u64 64] W fun x w' => ∃ (n q : Nat) (f : Int), x = .returned (.int .u64 (n : Nat)) ∧ rn L 64 (p, e) = ((n : Int), q, f) ∧ n ≤ 64 ∧ q ≤ L.length ∧ Rdr w' g (str L) q f ∧ W.grownBy w' (some g)) := Lib.hid fun W g p e h1 h2 => hnum W g p 64 e h1 h2 (by decide)
  have KL := Lib.hid hlist
  have KB := Lib.hid hbits
  have KE := Lib.hid hend
  have HU : Hid (∀ (F q0 : Nat) (f0 : Int) (m q1 : Nat) (f1 : Int) (acc : List Ins) (p : Nat) (e : Int), rn L 1024 (0, 0) = ((F : Int), q0, f0) → rl L 64 (q0, f0) = ((m : Int), q1, f1) → readC L m (q1, f1) = (acc, (p, e)) → unpackP L = if e = 0 ∧ ¬ p < L.length ∧ (progCheck (F : Int) acc).1 = 0 then (0, F, acc) else (54, 0, [])) := Lib.hid fun F q0 f0 m q1 f1 acc p e h1 h2 h3 => by
    unfold unpackP
    rw [if_neg hbig]
    simp only [h1, h2, Int.toNat_natCast, h3]
  obtain ⟨S, hS⟩ : ∃ S, str L = S := ⟨_, rfl⟩
  rw [hS] at K1024 K24 K7 K64 KL KB KE t1 ⊢
  clear hnum hlist hbits hend hbig hsz hl hS
  obtain ⟨i0, hi, hz0, hz1, hz2⟩ := info_parts ins_info
  go_enter Tryz.func37, Tryz.ntmps37
  go_upto_region 1 with fail
  generalize w.alloc (.cells #[.int .i64 0, .slice none 0 0] 71) = w0 at *
  go_upto_region 4 with (go_at_call 60; refine (read_any _ _).mono ?_; rintro _ w1 ⟨rfl, hr1, hb1, hs1⟩; clear hs1; have HR1 := Lib.hid hr1; have HX1 := Lib.hid (HX0.out.keep hb1); have HB1 := Lib.hid (grow_to HB0.out hb1); clear hr1 hb1)
  have HGN := Lib.hid (show w.heap.size < w0.heap.size from HX0.out.lt)
  clear t1 HX0 HB0
  generalize w0.heap.size = G at *
  clear w0
  have k0 := K1024.out w1 G 0 0 HR1.out (Nat.zero_le _)
  clear K1024
  go_upto_region 5 with (go_at_call 61; refine k0.mono ?_; rintro _ w2 ⟨F, q0, f0, rfl, hF, hF2, hq0, hr2, hg2⟩; have HF := Lib.hid hF; have HQ0 := Lib.hid hq0; have HR2 := Lib.hid hr2; have HX2 := Lib.hid (HX1.out.grown hg2 (fun e => absurd (Option.some.inj e) (Nat.ne_of_lt HGN.out))); have HB2 := Lib.hid (HB1.out.grown hg2 HB1.out.size (fun k e => by cases e; exact Nat.le_of_lt HGN.out)); have huf := wrap_id (n := F) (by omega); clear k0 hF hF2 hq0 hr2 hg2)
  have HP3 := Lib.hid (Cells.new w2 71 #[.int .i64 (F : Nat), .slice none 0 0])
  have HR3 := Lib.hid (HR2.out.alloc (.cells #[.int .i64 (F : Nat), .slice none 0 0] 71))
  have HX3 := Lib.hid (HX2.out.alloc (.cells #[.int .i64 (F : Nat), .slice none 0 0] 71))
  have HB3 := Lib.hid (HB2.out.alloc HB2.out.size (.cells #[.int .i64 (F : Nat), .slice none 0 0] 71))
  have HGP := Lib.hid (show G < w2.heap.size from HR2.out.lt)
  clear HR1 HX1 HB1 HR2 HX2 HB2 huf
  generalize w2.alloc (.cells #[.int .i64 (F : Nat), .slice none 0 0] 71) = w3 at *
  generalize w2.heap.size = PB at *
  clear w1 w2
  have k1 := KL.out w3 G q0 f0 HR3.out HQ0.out
  clear KL
  go_wp2_with (go_at_call 62; refine k1.mono ?_; rintro _ w4 ⟨m, q1, f1, rfl, hm, hm64, hq1, hr4, hg4⟩; have HM := Lib.hid hm; have HM64 := Lib.hid hm64; have HQ1 := Lib.hid hq1; have HR4 := Lib.hid hr4; have HX4 := Lib.hid (HX3.out.grown hg4 (fun e => absurd (Option.some.inj e) (Nat.ne_of_lt HGN.out))); have HP4 := Lib.hid (HP3.out.grown hg4 (fun e => absurd (Option.some.inj e) (Nat.ne_of_gt HGP.out))); have HB4 := Lib.hid (HB3.out.grown hg4 HB3.out.size (fun k e => by cases e; exact Nat.le_of_lt HGN.out)); clear k1 hm hm64 hq1 hr4 hg4)
  clear HR3 HX3 HP3 HB3 HQ0
  clear w3
  go_loopw [26] (fun iv wr => ∃ (i : Nat) (acc : List Ins) (v : Value) (p : Nat) (e : Int), i ≤ m ∧ iv = .int .i64 (i : Int) ∧ Rdr wr G S p e ∧ p ≤ L.length ∧ Cells wr w.heap.size 71 #[.int .i64 0, .slice none 0 0] ∧ Cells wr PB 71 #[.int .i64 (F : Nat), v] ∧ RowI wr w.heap.size v acc ∧ Below w.heap.size w wr ∧ RdInv L m (q1, f1) acc i (p, e)) (fun iv _ => m - (intOf iv).toNat)
  case atStart => exact ⟨0, [], .slice none 0 0, q1, f1, Nat.zero_le _, rfl, HR4.out, HQ1.out, HX4.out, HP4.out, rowI_nil _ _, HB4.out, rd_start _ _ _⟩
  case round =>
    obtain ⟨i, acc, v, p, e, hi2, rfl, hR, hp, hX, hP, hW, hB, hI⟩ := hrel
    have HRr := Lib.hid hR
    have HXr := Lib.hid hX
    have HPr := Lib.hid hP
    have HWr := Lib.hid hW
    have HBr := Lib.hid hB
    have HIr := Lib.hid hI
    have HPl := Lib.hid hp
    clear hR hX hP hW hB hI hp HR4 HX4 HP4 HB4
    have HNE : Hid (w.heap.size ≠ G ∧ PB ≠ G ∧ w.heap.size ≠ PB ∧ w.heap.size < G ∧ G < PB) := Lib.hid ⟨Nat.ne_of_lt HGN.out, Nat.ne_of_gt HGP.out, Nat.ne_of_lt (Nat.lt_trans HGN.out HGP.out), HGN.out, HGP.out⟩
    by_cases hlt : i < m
    · have HLT := Lib.hid hlt
      have HWI := Lib.hid (wrap_up hlt HM64.out)
      clear hlt hi2
      have HACC : Hid (acc.length < 1073741824) := Lib.hid (by have := HIr.out.2.2; have := HLT.out; have := HM64.out; omega)
      obtain ⟨Av, capv, rfl⟩ := HWr.out.shape
      have k2 := K24.out wr G p e HRr.out HPl.out
      clear K24
      go_upto_region 8 with (go_at_call 61; refine k2.mono ?_; rintro _ w5 ⟨o, q2, f2, rfl, ho, ho24, hq2, hr5, hg5⟩; have HO := Lib.hid ho; have HQ2 := Lib.hid hq2; have HO24 := Lib.hid ho24; have HR5 := Lib.hid hr5; have HT5 := Lib.hid (only_turns hg5); have huo := wrap_id (n := o) (by omega); clear k2 ho ho24 hq2 hr5 hg5)
      clear huo
      have HX5 := Lib.hid (HXr.out.turns HT5.out (by simpa using HNE.out.1))
      have HP5 := Lib.hid (HPr.out.turns HT5.out (by simpa using HNE.out.2.1))
      have HW5 := Lib.hid (HWr.out.turns HT5.out (fun k hk => by simpa using HWr.out.ne (show Cells wr G 133 _ from HRr.out) (by decide) k hk))
      have HB5 := Lib.hid (HBr.out.trans (HT5.out.below HBr.out.size (by simp; exact Nat.le_of_lt HNE.out.2.2.2.1)))
      have HI3 := Lib.hid (Cells.new w5 102 #[.int .i64 (o : Nat), .int .i64 0, .int .i64 0, .int .i64 0, .int .i64 0, .int .u64 0])
      have HR6 := Lib.hid (HR5.out.alloc (.cells #[.int .i64 (o : Nat), .int .i64 0, .int .i64 0, .int .i64 0, .int .i64 0, .int .u64 0] 102))
      have HX6 := Lib.hid (HX5.out.alloc (.cells #[.int .i64 (o : Nat), .int .i64 0, .int .i64 0, .int .i64 0, .int .i64 0, .int .u64 0] 102))
      have HP6 := Lib.hid (HP5.out.alloc (.cells #[.int .i64 (o : Nat), .int .i64 0, .int .i64 0, .int .i64 0, .int .i64 0, .int .u64 0] 102))
      have HW6 : Hid (RowI (w5.alloc (.cells #[.int .i64 (o : Nat), .int .i64 0, .int .i64 0, .int .i64 0, .int .i64 0, .int .u64 0] 102)) w.heap.size (.slice Av acc.length capv) acc) := Lib.hid (HW5.out.keep ((Below.refl w5.heap.size w5).alloc (Nat.le_refl _) _))
      have HB6 := Lib.hid (HB5.out.alloc HB5.out.size (.cells #[.int .i64 (o : Nat), .int .i64 0, .int .i64 0, .int .i64 0, .int .i64 0, .int .u64 0] 102))
      have HOWN := Lib.hid (show (∀ k, (Value.slice Av acc.length capv).ownBlock = some k → k < w5.heap.size) ∧ G < w5.heap.size ∧ PB < w5.heap.size ∧ w.heap.size < w5.heap.size from ⟨fun k hk => (World.ownsRow.lt HW5.out k hk).2, HR5.out.lt, HP5.out.lt, HX5.out.lt⟩)
      clear HRr HXr HPr HWr HBr HR5 HT5 HX5 HP5 HW5 HB5
      generalize w5.alloc (.cells #[.int .i64 (o : Nat), .int .i64 0, .int .i64 0, .int .i64 0, .int .i64 0, .int .u64 0] 102) = w3 at *
      generalize w5.heap.size = Gx at *
      clear wr w5
      have o2 : o < 25 := by have := HO24.out; omega
      go_cut [7] (fun s7 wx => ∃ b5, s7 = .pointer (some ⟨b5, 0, none⟩) ∧ w3.heap.size ≤ b5 ∧ Cells wx b5 104 (formCells o).toArray ∧ Below w3.heap.size w3 wx)
      case first =>
        clear K7 K64 KB KE HU HOWN
        have hi0 : (0 : Int) ≤ o := by omega
        have hi1 : (o : Int) < 25 := by omega
        have y0 : w3.cell? ⟨Gx, 0, none⟩ = some (.int .i64 (o : Int)) := HI3.out.cell (j := 0) rfl
        have y0d : w3.drew.cell? ⟨Gx, 0, none⟩ = some (.int .i64 (o : Int)) := y0
        have y0a : ∀ Z, (w3.alloc Z).cell? ⟨Gx, 0, none⟩ = some (.int .i64 (o : Int)) := fun Z => (HI3.out.alloc Z).cell (j := 0) rfl
        have y0ad : ∀ Z, (w3.alloc Z).drew.cell? ⟨Gx, 0, none⟩ = some (.int .i64 (o : Int)) := y0a
        refine wp_region_held_drew (S := fun w' => w'.cell? ⟨Gx, 0, none⟩ = some (.int .i64 (o : Int))) (by kernel_rfl) y0 (fun hS => ?_)
        refine wpAnyH_take (i := 1) (v := ?_) rfl (by kernel_rfl) (by kernel_rfl) (by kernel_rfl) (fun _ _ _ h => h) (Or.inl ⟨by rfl, ?_⟩) hS ?_
        rotate_left
        · (intro wx hSx; (try dsimp only at hSx); go_simp; (try with_reducible rfl))
        simp only [List.getElem_toArray, List.getElem_cons_succ, List.getElem_cons_zero, Act.put, List.setIfInBounds_toArray, List.set_cons_zero, List.set_cons_succ]
        refine wpAnyH_take (i := 2) (v := ?_) rfl (by kernel_rfl) (by kernel_rfl) (by kernel_rfl) (fun _ _ _ h => h) (Or.inl ⟨by rfl, ?_⟩) hS ?_
        rotate_left
        · (intro wx hSx; (try dsimp only at hSx); go_simp; (try with_reducible rfl))
        simp only [List.getElem_toArray, List.getElem_cons_succ, List.getElem_cons_zero, Act.put, List.setIfInBounds_toArray, List.set_cons_zero, List.set_cons_succ]
        refine wpAnyH_ready (rs := [0, 5]) (by kernel_rfl) (by simp) ?_
        refine AllReadyH.cons rfl (fun K hK => ?_) (AllReadyH.cons rfl (fun K hK => ?_) AllReadyH.nil)
        · go_simp
          go_at_call 63
          refine (forms_in _).mono ?_
          rintro _ wq ⟨bq, rfl, hlq, hFq, hBq⟩
          have HXq := Lib.hid (show Cells wq Gx 102 #[.int .i64 (o : Nat), .int .i64 0, .int .i64 0, .int .i64 0, .int .i64 0, .int .u64 0] from by first | exact Cells.keep HI3.out.drew hBq | exact Cells.keep (HI3.out.alloc _).drew hBq | exact Cells.keep (HI3.out.drew.alloc _).drew hBq)
          have xq : wq.cell? ⟨Gx, 0, none⟩ = some (.int .i64 (o : Int)) := HXq.out.cell (j := 0) rfl
          have xqa : ∀ Z, (wq.alloc Z).cell? ⟨Gx, 0, none⟩ = some (.int .i64 (o : Int)) := fun Z => (HXq.out.alloc Z).cell (j := 0) rfl
          have xqs : ∀ e1 e2 e3 e4, ((((wq.setCell ⟨w3.heap.size, 0, none⟩ e1).setCell ⟨w3.heap.size, 1, none⟩ e2).setCell ⟨w3.heap.size, 2, none⟩ e3).setCell ⟨w3.heap.size, 3, none⟩ e4).cell? ⟨Gx, 0, none⟩ = some (.int .i64 (o : Int)) := fun e1 e2 e3 e4 => ((((HXq.out.far (a := ⟨w3.heap.size, 0, none⟩) (Nat.ne_of_lt HI3.out.lt) e1).far (a := ⟨w3.heap.size, 1, none⟩) (Nat.ne_of_lt HI3.out.lt) e2).far (a := ⟨w3.heap.size, 2, none⟩) (Nat.ne_of_lt HI3.out.lt) e3).far (a := ⟨w3.heap.size, 3, none⟩) (Nat.ne_of_lt HI3.out.lt) e4).cell (j := 0) rfl
          obtain ⟨q0, q1, q2, q3⟩ := forms_at hFq o2
          have r0 := fun Z => (forms_at (hFq.alloc Z) o2).1
          have r1 := fun Z => (forms_at (hFq.alloc Z) o2).2.1
          have r2 := fun Z => (forms_at (hFq.alloc Z) o2).2.2.1
          have r3 := fun Z => (forms_at (hFq.alloc Z) o2).2.2.2
          try (have HZq := Lib.hid (show Cells wq w3.heap.size 104 #[.string ⟨#[]⟩, .int .i64 0, .bool false, .bool false] from Cells.keep (Cells.new w3 _ _).drew hBq); have z0 := HZq.out.cell (j := 0) rfl; have z1 := HZq.out.cell (j := 1) rfl; have z2 := HZq.out.cell (j := 2) rfl; have z3 := HZq.out.cell (j := 3) rfl; have f0 := HZq.out.fz 0; have f1 := HZq.out.fz 1; have f2 := HZq.out.fz 2; have f3 := HZq.out.fz 3)
          have HBw := Lib.hid (show Below w3.heap.size w3 wq from by first | exact grow_to (Below.refl _ w3).drew hBq | exact grow_to ((Below.refl _ w3).alloc (Nat.le_refl _) _).drew hBq)
          have HFq := Lib.hid hFq
          have HBq := Lib.hid hBq
          have HLq := Lib.hid hlq
          clear hFq hBq hlq
          refine hK.out _ _ (by first | with_reducible exact y0 | with_reducible exact y0d | with_reducible exact y0a _ | with_reducible exact y0ad _ | with_reducible exact xq | with_reducible exact xqa _ | with_reducible exact xqs _ _ _ _) (fun hS => ?_)
          clear hK K
          try simp only [Act.put, List.setIfInBounds_toArray, List.set_cons_zero, List.set_cons_succ]
          refine wpAnyH_take (i := 3) (v := ?_) rfl (by kernel_rfl) (by kernel_rfl) (by kernel_rfl) (fun _ _ _ h => h) (Or.inl ⟨by rfl, ?_⟩) hS ?_
          rotate_left
          · (intro wx hSx; (try dsimp only at hSx); go_simp; (try with_reducible rfl))
          simp only [List.getElem_toArray, List.getElem_cons_succ, List.getElem_cons_zero, Act.put, List.setIfInBounds_toArray, List.set_cons_zero, List.set_cons_succ]
          refine wpAnyH_ready (rs := [4, 5]) (by kernel_rfl) (by simp) ?_
          refine AllReadyH.cons rfl (fun K hK => ?_) (AllReadyH.cons rfl (fun K hK => ?_) AllReadyH.nil)
          · go_simp
            refine hK.out _ _ (by first | with_reducible exact y0 | with_reducible exact y0d | with_reducible exact y0a _ | with_reducible exact y0ad _ | with_reducible exact xq | with_reducible exact xqa _ | with_reducible exact xqs _ _ _ _) (fun hS => ?_)
            clear hK K
            try simp only [Act.put, List.setIfInBounds_toArray, List.set_cons_zero, List.set_cons_succ]
            refine wpAnyH_ready (rs := [5]) (by kernel_rfl) (by simp) ?_
            refine AllReadyH.cons rfl (fun K hK => ?_) AllReadyH.nil
            go_simp
            refine hK.out _ _ (by first | with_reducible exact y0 | with_reducible exact y0d | with_reducible exact y0a _ | with_reducible exact y0ad _ | with_reducible exact xq | with_reducible exact xqa _ | with_reducible exact xqs _ _ _ _) (fun hS => ?_)
            clear hK K
            try simp only [Act.put, List.setIfInBounds_toArray, List.set_cons_zero, List.set_cons_succ]
            refine wpAnyH_ready (rs := [6]) (by kernel_rfl) (by simp) ?_
            refine AllReadyH.cons rfl (fun K hK => ?_) AllReadyH.nil
            go_simp
            refine hK.out _ _ (by first | with_reducible exact y0 | with_reducible exact y0d | with_reducible exact y0a _ | with_reducible exact y0ad _ | with_reducible exact xq | with_reducible exact xqa _ | with_reducible exact xqs _ _ _ _) (fun hS => ?_)
            clear hK K
            try simp only [Act.put, List.setIfInBounds_toArray, List.set_cons_zero, List.set_cons_succ]
            refine wpAnyH_done (by kernel_rfl) ?_ _
            go_wp2_with fail
            go_meet
            first
              | exact ⟨_, rfl, HBw.out.size, Cells.new _ _ _, HBw.out.alloc HBw.out.size _⟩
              | exact ⟨_, rfl, Nat.le_refl _, (form_end HZq.out HXq.out HI3.out.lt HBw.out (Nat.le_refl _)).1, (form_end HZq.out HXq.out HI3.out.lt HBw.out (Nat.le_refl _)).2.2⟩
          · go_simp
            refine hK.out _ _ (by first | with_reducible exact y0 | with_reducible exact y0d | with_reducible exact y0a _ | with_reducible exact y0ad _ | with_reducible exact xq | with_reducible exact xqa _ | with_reducible exact xqs _ _ _ _) (fun hS => ?_)
            clear hK K
            try simp only [Act.put, List.setIfInBounds_toArray, List.set_cons_zero, List.set_cons_succ]
            refine wpAnyH_ready (rs := [4]) (by kernel_rfl) (by simp) ?_
            refine AllReadyH.cons rfl (fun K hK => ?_) AllReadyH.nil
            go_simp
            refine hK.out _ _ (by first | with_reducible exact y0 | with_reducible exact y0d | with_reducible exact y0a _ | with_reducible exact y0ad _ | with_reducible exact xq | with_reducible exact xqa _ | with_reducible exact xqs _ _ _ _) (fun hS => ?_)
            clear hK K
            try simp only [Act.put, List.setIfInBounds_toArray, List.set_cons_zero, List.set_cons_succ]
            refine wpAnyH_ready (rs := [6]) (by kernel_rfl) (by simp) ?_
            refine AllReadyH.cons rfl (fun K hK => ?_) AllReadyH.nil
            go_simp
            refine hK.out _ _ (by first | with_reducible exact y0 | with_reducible exact y0d | with_reducible exact y0a _ | with_reducible exact y0ad _ | with_reducible exact xq | with_reducible exact xqa _ | with_reducible exact xqs _ _ _ _) (fun hS => ?_)
            clear hK K
            try simp only [Act.put, List.setIfInBounds_toArray, List.set_cons_zero, List.set_cons_succ]
            refine wpAnyH_done (by kernel_rfl) ?_ _
            go_wp2_with fail
            go_meet
            first
              | exact ⟨_, rfl, HBw.out.size, Cells.new _ _ _, HBw.out.alloc HBw.out.size _⟩
              | exact ⟨_, rfl, Nat.le_refl _, (form_end HZq.out HXq.out HI3.out.lt HBw.out (Nat.le_refl _)).1, (form_end HZq.out HXq.out HI3.out.lt HBw.out (Nat.le_refl _)).2.2⟩
        · go_simp
          refine hK.out _ _ (by first | with_reducible exact y0 | with_reducible exact y0d | with_reducible exact y0a _ | with_reducible exact y0ad _ | with_reducible exact xq | with_reducible exact xqa _ | with_reducible exact xqs _ _ _ _) (fun hS => ?_)
          clear hK K
          try simp only [Act.put, List.setIfInBounds_toArray, List.set_cons_zero, List.set_cons_succ]
          refine wpAnyH_ready (rs := [0]) (by kernel_rfl) (by simp) ?_
          refine AllReadyH.cons rfl (fun K hK => ?_) AllReadyH.nil
          go_simp
          go_at_call 63
          refine (forms_in _).mono ?_
          rintro _ wq ⟨bq, rfl, hlq, hFq, hBq⟩
          have HXq := Lib.hid (show Cells wq Gx 102 #[.int .i64 (o : Nat), .int .i64 0, .int .i64 0, .int .i64 0, .int .i64 0, .int .u64 0] from by first | exact Cells.keep HI3.out.drew hBq | exact Cells.keep (HI3.out.alloc _).drew hBq | exact Cells.keep (HI3.out.drew.alloc _).drew hBq)
          have xq : wq.cell? ⟨Gx, 0, none⟩ = some (.int .i64 (o : Int)) := HXq.out.cell (j := 0) rfl
          have xqa : ∀ Z, (wq.alloc Z).cell? ⟨Gx, 0, none⟩ = some (.int .i64 (o : Int)) := fun Z => (HXq.out.alloc Z).cell (j := 0) rfl
          have xqs : ∀ e1 e2 e3 e4, ((((wq.setCell ⟨w3.heap.size, 0, none⟩ e1).setCell ⟨w3.heap.size, 1, none⟩ e2).setCell ⟨w3.heap.size, 2, none⟩ e3).setCell ⟨w3.heap.size, 3, none⟩ e4).cell? ⟨Gx, 0, none⟩ = some (.int .i64 (o : Int)) := fun e1 e2 e3 e4 => ((((HXq.out.far (a := ⟨w3.heap.size, 0, none⟩) (Nat.ne_of_lt HI3.out.lt) e1).far (a := ⟨w3.heap.size, 1, none⟩) (Nat.ne_of_lt HI3.out.lt) e2).far (a := ⟨w3.heap.size, 2, none⟩) (Nat.ne_of_lt HI3.out.lt) e3).far (a := ⟨w3.heap.size, 3, none⟩) (Nat.ne_of_lt HI3.out.lt) e4).cell (j := 0) rfl
          obtain ⟨q0, q1, q2, q3⟩ := forms_at hFq o2
          have r0 := fun Z => (forms_at (hFq.alloc Z) o2).1
          have r1 := fun Z => (forms_at (hFq.alloc Z) o2).2.1
          have r2 := fun Z => (forms_at (hFq.alloc Z) o2).2.2.1
          have r3 := fun Z => (forms_at (hFq.alloc Z) o2).2.2.2
          try (have HZq := Lib.hid (show Cells wq w3.heap.size 104 #[.string ⟨#[]⟩, .int .i64 0, .bool false, .bool false] from Cells.keep (Cells.new w3 _ _).drew hBq); have z0 := HZq.out.cell (j := 0) rfl; have z1 := HZq.out.cell (j := 1) rfl; have z2 := HZq.out.cell (j := 2) rfl; have z3 := HZq.out.cell (j := 3) rfl; have f0 := HZq.out.fz 0; have f1 := HZq.out.fz 1; have f2 := HZq.out.fz 2; have f3 := HZq.out.fz 3)
          have HBw := Lib.hid (show Below w3.heap.size w3 wq from by first | exact grow_to (Below.refl _ w3).drew hBq | exact grow_to ((Below.refl _ w3).alloc (Nat.le_refl _) _).drew hBq)
          have HFq := Lib.hid hFq
          have HBq := Lib.hid hBq
          have HLq := Lib.hid hlq
          clear hFq hBq hlq
          refine hK.out _ _ (by first | with_reducible exact y0 | with_reducible exact y0d | with_reducible exact y0a _ | with_reducible exact y0ad _ | with_reducible exact xq | with_reducible exact xqa _ | with_reducible exact xqs _ _ _ _) (fun hS => ?_)
          clear hK K
          try simp only [Act.put, List.setIfInBounds_toArray, List.set_cons_zero, List.set_cons_succ]
          refine wpAnyH_take (i := 3) (v := ?_) rfl (by kernel_rfl) (by kernel_rfl) (by kernel_rfl) (fun _ _ _ h => h) (Or.inl ⟨by rfl, ?_⟩) hS ?_
          rotate_left
          · (intro wx hSx; (try dsimp only at hSx); go_simp; (try with_reducible rfl))
          simp only [List.getElem_toArray, List.getElem_cons_succ, List.getElem_cons_zero, Act.put, List.setIfInBounds_toArray, List.set_cons_zero, List.set_cons_succ]
          refine wpAnyH_ready (rs := [4]) (by kernel_rfl) (by simp) ?_
          refine AllReadyH.cons rfl (fun K hK => ?_) AllReadyH.nil
          go_simp
          refine hK.out _ _ (by first | with_reducible exact y0 | with_reducible exact y0d | with_reducible exact y0a _ | with_reducible exact y0ad _ | with_reducible exact xq | with_reducible exact xqa _ | with_reducible exact xqs _ _ _ _) (fun hS => ?_)
          clear hK K
          try simp only [Act.put, List.setIfInBounds_toArray, List.set_cons_zero, List.set_cons_succ]
          refine wpAnyH_ready (rs := [6]) (by kernel_rfl) (by simp) ?_
          refine AllReadyH.cons rfl (fun K hK => ?_) AllReadyH.nil
          go_simp
          refine hK.out _ _ (by first | with_reducible exact y0 | with_reducible exact y0d | with_reducible exact y0a _ | with_reducible exact y0ad _ | with_reducible exact xq | with_reducible exact xqa _ | with_reducible exact xqs _ _ _ _) (fun hS => ?_)
          clear hK K
          try simp only [Act.put, List.setIfInBounds_toArray, List.set_cons_zero, List.set_cons_succ]
          refine wpAnyH_done (by kernel_rfl) ?_ _
          go_wp2_with fail
          go_meet
          first
            | exact ⟨_, rfl, HBw.out.size, Cells.new _ _ _, HBw.out.alloc HBw.out.size _⟩
            | exact ⟨_, rfl, Nat.le_refl _, (form_end HZq.out HXq.out HI3.out.lt HBw.out (Nat.le_refl _)).1, (form_end HZq.out HXq.out HI3.out.lt HBw.out (Nat.le_refl _)).2.2⟩
      case rest =>
        obtain ⟨b5, rfl, hb5, hF, hB9⟩ := hcut
        obtain ⟨r, er⟩ : ∃ r : Nat, opRegs (o : Int) = (r : Int) := ⟨(opRegs (o : Int)).toNat, by have := opRegs_le (o : Int); omega⟩
        have r3 : r ≤ 3 := by have := opRegs_le (o : Int); omega
        have HRB : Hid (readB L (p, e) = (⟨o, regY L (q2, f2) r 0, regY L (q2, f2) r 1, regY L (q2, f2) r 2, (stepN L (opN (o : Int)) (regS L (q2, f2) r)).1, (stepK L (opK (o : Int)) (stepN L (opN (o : Int)) (regS L (q2, f2) r)).2).1.toNat⟩, (stepK L (opK (o : Int)) (stepN L (opN (o : Int)) (regS L (q2, f2) r)).2).2)) := Lib.hid (readB_told HO.out er r3)
        have HNK := Lib.hid (nk_not (o : Int))
        have HFC : formCells o = [.string ⟨(opWord o).toArray⟩, .int .i64 (r : Nat), .bool (opN (o : Int)), .bool (opK (o : Int))] := by unfold formCells; rw [er]
        rw [HFC] at hF
        have HF9 := Lib.hid hF
        have HI9 := Lib.hid (HI3.out.keep hB9)
        have HR9 : Hid (Rdr wc G S q2 f2) := Lib.hid (HR6.out.below hB9 HR6.out.lt)
        have HX9 := Lib.hid (HX6.out.keep hB9)
        have HP9 := Lib.hid (HP6.out.keep hB9)
        have HW9 := Lib.hid (HW6.out.keep hB9)
        have HB9 := Lib.hid (grow_to HB6.out hB9)
        have HNF := Lib.hid (show b5 ≠ Gx ∧ b5 ≠ G from ⟨by have := HI3.out.lt; omega, by have := HR6.out.lt; omega⟩)
        clear HFC er hF hB9 hb5 HI3 HR6 HX6 HP6 HW6 HB6 o2
        generalize opWord o = wdl at *
        generalize opN (o : Int) = bn at *
        generalize opK (o : Int) = bk at *
        clear w3
        have f1 : wc.cell? ⟨b5, 1, none⟩ = some (.int .i64 (r : Nat)) := HF9.out.cell (j := 1) rfl
        have f1a : ∀ Z, (wc.alloc Z).cell? ⟨b5, 1, none⟩ = some (.int .i64 (r : Nat)) := fun Z => (HF9.out.alloc Z).cell (j := 1) rfl
        have i5 : (0 : Int) ≤ r := by omega
        have i6 : (r : Int) ≤ 3 := by omega
        go_wp2
        have HQ6 := Lib.hid (Cells.new wc 89 #[.pointer (some ⟨Gx, 1, none⟩), .pointer (some ⟨Gx, 2, none⟩), .pointer (some ⟨Gx, 3, none⟩)])
        have HI6 := Lib.hid (HI9.out.alloc (.cells #[.pointer (some ⟨Gx, 1, none⟩), .pointer (some ⟨Gx, 2, none⟩), .pointer (some ⟨Gx, 3, none⟩)] 89))
        have HR6 := Lib.hid (HR9.out.alloc (.cells #[.pointer (some ⟨Gx, 1, none⟩), .pointer (some ⟨Gx, 2, none⟩), .pointer (some ⟨Gx, 3, none⟩)] 89))
        have HX6 := Lib.hid (HX9.out.alloc (.cells #[.pointer (some ⟨Gx, 1, none⟩), .pointer (some ⟨Gx, 2, none⟩), .pointer (some ⟨Gx, 3, none⟩)] 89))
        have HP6 := Lib.hid (HP9.out.alloc (.cells #[.pointer (some ⟨Gx, 1, none⟩), .pointer (some ⟨Gx, 2, none⟩), .pointer (some ⟨Gx, 3, none⟩)] 89))
        have HW6 : Hid (RowI (wc.alloc (.cells #[.pointer (some ⟨Gx, 1, none⟩), .pointer (some ⟨Gx, 2, none⟩), .pointer (some ⟨Gx, 3, none⟩)] 89)) w.heap.size (.slice Av acc.length capv) acc) := Lib.hid (HW9.out.keep ((Below.refl wc.heap.size wc).alloc (Nat.le_refl _) _))
        have HF6 := Lib.hid (HF9.out.alloc (.cells #[.pointer (some ⟨Gx, 1, none⟩), .pointer (some ⟨Gx, 2, none⟩), .pointer (some ⟨Gx, 3, none⟩)] 89))
        have HB6 := Lib.hid (HB9.out.alloc HB9.out.size (.cells #[.pointer (some ⟨Gx, 1, none⟩), .pointer (some ⟨Gx, 2, none⟩), .pointer (some ⟨Gx, 3, none⟩)] 89))
        have HNQ := Lib.hid (show wc.heap.size ≠ Gx ∧ wc.heap.size ≠ G from ⟨Nat.ne_of_gt HI9.out.lt, Nat.ne_of_gt HR9.out.lt⟩)
        generalize wc.alloc (.cells #[.pointer (some ⟨Gx, 1, none⟩), .pointer (some ⟨Gx, 2, none⟩), .pointer (some ⟨Gx, 3, none⟩)] 89) = w6 at *
        generalize wc.heap.size = PR at *
        clear HI9 HR9 HX9 HP9 HW9 HF9 HB9 f1 f1a i5 i6
        clear wc
        go_loopw [45] (fun jv wx => ∃ j : Nat, j ≤ r ∧ jv = .int .i64 (j : Int) ∧ Rdr wx G S (regS L (q2, f2) j).1 (regS L (q2, f2) j).2 ∧ Cells wx Gx 102 #[.int .i64 (o : Nat), .int .i64 (regY L (q2, f2) j 0), .int .i64 (regY L (q2, f2) j 1), .int .i64 (regY L (q2, f2) j 2), .int .i64 0, .int .u64 0] ∧ Turns [G, Gx] w6 wx) (fun jv _ => r - (intOf jv).toNat)
        case atStart => exact ⟨0, Nat.zero_le _, rfl, HR6.out, by rw [regY_zero]; exact HI6.out, Turns.refl _ _⟩
        case round =>
          obtain ⟨j, hj, rfl, hR, hX, hT⟩ := hrel
          have HRx := Lib.hid hR
          have HIx := Lib.hid hX
          have HTx := Lib.hid hT
          clear hR hX hT HI6
          have hle := regS_le (L := L) (s := (q2, f2)) HQ2.out j
          by_cases hlt2 : j < r
          · have h3j : j < 3 := by omega
            have HLJ := Lib.hid (show j < r ∧ j < 3 from ⟨hlt2, h3j⟩)
            have l0 : wr.cell? ⟨PR, j, none⟩ = some (.pointer (some ⟨Gx, 1 + j, none⟩)) := ptr_at (HQ6.out.turns HTx.out (by simp; exact ⟨HNQ.out.2, HNQ.out.1⟩)) j h3j
            have i2 : (0 : Int) ≤ j := by omega
            have i3 : (j : Int) < r := by omega
            have hwj : wrap64 ((j : Int) + 1) = (j : Int) + 1 := by unfold wrap64; omega
            have k7 := K7.out wr G _ _ HRx.out hle
            clear hlt2 h3j hj r3 hle
            have HRS : Hid (∀ (u q : Nat) (f : Int), rn L 7 ((regS L (q2, f2) j).1, (regS L (q2, f2) j).2) = ((u : Int), q, f) → regS L (q2, f2) (j + 1) = (q, f) ∧ ∀ Gv : Value, (#[Gv, .int .i64 (regY L (q2, f2) j 0), .int .i64 (regY L (q2, f2) j 1), .int .i64 (regY L (q2, f2) j 2), .int .i64 0, .int .u64 0] : Array Value).setIfInBounds (1 + j) (.int .i64 (u : Nat)) = #[Gv, .int .i64 (regY L (q2, f2) (j + 1) 0), .int .i64 (regY L (q2, f2) (j + 1) 1), .int .i64 (regY L (q2, f2) (j + 1) 2), .int .i64 0, .int .u64 0]) := Lib.hid fun u q f hu => ⟨by show (rn L 7 (regS L (q2, f2) j)).2 = _; rw [show rn L 7 (regS L (q2, f2) j) = ((u : Int), q, f) from hu], fun Gv => regY_set L (q2, f2) j HLJ.out.2 Gv u (by rw [show rn L 7 (regS L (q2, f2) j) = ((u : Int), q, f) from hu])⟩
            have K7j := Lib.hid k7
            clear k7
            go_wp2_with (go_at_call 61; refine K7j.out.mono ?_; rintro _ w7 ⟨u, q3, f3, rfl, hu, hu7, hq3, hr7, hg7⟩; have HUU := Lib.hid hu; have HR7 := Lib.hid hr7; have HT7 := Lib.hid (only_turns hg7); have HI7 := Lib.hid (HIx.out.turns (only_turns hg7) (by simp; exact Nat.ne_of_gt HOWN.out.2.1)); obtain ⟨v1, c1⟩ := cell_some HI7.out j HLJ.out.2; have z1 := HI7.out.fz (1 + j); have n7 := wrap_id (n := u) (by omega); clear hu hu7 hq3 hr7 hg7)
            have hst := HRS.out _ _ _ HUU.out
            refine ⟨⟨j + 1, HLJ.out.1, up_val hwj, ?_, ?_, ?_⟩, up_end HLJ.out.1 hwj⟩
            · rw [hst.1]
              exact HR7.out.far (a := ⟨Gx, 1 + j, none⟩) (Nat.ne_of_lt HOWN.out.2.1) _
            · have := HI7.out.set (1 + j) (.int .i64 (u : Nat))
              rw [hst.2] at this
              exact this
            · exact (HTx.out.trans (HT7.out.mono fun y hy => .inl (by simp at hy; simp [hy]))).set (p := ⟨Gx, 1 + j, none⟩) (.inl (by simp)) _
          · obtain rfl : j = r := by omega
            have i4 : ¬ (j : Int) < j := by omega
            have HF7 := Lib.hid (HF6.out.turns HTx.out (by simp; exact ⟨HNF.out.2, HNF.out.1⟩))
            have HX7 := Lib.hid (HX6.out.turns HTx.out (by simp; exact ⟨HNE.out.1, Nat.ne_of_lt HOWN.out.2.2.2⟩))
            have HP7 := Lib.hid (HP6.out.turns HTx.out (by simp; exact ⟨HNE.out.2.1, Nat.ne_of_lt HOWN.out.2.2.1⟩))
            have HW7 := Lib.hid (HW6.out.turns HTx.out (fun k hk => by simp; exact ⟨HW6.out.ne (show Cells w6 G 133 _ from HR6.out) (by decide) k hk, Nat.ne_of_lt (HOWN.out.1 k hk)⟩))
            have HB7 := Lib.hid (HB6.out.trans (HTx.out.below HB6.out.size (by simp; exact ⟨Nat.le_of_lt HNE.out.2.2.2.1, Nat.le_of_lt HOWN.out.2.2.2⟩)))
            have hle2 := hle
            have HLE := Lib.hid hle2
            clear hle hle2 hj hlt2 r3 HX6 HP6 HW6 HB6 HF6 HQ6 HTx
            have f2c : wr.cell? ⟨b5, 2, none⟩ = some (.bool bn) := HF7.out.cell (j := 2) rfl
            have f3c : wr.cell? ⟨b5, 3, none⟩ = some (.bool bk) := HF7.out.cell (j := 3) rfl
            generalize regY L (q2, f2) j 0 = ya at *
            generalize regY L (q2, f2) j 1 = yb at *
            generalize regY L (q2, f2) j 2 = yc at *
            obtain ⟨⟨rp, re⟩, hrs⟩ : ∃ s, regS L (q2, f2) j = s := ⟨_, rfl⟩
            rw [hrs] at HRx HLE HRB
            dsimp only at HRx HLE
            clear hrs
            cases bn <;> cases bk
            · skip
              have HRB2 : Hid (readB L (p, e) = (⟨o, ya, yb, yc, 0, 0⟩, (rp, re))) := HRB
              go_upto_region 18 with fail
              have HR8 := Lib.hid HRx.out
              have HI8 := Lib.hid HIx.out
              have HX8 := Lib.hid HX7.out
              have HP8 := Lib.hid HP7.out
              have HW8 := Lib.hid HW7.out
              have HB8 := Lib.hid HB7.out
              have HLE8 := Lib.hid HLE.out
              generalize wr = w8 at *
              clear HRB HLE HRx HIx HX7 HP7 HW7 HB7 HF7 f2c f3c
              have p1 : w8.cell? ⟨PB, 1, none⟩ = some (.slice Av acc.length capv) := HP8.out.cell (j := 1) rfl
              have d0 : w8.cell? ⟨Gx, 0, none⟩ = some (.int .i64 (o : Nat)) := HI8.out.cell (j := 0) rfl
              have d1 : w8.cell? ⟨Gx, 1, none⟩ = some (.int .i64 ya) := HI8.out.cell (j := 1) rfl
              have d2 : w8.cell? ⟨Gx, 2, none⟩ = some (.int .i64 yb) := HI8.out.cell (j := 2) rfl
              have d3 : w8.cell? ⟨Gx, 3, none⟩ = some (.int .i64 yc) := HI8.out.cell (j := 3) rfl
              have d4 : w8.cell? ⟨Gx, 4, none⟩ = some (.int .i64 0) := HI8.out.cell (j := 4) rfl
              have d5 : w8.cell? ⟨Gx, 5, none⟩ = some (.int .u64 0) := HI8.out.cell (j := 5) rfl
              go_wp2_with (at_builtin; go_loud (refine wpList_append_elem' rfl _ _ _ rfl w.heap.size 102 i0 _ 6 48 Tryz.underlying69 hi hz0 hz1 hz2 rfl (by decide) (.slice Av acc.length capv) acc.length (acc.flatMap insVals) rfl (show w8.ownsRow w.heap.size 102 6 (.slice Av acc.length capv) acc.length (acc.flatMap insVals) from HW8.out) #[.int .i64 (o : Nat), .int .i64 ya, .int .i64 yb, .int .i64 yc, .int .i64 0, .int .u64 0] rfl (by simp [Value.oneCell']) _ rfl rfl HACC.out (by decide) HB8.out.size ?_); intro v' w9 hown hgrow hat; obtain ⟨g', cap', rfl⟩ := ownsRow_succ hown; have HX9 := Lib.hid (HX8.out.grown hgrow (fun e => HW8.out.ne HX8.out (by decide) _ e.symm rfl)); have HP9 := Lib.hid (HP8.out.grown hgrow (fun e => HW8.out.ne HP8.out (by decide) _ e.symm rfl)); have HR9 : Hid (Rdr w9 G S rp re) := Lib.hid (HR8.out.grown hgrow (fun e => HW8.out.ne (show Cells w8 G 133 _ from HR8.out) (by decide) _ e.symm rfl)); have HW9 : Hid (RowI w9 w.heap.size (.slice (some ⟨g', 0, none⟩) (acc.length + 1) cap') (acc ++ [⟨o, ya, yb, yc, 0, 0⟩])) := Lib.hid (rowI_snoc hown); have HB9 := Lib.hid (HB8.out.grown hgrow HB8.out.size (fun k hk => (World.ownsRow.lt HW8.out k hk).1)); have u1 := HP9.out.cell (j := 1) rfl; have z1 := HP9.out.fz 1; clear hown hgrow hat)
              refine ⟨⟨i + 1, acc ++ [⟨o, ya, yb, yc, 0, 0⟩], .slice (some ⟨g', 0, none⟩) (acc.length + 1) cap', rp, re, HLT.out, up_val HWI.out, HR9.out.far (a := ⟨PB, 1, none⟩) HNE.out.2.1.symm _, HLE8.out, HX9.out.far (a := ⟨PB, 1, none⟩) HNE.out.2.2.1 _, HP9.out.set 1 _, HW9.out.turns (S := [PB]) ((Turns.refl _ w9).set (p := ⟨PB, 1, none⟩) (.inl (by simp)) _) (fun k hk => by simpa using HW9.out.ne HP9.out (by decide) k hk), HB9.out.setCell (p := ⟨PB, 1, none⟩) (Nat.le_of_lt (Nat.lt_trans HNE.out.2.2.2.1 HNE.out.2.2.2.2)) _, rd_step HIr.out HLT.out HRB2.out ?_⟩, up_end HLT.out HWI.out⟩
              exact (show (0 : Nat) < 2 * signB from by unfold signB; decide)
            · skip
              have kk := KB.out wr G rp re HRx.out HLE.out
              have KKK := Lib.hid kk
              clear kk
              go_upto_region 18 with (go_at_call 64; refine KKK.out.mono ?_; rintro _ w7 ⟨u, q3, f3, rfl, hu, hu7, hq3, hr7, hg7⟩; have HUU := Lib.hid hu; have HU7 := Lib.hid hu7; have HQ3 := Lib.hid hq3; have HR7 := Lib.hid hr7; have HT7 := Lib.hid (only_turns hg7); have HI7 := Lib.hid (HIx.out.turns (only_turns hg7) (by simp; exact Nat.ne_of_gt HOWN.out.2.1)); have c1 := HI7.out.cell (j := 5) rfl; have z1 := HI7.out.fz 5; clear hu hu7 hq3 hr7 hg7)
              have HR8 := Lib.hid (HR7.out.far (a := ⟨Gx, 5, none⟩) (Nat.ne_of_lt HOWN.out.2.1) (.int .u64 (u : Nat)))
              have HI8 := Lib.hid (HI7.out.set 5 (.int .u64 (u : Nat)))
              have HX8 := Lib.hid ((HX7.out.turns HT7.out (by simpa using HNE.out.1)).far (a := ⟨Gx, 5, none⟩) (Nat.ne_of_lt HOWN.out.2.2.2) (.int .u64 (u : Nat)))
              have HP8 := Lib.hid ((HP7.out.turns HT7.out (by simpa using HNE.out.2.1)).far (a := ⟨Gx, 5, none⟩) (Nat.ne_of_lt HOWN.out.2.2.1) (.int .u64 (u : Nat)))
              have HW8 := Lib.hid ((HW7.out.turns HT7.out (fun k hk => by simpa using HW7.out.ne (show Cells wr G 133 _ from HRx.out) (by decide) k hk)).turns (S := [Gx]) ((Turns.refl _ w7).set (p := ⟨Gx, 5, none⟩) (.inl (by simp)) (.int .u64 (u : Nat))) (fun k hk => by simpa using Nat.ne_of_lt (HOWN.out.1 k hk)))
              have HB8 := Lib.hid ((HB7.out.trans (HT7.out.below HB7.out.size (by simp; exact Nat.le_of_lt HNE.out.2.2.2.1))).setCell (p := ⟨Gx, 5, none⟩) (Nat.le_of_lt HOWN.out.2.2.2) (.int .u64 (u : Nat)))
              have HLE8 := Lib.hid HQ3.out
              have HRB2 : Hid (readB L (p, e) = (⟨o, ya, yb, yc, 0, u⟩, (q3, f3))) := Lib.hid (by have h := HRB.out; unfold stepN stepK at h; simp only [if_true, if_false, Bool.false_eq_true, HUU.out, Int.toNat_natCast] at h; exact h)
              generalize w7.setCell ⟨Gx, 5, none⟩ (.int .u64 (u : Nat)) = w8 at *
              clear HRB HLE HRx HIx HX7 HP7 HW7 HB7 HF7 f2c f3c c1 z1 KKK HUU HQ3 HR7 HT7 HI7
              have p1 : w8.cell? ⟨PB, 1, none⟩ = some (.slice Av acc.length capv) := HP8.out.cell (j := 1) rfl
              have d0 : w8.cell? ⟨Gx, 0, none⟩ = some (.int .i64 (o : Nat)) := HI8.out.cell (j := 0) rfl
              have d1 : w8.cell? ⟨Gx, 1, none⟩ = some (.int .i64 ya) := HI8.out.cell (j := 1) rfl
              have d2 : w8.cell? ⟨Gx, 2, none⟩ = some (.int .i64 yb) := HI8.out.cell (j := 2) rfl
              have d3 : w8.cell? ⟨Gx, 3, none⟩ = some (.int .i64 yc) := HI8.out.cell (j := 3) rfl
              have d4 : w8.cell? ⟨Gx, 4, none⟩ = some (.int .i64 0) := HI8.out.cell (j := 4) rfl
              have d5 : w8.cell? ⟨Gx, 5, none⟩ = some (.int .u64 (u : Nat)) := HI8.out.cell (j := 5) rfl
              go_wp2_with (at_builtin; go_loud (refine wpList_append_elem' rfl _ _ _ rfl w.heap.size 102 i0 _ 6 48 Tryz.underlying69 hi hz0 hz1 hz2 rfl (by decide) (.slice Av acc.length capv) acc.length (acc.flatMap insVals) rfl (show w8.ownsRow w.heap.size 102 6 (.slice Av acc.length capv) acc.length (acc.flatMap insVals) from HW8.out) #[.int .i64 (o : Nat), .int .i64 ya, .int .i64 yb, .int .i64 yc, .int .i64 0, .int .u64 (u : Nat)] rfl (by simp [Value.oneCell']) _ rfl rfl HACC.out (by decide) HB8.out.size ?_); intro v' w9 hown hgrow hat; obtain ⟨g', cap', rfl⟩ := ownsRow_succ hown; have HX9 := Lib.hid (HX8.out.grown hgrow (fun e => HW8.out.ne HX8.out (by decide) _ e.symm rfl)); have HP9 := Lib.hid (HP8.out.grown hgrow (fun e => HW8.out.ne HP8.out (by decide) _ e.symm rfl)); have HR9 : Hid (Rdr w9 G S q3 f3) := Lib.hid (HR8.out.grown hgrow (fun e => HW8.out.ne (show Cells w8 G 133 _ from HR8.out) (by decide) _ e.symm rfl)); have HW9 : Hid (RowI w9 w.heap.size (.slice (some ⟨g', 0, none⟩) (acc.length + 1) cap') (acc ++ [⟨o, ya, yb, yc, 0, u⟩])) := Lib.hid (rowI_snoc hown); have HB9 := Lib.hid (HB8.out.grown hgrow HB8.out.size (fun k hk => (World.ownsRow.lt HW8.out k hk).1)); have u1 := HP9.out.cell (j := 1) rfl; have z1 := HP9.out.fz 1; clear hown hgrow hat)
              refine ⟨⟨i + 1, acc ++ [⟨o, ya, yb, yc, 0, u⟩], .slice (some ⟨g', 0, none⟩) (acc.length + 1) cap', q3, f3, HLT.out, up_val HWI.out, HR9.out.far (a := ⟨PB, 1, none⟩) HNE.out.2.1.symm _, HLE8.out, HX9.out.far (a := ⟨PB, 1, none⟩) HNE.out.2.2.1 _, HP9.out.set 1 _, HW9.out.turns (S := [PB]) ((Turns.refl _ w9).set (p := ⟨PB, 1, none⟩) (.inl (by simp)) _) (fun k hk => by simpa using HW9.out.ne HP9.out (by decide) k hk), HB9.out.setCell (p := ⟨PB, 1, none⟩) (Nat.le_of_lt (Nat.lt_trans HNE.out.2.2.2.1 HNE.out.2.2.2.2)) _, rd_step HIr.out HLT.out HRB2.out ?_⟩, up_end HLT.out HWI.out⟩
              exact (by have := HU7.out; unfold signB; omega)
            · skip
              have kk := K64.out wr G rp re HRx.out HLE.out
              have KKK := Lib.hid kk
              clear kk
              go_upto_region 18 with (go_at_call 61; refine KKK.out.mono ?_; rintro _ w7 ⟨u, q3, f3, rfl, hu, hu7, hq3, hr7, hg7⟩; have HUU := Lib.hid hu; have HU7 := Lib.hid hu7; have HQ3 := Lib.hid hq3; have HR7 := Lib.hid hr7; have HT7 := Lib.hid (only_turns hg7); have HI7 := Lib.hid (HIx.out.turns (only_turns hg7) (by simp; exact Nat.ne_of_gt HOWN.out.2.1)); have c1 := HI7.out.cell (j := 4) rfl; have z1 := HI7.out.fz 4; have f3s : ∀ x, (w7.setCell ⟨Gx, 4, none⟩ x).cell? ⟨b5, 3, none⟩ = some (.bool false) := fun x => ((HF7.out.turns (only_turns hg7) (by simp; exact HNF.out.2)).far (a := ⟨Gx, 4, none⟩) HNF.out.1 x).cell (j := 3) rfl; have n8 := wrap_id (n := u) (by omega); clear hu hu7 hq3 hr7 hg7)
              have HR8 := Lib.hid (HR7.out.far (a := ⟨Gx, 4, none⟩) (Nat.ne_of_lt HOWN.out.2.1) (.int .i64 (u : Nat)))
              have HI8 := Lib.hid (HI7.out.set 4 (.int .i64 (u : Nat)))
              have HX8 := Lib.hid ((HX7.out.turns HT7.out (by simpa using HNE.out.1)).far (a := ⟨Gx, 4, none⟩) (Nat.ne_of_lt HOWN.out.2.2.2) (.int .i64 (u : Nat)))
              have HP8 := Lib.hid ((HP7.out.turns HT7.out (by simpa using HNE.out.2.1)).far (a := ⟨Gx, 4, none⟩) (Nat.ne_of_lt HOWN.out.2.2.1) (.int .i64 (u : Nat)))
              have HW8 := Lib.hid ((HW7.out.turns HT7.out (fun k hk => by simpa using HW7.out.ne (show Cells wr G 133 _ from HRx.out) (by decide) k hk)).turns (S := [Gx]) ((Turns.refl _ w7).set (p := ⟨Gx, 4, none⟩) (.inl (by simp)) (.int .i64 (u : Nat))) (fun k hk => by simpa using Nat.ne_of_lt (HOWN.out.1 k hk)))
              have HB8 := Lib.hid ((HB7.out.trans (HT7.out.below HB7.out.size (by simp; exact Nat.le_of_lt HNE.out.2.2.2.1))).setCell (p := ⟨Gx, 4, none⟩) (Nat.le_of_lt HOWN.out.2.2.2) (.int .i64 (u : Nat)))
              have HLE8 := Lib.hid HQ3.out
              have HRB2 : Hid (readB L (p, e) = (⟨o, ya, yb, yc, (u : Nat), 0⟩, (q3, f3))) := Lib.hid (by have h := HRB.out; unfold stepN stepK at h; simp only [if_true, if_false, Bool.false_eq_true, HUU.out] at h; exact h)
              generalize w7.setCell ⟨Gx, 4, none⟩ (.int .i64 (u : Nat)) = w8 at *
              clear HRB HLE HRx HIx HX7 HP7 HW7 HB7 HF7 f2c f3c c1 z1 KKK HUU HQ3 HR7 HT7 HI7
              have p1 : w8.cell? ⟨PB, 1, none⟩ = some (.slice Av acc.length capv) := HP8.out.cell (j := 1) rfl
              have d0 : w8.cell? ⟨Gx, 0, none⟩ = some (.int .i64 (o : Nat)) := HI8.out.cell (j := 0) rfl
              have d1 : w8.cell? ⟨Gx, 1, none⟩ = some (.int .i64 ya) := HI8.out.cell (j := 1) rfl
              have d2 : w8.cell? ⟨Gx, 2, none⟩ = some (.int .i64 yb) := HI8.out.cell (j := 2) rfl
              have d3 : w8.cell? ⟨Gx, 3, none⟩ = some (.int .i64 yc) := HI8.out.cell (j := 3) rfl
              have d4 : w8.cell? ⟨Gx, 4, none⟩ = some (.int .i64 (u : Nat)) := HI8.out.cell (j := 4) rfl
              have d5 : w8.cell? ⟨Gx, 5, none⟩ = some (.int .u64 0) := HI8.out.cell (j := 5) rfl
              go_wp2_with (at_builtin; go_loud (refine wpList_append_elem' rfl _ _ _ rfl w.heap.size 102 i0 _ 6 48 Tryz.underlying69 hi hz0 hz1 hz2 rfl (by decide) (.slice Av acc.length capv) acc.length (acc.flatMap insVals) rfl (show w8.ownsRow w.heap.size 102 6 (.slice Av acc.length capv) acc.length (acc.flatMap insVals) from HW8.out) #[.int .i64 (o : Nat), .int .i64 ya, .int .i64 yb, .int .i64 yc, .int .i64 (u : Nat), .int .u64 0] rfl (by simp [Value.oneCell']) _ rfl rfl HACC.out (by decide) HB8.out.size ?_); intro v' w9 hown hgrow hat; obtain ⟨g', cap', rfl⟩ := ownsRow_succ hown; have HX9 := Lib.hid (HX8.out.grown hgrow (fun e => HW8.out.ne HX8.out (by decide) _ e.symm rfl)); have HP9 := Lib.hid (HP8.out.grown hgrow (fun e => HW8.out.ne HP8.out (by decide) _ e.symm rfl)); have HR9 : Hid (Rdr w9 G S q3 f3) := Lib.hid (HR8.out.grown hgrow (fun e => HW8.out.ne (show Cells w8 G 133 _ from HR8.out) (by decide) _ e.symm rfl)); have HW9 : Hid (RowI w9 w.heap.size (.slice (some ⟨g', 0, none⟩) (acc.length + 1) cap') (acc ++ [⟨o, ya, yb, yc, ((u : Nat) : Int), 0⟩])) := Lib.hid (rowI_snoc hown); have HB9 := Lib.hid (HB8.out.grown hgrow HB8.out.size (fun k hk => (World.ownsRow.lt HW8.out k hk).1)); have u1 := HP9.out.cell (j := 1) rfl; have z1 := HP9.out.fz 1; clear hown hgrow hat)
              refine ⟨⟨i + 1, acc ++ [⟨o, ya, yb, yc, ((u : Nat) : Int), 0⟩], .slice (some ⟨g', 0, none⟩) (acc.length + 1) cap', q3, f3, HLT.out, up_val HWI.out, HR9.out.far (a := ⟨PB, 1, none⟩) HNE.out.2.1.symm _, HLE8.out, HX9.out.far (a := ⟨PB, 1, none⟩) HNE.out.2.2.1 _, HP9.out.set 1 _, HW9.out.turns (S := [PB]) ((Turns.refl _ w9).set (p := ⟨PB, 1, none⟩) (.inl (by simp)) _) (fun k hk => by simpa using HW9.out.ne HP9.out (by decide) k hk), HB9.out.setCell (p := ⟨PB, 1, none⟩) (Nat.le_of_lt (Nat.lt_trans HNE.out.2.2.2.1 HNE.out.2.2.2.2)) _, rd_step HIr.out HLT.out HRB2.out ?_⟩, up_end HLT.out HWI.out⟩
              exact (show (0 : Nat) < 2 * signB from by unfold signB; decide)
            · exact absurd ⟨rfl, rfl⟩ HNK.out
    · obtain rfl : i = m := by omega
      have i4 : ¬ (i : Int) < i := by omega
      obtain ⟨Av, capv, rfl⟩ := HWr.out.shape
      have hu := HU.out _ _ _ _ _ _ _ _ _ HF.out HM.out (rd_end HIr.out)
      have HUU := Lib.hid hu
      have HCODE := Lib.hid (HWr.out.code HIr.out.2.1)
      have HKK := Lib.hid HIr.out.2.1
      have ke := KE.out wr G p e HRr.out
      have kc := fun n => check_any (F : Nat) Av acc capv (wr.drewN n) (show CodeIn (wr.drewN n) (wr.drewN n).heap.size Av acc from HCODE.out)
      obtain ⟨er, her⟩ : ∃ er, (progCheck (F : Nat) acc).1 = er := ⟨_, rfl⟩
      obtain ⟨at_, hat⟩ : ∃ at_, (progCheck (F : Nat) acc).2 = at_ := ⟨_, rfl⟩
      rw [her, hat] at kc
      rw [her] at HUU
      have KEE := Lib.hid ke
      have KCC := Lib.hid kc
      clear hu ke kc her hat hi2 hlt
      have q0c : ∀ n, (wr.drewN n).cell? ⟨PB, 0, none⟩ = some (.int .i64 (F : Nat)) := fun n => (HPr.out.drewN n).cell (j := 0) rfl
      have q1c : ∀ n, (wr.drewN n).cell? ⟨PB, 1, none⟩ = some (.slice Av acc.length capv) := fun n => (HPr.out.drewN n).cell (j := 1) rfl
      obtain ⟨ft, hft⟩ : ∃ ft : Int, (if e = 0 ∧ p < L.length then 24 else e) = ft := ⟨_, rfl⟩
      rw [hft] at KEE
      have HFT : Hid (ft = 0 ↔ e = 0 ∧ ¬ p < L.length) := Lib.hid (by
        rw [← hft]
        by_cases h : e = 0 ∧ p < L.length
        · rw [if_pos h]; exact ⟨fun h2 => absurd h2 (by decide), fun h2 => absurd h.2 h2.2⟩
        · rw [if_neg h]; exact ⟨fun h2 => ⟨h2, fun h3 => h ⟨h2, h3⟩⟩, fun h2 => h2.1⟩)
      clear hft
      by_cases hgood : er = 0 ∧ ft = 0
      · obtain ⟨rfl, rfl⟩ := hgood
        have HOUT : Hid (unpackP L = (0, F, acc)) := Lib.hid (HUU.out.trans (if_pos ⟨(HFT.out.1 rfl).1, (HFT.out.1 rfl).2, rfl⟩))
        clear HUU HFT
        go_wp2_with (first | (go_at_call 65; refine KEE.out.mono ?_; rintro _ w8 ⟨⟨pp, rfl⟩, nn, rfl⟩) | (go_at_call 66; refine (KCC.out _).mono ?_; rintro _ w9 ⟨rfl, hb9⟩; have HX9 := Lib.hid ((HXr.out.drewN _).keep hb9); have HP9 := Lib.hid ((HPr.out.drewN _).keep hb9); have HW9 := Lib.hid ((show RowI (wr.drewN _) w.heap.size (.slice Av acc.length capv) acc from HWr.out).keep hb9); have HB9 := Lib.hid (grow_to (below_drewN HBr.out _) hb9); have u0 := HP9.out.cell (j := 0) rfl; have u1 := HP9.out.cell (j := 1) rfl; have v0 := HX9.out.cell (j := 0) rfl; have v1 := HX9.out.cell (j := 1) rfl; have z0 := HX9.out.fz 0; have z1 := HX9.out.fz 1; clear hb9))
        generalize hW9 : World.setCell _ _ _ = W9
        refine ret_prog rfl rfl rfl (hW9 ▸ (HX9.out.set 0 _).set 1 _) rfl ?_
        unfold UnpackOut
        rw [HOUT.out]
        refine ⟨⟨Av, capv, rfl, ?_, HKK.out⟩, hW9 ▸ (HB9.out.setCell (Nat.le_refl _) _).setCell (Nat.le_refl _) _⟩
        rw [← hW9]
        exact HW9.out.turns (S := [w.heap.size]) (((Turns.refl _ w9).set (p := ⟨w.heap.size, 0, none⟩) (.inl (by simp)) _).set (p := ⟨w.heap.size, 1, none⟩) (.inl (by simp)) _) (fun k hk => by simpa using HW9.out.ne HX9.out (by decide) k hk)
      · have HOUT : Hid (unpackP L = (54, 0, [])) := Lib.hid (HUU.out.trans (if_neg fun h => hgood ⟨h.2.2, HFT.out.2 ⟨h.1, h.2.1⟩⟩))
        have hway : (er != 0) = true ∨ ((er != 0) = false ∧ (ft != 0) = true) := by
          by_cases h : er = 0
          · exact .inr ⟨by rw [bne_eq_false_iff_eq]; exact h, by rw [bne_iff_ne]; exact fun h2 => hgood ⟨h, h2⟩⟩
          · exact .inl (by rw [bne_iff_ne]; exact h)
        clear HUU HFT hgood
        rcases hway with b0 | ⟨b0, b1⟩
        all_goals go_wp2_with (first | (go_at_call 65; refine KEE.out.mono ?_; rintro _ w8 ⟨⟨pp, rfl⟩, nn, rfl⟩) | (go_at_call 66; refine (KCC.out _).mono ?_; rintro _ w9 ⟨rfl, hb9⟩; have HX9 := Lib.hid ((HXr.out.drewN _).keep hb9); have HB9 := Lib.hid (grow_to (below_drewN HBr.out _) hb9); have v0 := HX9.out.cell (j := 0) rfl; have v1 := HX9.out.cell (j := 1) rfl; have z0 := HX9.out.fz 0; have z1 := HX9.out.fz 1; clear hb9))
        all_goals generalize hW9 : World.setCell _ _ _ = W9
        all_goals exact ret_prog rfl rfl rfl (hW9 ▸ (HX9.out.set 0 _).set 1 _) rfl (uo_bad HOUT.out (hW9 ▸ (HB9.out.setCell (Nat.le_refl _) _).setCell (Nat.le_refl _) _))
end Go.Proofs.YtdkencepmdfacaaGreatDoor
