/- The document's Pack (contract). -/
import Derived.Test.YtiidkgdlngcpgaaGreatDoorQb
import Derived.Test.YtiidkgdlngcpgaaGreatDoorKr5
set_option maxRecDepth 100000
namespace Go.Proofs.YtiidkgdlngcpgaaGreatDoor
open Go.RowKit Ieee

theorem prog_range {fuel : Int} {l : List Ins} (h : (progCheck fuel l).1 = 0) : (1 ≤ fuel ∧ fuel ≤ 1024) ∧ 1 ≤ l.length ∧ l.length ≤ 64 := by
  unfold progCheck at h
  split at h
  · cases h
  split at h
  · cases h
  omega
/-- the bytes of the first instructions -/
def headB (fuel : Int) (l : List Ins) (g : Nat) : List UInt8 := vb fuel.toNat ++ (vb l.length ++ codeB (l.take g))
theorem headB_all {fuel : Int} {l : List Ins} (n : Nat) (h : l.length ≤ n) : headB fuel l n = progB fuel.toNat l := by unfold headB progB; rw [List.take_of_length_le h]
theorem headB_zero (fuel : Int) (l : List Ins) : headB fuel l 0 = vb fuel.toNat ++ vb l.length := by simp [headB, codeB]
theorem headB_succ {fuel : Int} {l : List Ins} {g : Nat} {x : Ins} (h : l[g]? = some x) : headB fuel l (g + 1) = headB fuel l g ++ (vb x.op.toNat ++ (x.regB ++ x.tailB)) := by
  obtain ⟨h1, h2⟩ := List.getElem?_eq_some_iff.1 h
  have e : l.take (g + 1) = l.take g ++ [x] := by rw [List.take_succ_eq_append_getElem h1, h2]
  unfold headB
  rw [e]
  simp [codeB, Ins.bytes]
theorem headB_le {fuel : Int} {l : List Ins} (h : (progCheck fuel l).1 = 0) (hk : ∀ x ∈ l, x.k < 2 * signB) (g : Nat) : (headB fuel l g).length ≤ 800 := by
  obtain ⟨h1, h2⟩ := prog_range h
  obtain ⟨fn, rfl⟩ := Int.eq_ofNat_of_zero_le (show 0 ≤ fuel by omega)
  have hf := prog_full h hk
  have hc := codeB_le (l.take g) fun x hx => ⟨(hf x (List.mem_of_mem_take hx)).1, by have := (hf x (List.mem_of_mem_take hx)).2; omega⟩
  have := vb_len10 (fn : Int).toNat (by omega)
  have := vb_len10 l.length (by omega)
  have : (l.take g).length ≤ 64 := by rw [List.length_take]; omega
  unfold headB
  simp only [List.length_append]
  omega
/-- the bytes of the first registers -/
def regBto (x : Ins) (i : Nat) : List UInt8 := (List.range i).flatMap fun j => vb (x.regI j).toNat
theorem regBto_succ (x : Ins) (i : Nat) : regBto x (i + 1) = regBto x i ++ vb (x.regI i).toNat := by simp [regBto, List.range_succ]
theorem regBto_all (x : Ins) : x.regB = regBto x (opRegs x.op).toNat := rfl
theorem regI_ok {x : Ins} (h : x.Full) (i : Nat) : 0 ≤ x.regI i ∧ x.regI i < 8 := by
  rcases i with _ | _ | i
  · exact h.a
  · exact h.b
  · exact h.c
theorem regBto_le {x : Ins} (h : x.Full) : ∀ i, (regBto x i).length ≤ i
  | 0 => by simp [regBto]
  | i + 1 => by
    have := regBto_le h i
    have h2 := regI_ok h i
    rw [regBto_succ, List.length_append, vb_one (by omega)]
    omega
theorem opRegs_le (o : Int) : 0 ≤ opRegs o ∧ opRegs o ≤ 3 := by
  unfold opRegs
  repeat' split
  all_goals decide
theorem str_app (a b : List UInt8) : str (a ++ b) = str a ++ str b := ByteArray.ext (by simp [str])
theorem int_num {v : Int} (h : 0 ≤ v ∧ v < 9223372036854775808) : ∃ n : Nat, v = n ∧ n < 18446744073709551616 := ⟨v.toNat, by omega, by omega⟩
def regVto (v : Nat → Nat) (i : Nat) : List UInt8 := (List.range i).flatMap fun j => vb (v j)
theorem regVto_zero (v : Nat → Nat) : regVto v 0 = [] := rfl
theorem regVto_succ (v : Nat → Nat) (i : Nat) : regVto v (i + 1) = regVto v i ++ vb (v i) := by simp [regVto, List.range_succ]
theorem regVto_le {v : Nat → Nat} (h : ∀ i, v i < 8) : ∀ i, (regVto v i).length ≤ i
  | 0 => by simp [regVto]
  | i + 1 => by
    have := regVto_le h i
    have h2 := h i
    rw [regVto_succ, List.length_append, vb_one (by omega)]
    omega
/-- an instruction that may be, in numbers -/
theorem ins_told {x : Ins} {len : Nat} (h : x.Full) (hn : x.n ≤ (len : Int)) (hl : len ≤ 64) :
    ∃ (o r n : Nat) (v : Nat → Nat), x.op = (o : Int) ∧ x.a = (v 0 : Nat) ∧ x.b = (v 1 : Nat) ∧ x.c = (v 2 : Nat) ∧ x.n = (n : Int) ∧ 1 ≤ o ∧ o < 25 ∧ opRegs (o : Int) = (r : Int) ∧ r ≤ 3 ∧ n ≤ 64 ∧ (∀ i, v i < 8) ∧ x.k < 18446744073709551616 ∧ x.regB = regVto v r ∧ x.tailB = (if opN (o : Int) = true then vb n else []) ++ (if opK (o : Int) = true then bb x.k else []) := by
  have ho := h.op
  have ha := h.a
  have hb := h.b
  have hc := h.c
  have hn0 := h.n
  have e0 : x.op = ((x.op.toNat : Nat) : Int) := by omega
  have hr := opRegs_le x.op
  have hkb := h.kb
  refine ⟨x.op.toNat, (opRegs x.op).toNat, x.n.toNat, fun i => (x.regI i).toNat, e0, ?_, ?_, ?_, by omega, by omega, by omega, by rw [← e0]; omega, by omega, by omega, fun i => by have := regI_ok h i; show (x.regI i).toNat < 8; omega, ?_, rfl, ?_⟩
  · show x.a = (x.a.toNat : Int); omega
  · show x.b = (x.b.toNat : Int); omega
  · show x.c = (x.c.toNat : Int); omega
  · unfold signB at hkb; omega
  · rw [← e0]; rfl
theorem big_no {a b : Nat} (ha : a ≤ 820) (hb : b ≤ 10) : ¬ 9223372036854775807 < a + b := by omega
theorem big_no3 {a b c : Nat} (ha : a ≤ 820) (hb : b ≤ 10) (hc : c ≤ 8) : ¬ 9223372036854775807 < a + b + c := by omega
theorem wrap_up {g len : Nat} (h : g < len) (hl : len ≤ 64) : wrap64 ((g : Int) + 1) = (g : Int) + 1 := by unfold wrap64; omega
theorem up_end {i r : Nat} (h : i < r) (hw : wrap64 ((i : Int) + 1) = (i : Int) + 1) : r - (intOf (Value.int .i64 (wrap64 ((i : Int) + 1)))).toNat < r - (intOf (Value.int .i64 (i : Int))).toNat := by
  rw [hw]
  simp [intOf]
  omega
theorem up_val {i : Nat} (hw : wrap64 ((i : Int) + 1) = (i : Int) + 1) : Value.int .i64 (wrap64 ((i : Int) + 1)) = Value.int .i64 ((i + 1 : Nat) : Int) := by rw [hw]; rfl
theorem str_nil : str [] = ByteArray.empty := ByteArray.ext rfl
theorem wrapU {n : Nat} (h : n < 18446744073709551616) : IntKind.u64.wrap (n : Int) = n := by rw [IntKind.wrap_u64]; omega

set_option maxHeartbeats 4000000 in
set_option maxRecDepth 100000 in
theorem rpack_any (fuel : Int) (A : Option Addr) (l : List Ins) (cap : Nat) (w : World) (hC : CodeIn w w.heap.size A l) (hk : ∀ x ∈ l, x.k < 2 * signB) :
    Calls Tryz.prog 22 #[.agg #[.int .i64 fuel, .slice A l.length cap]] w fun e w' => e = .returned (.tuple #[.string (if (progCheck fuel l).1 = 0 then str (progB fuel.toNat l) else ⟨#[]⟩), .int .i64 (progCheck fuel l).1]) ∧ Below w.heap.size w w' := by
  have HX := Lib.hid (Cells.new w 24 #[.int .i64 fuel, .slice A l.length cap])
  have HB := Lib.hid ((Below.refl w.heap.size w).alloc (Nat.le_refl _) (.cells #[.int .i64 fuel, .slice A l.length cap] 24))
  have hck := rcheck_any fuel A l cap (w.alloc (.cells #[.int .i64 fuel, .slice A l.length cap] 24)) ((hC.keep HB.out).more HB.out.size)
  by_cases h0 : (progCheck fuel l).1 = 0
  case neg =>
    rw [if_neg h0]
    have t1 : ((progCheck fuel l).1 == 0) = false := by rw [beq_eq_false_iff_ne]; exact h0
    have t2 : ((progCheck fuel l).1 != 0) = true := by simp [bne, t1]
    have HCK := Lib.hid hck
    clear hck h0
    generalize (progCheck fuel l).1 = er at *
    generalize (progCheck fuel l).2 = at_ at *
    generalize l.length = len at *
    go_enter Tryz.func22, Tryz.ntmps22
    go_wp2_with fail
    refine HCK.out.mono ?_
    rintro _ w1 ⟨rfl, hb1⟩
    have HB1 := Lib.hid (grow_to HB.out hb1)
    clear hb1
    go_wp2
    go_ret2
    exact ⟨rfl, HB1.out⟩
  rw [if_pos h0, h0]
  rw [h0] at hck
  obtain ⟨hf, hl1, hl2⟩ := prog_range h0
  obtain ⟨fn, rfl⟩ := Int.eq_ofNat_of_zero_le (show 0 ≤ fuel by omega)
  have HFULL := Lib.hid (prog_full h0 hk)
  have HLE := Lib.hid (headB_le h0 hk)
  have HCC := Lib.hid hC
  have HCK := Lib.hid hck
  clear hck h0 hk hC
  rw [← headB_all l.length (Nat.le_refl _)]
  have HS0 := Lib.hid (headB_zero fn l)
  rw [Int.toNat_natCast] at HS0
  obtain ⟨HD, hHD⟩ : ∃ HD, headB fn l = HD := ⟨_, rfl⟩
  have HSU : Hid (∀ (g : Nat) (x : Ins), l[g]? = some x → HD (g + 1) = HD g ++ (vb x.op.toNat ++ (x.regB ++ x.tailB))) := Lib.hid fun g x hx => hHD ▸ headB_succ hx
  rw [hHD] at HS0 HLE ⊢
  clear hHD
  generalize (progCheck fn l).2 = at_ at *
  generalize hlen : l.length = len at *
  have HLEN := Lib.hid hlen
  clear hlen
  have k1 := fun W => RNum_any fn W (by omega)
  have k2 := fun W => RNum_any len W (by omega)
  have s1 : (str (vb fn)).size ≤ 10 := by rw [str_size]; exact vb_len10 _ (by omega)
  have s2 : (str (vb len)).size ≤ 10 := by rw [str_size]; exact vb_len10 _ (by omega)
  have HS1 : Hid (str (HD 0) = str (vb fn) ++ str (vb len)) := Lib.hid (by rw [HS0.out, str_app])
  clear HS0
  have u1 : IntKind.u64.wrap (fn : Int) = fn := by rw [IntKind.wrap_u64]; omega
  have u2 : IntKind.u64.wrap (len : Int) = len := by rw [IntKind.wrap_u64]; omega
  generalize str (vb fn) = S1 at *
  generalize str (vb len) = S2 at *
  go_enter Tryz.func22, Tryz.ntmps22
  go_upto_region 4 with (go_at_call 13; go_loud (refine HCK.out.mono ?_); rintro _ w1 ⟨rfl, hb1⟩; have HB1 := Lib.hid (grow_to HB.out hb1); have HX1 := Lib.hid (HX.out.keep hb1); clear hb1)
  clear HB HX HCK
  have q0 : ∀ y : BW w1, y.val.cell? ⟨w.heap.size, 0, none⟩ = some (.int .i64 (fn : Int)) := fun y => y.cell (HX1.out.cell (j := 0) rfl)
  have q1 : ∀ y : BW w1, y.val.cell? ⟨w.heap.size, 1, none⟩ = some (.slice A len cap) := fun y => y.cell (HX1.out.cell (j := 1) rfl)
  have s12 : ¬ 9223372036854775807 < S1.size + S2.size := by omega
  refine wp_region_bw (w := w1) (by kernel_rfl) (by kernel_rfl) ?_
  repeat (refine wpQuiet_step (fun K hK => ?_); go_simp; first | (refine hK _ ?_; clear hK K) | (apply Exists.intro; refine ⟨fun _ => ?_, hK _ ?_⟩; (go_at_call 46; first | (with_reducible exact Calls.quiet_bw (k1 _)) | (with_reducible exact Calls.quiet_bw (k2 _))); clear hK K))
  refine wpQuiet_nil ?_
  intro yq
  have HX2 := Lib.hid (HX1.out.keep yq.below)
  have HB2 := Lib.hid (grow_to HB1.out yq.below)
  generalize yq.val = w2 at *
  clear q0 q1 k1 k2 HB1 HX1 yq w1 u1 u2
  rw [← HS1.out]
  clear HS1 s1 s2 s12
  go_wp2
  go_loopw [7, 6] (fun iv bv wr => ∃ g : Nat, g ≤ len ∧ iv = .int .i64 (g : Int) ∧ bv = .string (str (HD g)) ∧ Cells wr w.heap.size 24 #[.int .i64 fn, .slice A len cap] ∧ Below w.heap.size w wr) (fun iv _ _ => len - (intOf iv).toNat)
  case atStart => exact ⟨0, Nat.zero_le _, rfl, rfl, HX2.out, HB2.out⟩
  case round =>
    obtain ⟨g, hg, rfl, rfl, hX, hB⟩ := hrel
    have p1 : wr.cell? ⟨w.heap.size, 1, none⟩ = some (.slice A len cap) := hX.cell (j := 1) rfl
    have HXR := Lib.hid hX
    have HBR := Lib.hid hB
    clear hX hB HX2 HB2
    by_cases hlt : g < len
    · obtain ⟨x, hx⟩ : ∃ x, l[g]? = some x := ⟨l[g]'(by rw [HLEN.out]; exact hlt), List.getElem?_eq_getElem _⟩
      have HF := Lib.hid (HFULL.out x (List.mem_of_getElem? hx))
      obtain ⟨b, off, rfl, hb, hc⟩ := HCC.out (by rw [HLEN.out]; omega)
      obtain ⟨c0, c1, c2, c3, c4, c5⟩ := ((hc g x hx).1.keep HBR.out hb)
      have HSUX := Lib.hid (HSU.out g x hx)
      have HL1 := Lib.hid (HLE.out g)
      have HL2 := Lib.hid (HLE.out (g + 1))
      clear hc hx HCC HSU HFULL HLEN HLE
      have i0 : (0 : Int) ≤ g := by omega
      have i1 : (g : Int) < len := by omega
      obtain ⟨o, r, n, v, e0, e1, e2, e3, e4, o1, o2, er, r3, n64, hv, hk, eB, eT⟩ := ins_told HF.out.1 HF.out.2 hl2
      have HSU : Hid (str (HD (g + 1)) = str (HD g) ++ str (vb o) ++ str (regVto v r) ++ (if opN (o : Int) = true then str (vb n) else str []) ++ (if opK (o : Int) = true then str (bb x.k) else str [])) := Lib.hid (by
        rw [HSUX.out, eB, eT, e0, Int.toNat_natCast, str_app, str_app, str_app, str_app, ByteArray.append_assoc, ByteArray.append_assoc, ByteArray.append_assoc]
        split <;> split <;> rfl)
      rw [e0] at c0
      rw [e1] at c1
      rw [e2] at c2
      rw [e3] at c3
      rw [e4] at c4
      clear HSUX e0 e1 e2 e3 e4 eB eT HF
      generalize x.k = k at *
      clear x
      have kh := fun W => rhas_any (o := o) o1 o2 W
      rw [er] at kh
      clear er
      generalize opN (o : Int) = bn at *
      generalize opK (o : Int) = bk at *
      have ko := fun W => RNum_any o W (by omega)
      have kn := fun W => RNum_any n W (by omega)
      have kk := fun W => RBits_any k W hk
      have kv := fun i W => RNum_any (v i) W (by have := hv i; omega)
      have HVS := Lib.hid fun i => (show (str (vb (v i))).size ≤ 10 from by rw [str_size]; exact vb_len10 _ (by have := hv i; omega))
      have HRS := Lib.hid fun i => (show (str (regVto v i)).size ≤ i from by rw [str_size]; exact regVto_le hv i)
      have so : (str (vb o)).size ≤ 10 := by rw [str_size]; exact vb_len10 _ (by omega)
      have sn : (str (vb n)).size ≤ 10 := by rw [str_size]; exact vb_len10 _ (by omega)
      have sk : (str (bb k)).size ≤ 8 := by rw [str_size, bb_len]; exact Nat.le_refl _
      have sg : (str (HD g)).size ≤ 800 := by rw [str_size]; exact HL1.out
      have HV1 := Lib.hid fun i => wrapU (n := v i) (by have := hv i; omega)
      have uo := wrapU (n := o) (by omega)
      have un := wrapU (n := n) (by omega)
      have uk := wrapU (n := k) (by omega)
      have HR0 : Hid (str (regVto v 0) = ⟨#[]⟩) := Lib.hid rfl
      have HR1 : Hid (∀ i, str (regVto v (i + 1)) = str (regVto v i) ++ str (vb (v i))) := Lib.hid fun i => by rw [regVto_succ, str_app]
      clear hk hv HL1 HL2
      generalize str (vb o) = So at *
      generalize str (vb n) = Sn at *
      generalize str (bb k) = Sk at *
      obtain ⟨sv, hsv⟩ : ∃ sv : Nat → ByteArray, (fun i => str (vb (v i))) = sv := ⟨_, rfl⟩
      obtain ⟨sr, hsr⟩ : ∃ sr : Nat → ByteArray, (fun i => str (regVto v i)) = sr := ⟨_, rfl⟩
      replace HVS : Hid (∀ i, (sv i).size ≤ 10) := Lib.hid (hsv ▸ HVS.out)
      replace HRS : Hid (∀ i, (sr i).size ≤ i) := Lib.hid (hsr ▸ HRS.out)
      replace HR0 : Hid (sr 0 = ⟨#[]⟩) := Lib.hid (hsr ▸ HR0.out)
      replace HR1 : Hid (∀ i, sr (i + 1) = sr i ++ sv i) := Lib.hid (by rw [← hsr, ← hsv]; exact HR1.out)
      replace HSU : Hid (str (HD (g + 1)) = str (HD g) ++ So ++ sr r ++ (if bn = true then Sn else str []) ++ (if bk = true then Sk else str [])) := Lib.hid (hsr ▸ HSU.out)
      replace kv : ∀ i W, Calls Tryz.prog 46 #[.int .u64 (v i : Nat)] W fun e w' => e = .returned (.string (sv i)) ∧ Below W.heap.size W w' := hsv ▸ kv
      have KV := Lib.hid kv
      have KN := Lib.hid kn
      have KK := Lib.hid kk
      clear hsv hsr kv kn kk
      generalize str (HD g) = Sg at *
      go_upto_region 9 with fail
      have HI3 := Lib.hid (Cells.new wr 43 #[.int .i64 (o : Nat), .int .i64 (v 0 : Nat), .int .i64 (v 1 : Nat), .int .i64 (v 2 : Nat), .int .i64 (n : Nat), .int .u64 (k : Nat)])
      have HX3 := Lib.hid (HXR.out.alloc (.cells #[.int .i64 (o : Nat), .int .i64 (v 0 : Nat), .int .i64 (v 1 : Nat), .int .i64 (v 2 : Nat), .int .i64 (n : Nat), .int .u64 (k : Nat)] 43))
      have HB3 := Lib.hid (HBR.out.alloc HBR.out.size (.cells #[.int .i64 (o : Nat), .int .i64 (v 0 : Nat), .int .i64 (v 1 : Nat), .int .i64 (v 2 : Nat), .int .i64 (n : Nat), .int .u64 (k : Nat)] 43))
      clear HXR HBR c0 c1 c2 c3 c4 c5 p1
      generalize wr.alloc (.cells #[.int .i64 (o : Nat), .int .i64 (v 0 : Nat), .int .i64 (v 1 : Nat), .int .i64 (v 2 : Nat), .int .i64 (n : Nat), .int .u64 (k : Nat)] 43) = w3 at *
      generalize wr.heap.size = Gx at *
      clear wr
      have d0 : w3.cell? ⟨Gx, 0, none⟩ = some (.int .i64 (o : Nat)) := HI3.out.cell (j := 0) rfl
      go_upto_region 10 with (go_at_call 47; go_loud (refine (kh _).mono ?_); rintro _ w5 ⟨rfl, e5⟩; rw [e5]; clear e5 w5)
      clear kh
      have sgo : ¬ 9223372036854775807 < Sg.size + So.size := by omega
      go_upto_region 11 with (go_at_call 46; go_loud (refine (ko _).mono ?_); rintro _ w4 ⟨rfl, hb4⟩; have HI4 := Lib.hid (HI3.out.keep hb4); have HX4 := Lib.hid (HX3.out.keep hb4); have HB4 := Lib.hid (grow_to HB3.out hb4); clear hb4)
      clear ko sgo d0 HI3 HX3 HB3
      have d1 : w4.cell? ⟨Gx, 1, none⟩ = some (.int .i64 (v 0 : Nat)) := HI4.out.cell (j := 1) rfl
      have d2 : w4.cell? ⟨Gx, 2, none⟩ = some (.int .i64 (v 1 : Nat)) := HI4.out.cell (j := 2) rfl
      have d3 : w4.cell? ⟨Gx, 3, none⟩ = some (.int .i64 (v 2 : Nat)) := HI4.out.cell (j := 3) rfl
      go_upto_region 12 with fail
      have HL5 := Lib.hid (Cells.new w4 76 #[.int .i64 (v 0 : Nat), .int .i64 (v 1 : Nat), .int .i64 (v 2 : Nat)])
      have HI5 := Lib.hid (HI4.out.alloc (.cells #[.int .i64 (v 0 : Nat), .int .i64 (v 1 : Nat), .int .i64 (v 2 : Nat)] 76))
      have HX5 := Lib.hid (HX4.out.alloc (.cells #[.int .i64 (v 0 : Nat), .int .i64 (v 1 : Nat), .int .i64 (v 2 : Nat)] 76))
      have HB5 := Lib.hid (HB4.out.alloc HB4.out.size (.cells #[.int .i64 (v 0 : Nat), .int .i64 (v 1 : Nat), .int .i64 (v 2 : Nat)] 76))
      clear HI4 HX4 HB4 d1 d2 d3
      generalize w4.alloc (.cells #[.int .i64 (v 0 : Nat), .int .i64 (v 1 : Nat), .int .i64 (v 2 : Nat)] 76) = w5 at *
      generalize w4.heap.size = Bl at *
      have sS : (Sg ++ So).size ≤ 810 := by rw [ByteArray.size_append]; omega
      clear sg so
      generalize Sg ++ So = SS at *
      clear w4 w3
      go_wp2
      go_loopw [13, 6] (fun iv bv wx => ∃ i : Nat, i ≤ r ∧ iv = .int .i64 (i : Int) ∧ bv = .string (SS ++ sr i) ∧ Below w5.heap.size w5 wx) (fun iv _ _ => r - (intOf iv).toNat)
      case atStart => exact ⟨0, Nat.zero_le _, rfl, by rw [HR0.out]; congr 1; exact (ByteArray.append_empty).symm, Below.refl _ _⟩
      case round =>
        obtain ⟨i, hi, rfl, rfl, hB⟩ := hrel
        have sI : (SS ++ sr i).size ≤ 820 := by rw [ByteArray.size_append]; have := HRS.out i; omega
        by_cases hlt2 : i < r
        · have h3i : i < 3 := by omega
          have l0 : wr.cell? ⟨Bl, i, none⟩ = some (.int .i64 (v i : Nat)) := (HL5.out.keep hB).cell (by rcases i with _ | _ | _ | i <;> first | rfl | omega)
          have HBX := Lib.hid hB
          have HSI : Hid (SS ++ sr (i + 1) = SS ++ sr i ++ sv i) := Lib.hid (by rw [HR1.out, ByteArray.append_assoc])
          have kv := KV.out i
          have uv := HV1.out i
          have svi := HVS.out i
          clear hB
          generalize SS ++ sr i = SI at *
          generalize sv i = Sv at *
          generalize v i = vi at *
          have i2 : (0 : Int) ≤ i := by omega
          have i3 : (i : Int) < 3 := by omega
          have i4 : (i : Int) < r := by omega
          have hwi : wrap64 ((i : Int) + 1) = (i : Int) + 1 := by unfold wrap64; omega
          have ssi : ¬ 9223372036854775807 < SI.size + Sv.size := by omega
          have HLT := Lib.hid hlt2
          clear sI svi h3i hlt2 hi
          have HDone : Hid (∀ wz : World, Below wr.heap.size wr wz → Below w5.heap.size w5 wz) := Lib.hid fun wz hz => grow_to HBX.out hz
          clear HBX hlt HSU KN KK HRS HVS HV1 HR0 HR1 uo un uk sn sk sS hf o1 o2 r3 n64 hb hg i0 i1 hl1
          go_upto_region 14 with (go_at_call 46; refine (kv _).mono ?_; rintro _ w6 ⟨rfl, hb6⟩; have HB6 := Lib.hid (HDone.out _ hb6); clear hb6)
          clear uv kv i4 i2 i3 ssi
          go_wp2
          exact ⟨⟨i + 1, HLT.out, up_val hwi, by rw [HSI.out], HB6.out⟩, up_end HLT.out hwi⟩
        · obtain rfl : i = r := by omega
          have HSU2 : Hid (str (HD (g + 1)) = SS ++ sr i ++ (if bn = true then Sn else str []) ++ (if bk = true then Sk else str [])) := HSU
          generalize SS ++ sr i = SR at *
          have i4 : ¬ (i : Int) < i := by omega
          have HX6 := Lib.hid (HX5.out.keep hB)
          have HI6 := Lib.hid (HI5.out.keep hB)
          have HB6 := Lib.hid (grow_to HB5.out hB)
          have kn := KN.out
          have kk := KK.out
          clear hB HSU KN KK KV HR1 HR0 HRS HVS HV1 HL5 HI5 HX5 HB5 hi hlt2
          have d4 : wr.cell? ⟨Gx, 4, none⟩ = some (.int .i64 (n : Nat)) := HI6.out.cell (j := 4) rfl
          have d5 : wr.cell? ⟨Gx, 5, none⟩ = some (.int .u64 (k : Nat)) := HI6.out.cell (j := 5) rfl
          have n1 := big_no sI sn
          have n2 := big_no sI (Nat.le_trans sk (by decide : 8 ≤ 10))
          have n4 := big_no3 sI sn sk
          have n3 : ¬ 9223372036854775807 < (SR ++ Sn).size + Sk.size := by rw [ByteArray.size_append]; exact n4
          have hwg := wrap_up hlt hl2
          have HG1 : Hid (g + 1 ≤ len ∧ g < len) := Lib.hid ⟨hlt, hlt⟩
          have e0 := str_nil
          clear uo sI sS sn sk hf o1 o2 r3 n64 hb hg i0 i1 hl1 hlt hl2
          cases bn <;> cases bk
          · have HFIN : Hid (str (HD (g + 1)) = SR) := Lib.hid (by rw [HSU2.out]; show SR ++ str [] ++ str [] = SR; rw [e0, ByteArray.append_empty, ByteArray.append_empty])
            clear n1 n2 n3 n4 kn kk d4 d5 e0 HSU2
            go_wp2
            clear HI6
            refine ⟨⟨g + 1, HG1.out.1, up_val hwg, by rw [HFIN.out], HX6.out, HB6.out⟩, up_end HG1.out.2 hwg⟩
          · have HFIN : Hid (str (HD (g + 1)) = SR ++ Sk) := Lib.hid (by rw [HSU2.out]; show SR ++ str [] ++ Sk = SR ++ Sk; rw [e0, ByteArray.append_empty])
            clear n1 n3 n4 kn d4 e0 HSU2
            go_wp2_with (go_at_call 48; refine (kk _).mono ?_; rintro _ w8 ⟨rfl, hb8⟩; have HX8 := Lib.hid (HX6.out.keep (grow_to (Below.refl _ _) hb8)); have HB8 := Lib.hid (grow_to HB6.out hb8); clear hb8)
            clear HI6
            refine ⟨⟨g + 1, HG1.out.1, up_val hwg, by rw [HFIN.out], HX8.out, HB8.out⟩, up_end HG1.out.2 hwg⟩
          · have HFIN : Hid (str (HD (g + 1)) = SR ++ Sn) := Lib.hid (by rw [HSU2.out]; show SR ++ Sn ++ str [] = SR ++ Sn; rw [e0, ByteArray.append_empty])
            clear n2 n3 n4 kk d5 e0 HSU2
            go_wp2_with (go_at_call 46; refine (kn _).mono ?_; rintro _ w7 ⟨rfl, hb7⟩; have HX7 := Lib.hid (HX6.out.keep (grow_to (Below.refl _ _) hb7)); have HB7 := Lib.hid (grow_to HB6.out hb7); have d6 : w7.cell? ⟨Gx, 5, none⟩ = some (.int .u64 (k : Nat)) := (HI6.out.keep (grow_to (Below.refl _ _) hb7)).cell (j := 5) rfl; clear hb7)
            clear HI6
            refine ⟨⟨g + 1, HG1.out.1, up_val hwg, by rw [HFIN.out], HX7.out, HB7.out⟩, up_end HG1.out.2 hwg⟩
          · have HFIN : Hid (str (HD (g + 1)) = SR ++ Sn ++ Sk) := Lib.hid (HSU2.out)
            clear n2 e0 HSU2
            go_wp2_with (first | (go_at_call 46; refine (kn _).mono ?_; rintro _ w7 ⟨rfl, hb7⟩; have HX7 := Lib.hid (HX6.out.keep (grow_to (Below.refl _ _) hb7)); have HB7 := Lib.hid (grow_to HB6.out hb7); have d6 : w7.cell? ⟨Gx, 5, none⟩ = some (.int .u64 (k : Nat)) := (HI6.out.keep (grow_to (Below.refl _ _) hb7)).cell (j := 5) rfl; clear hb7) | (go_at_call 48; refine (kk _).mono ?_; rintro _ w8 ⟨rfl, hb8⟩; have HX8 := Lib.hid (HX7.out.keep (grow_to (Below.refl _ _) hb8)); have HB8 := Lib.hid (grow_to HB7.out hb8); clear hb8))
            clear HI6
            refine ⟨⟨g + 1, HG1.out.1, up_val hwg, by rw [HFIN.out], HX8.out, HB8.out⟩, up_end HG1.out.2 hwg⟩
    · obtain rfl : g = len := by omega
      have i1 : ¬ (g : Int) < g := by omega
      go_wp2
      go_ret2
      exact ⟨rfl, HBR.out⟩
end Go.Proofs.YtiidkgdlngcpgaaGreatDoor
