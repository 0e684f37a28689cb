/- InterpSteps: machines of any program and their clones, step by step, and in rows. Condition: the arguments are together of bulk at most 1048576. -/
import Derived.Test.YtjloiclbknfomaaGreatDoorKv
import Derived.Test.YtjloiclbknfomaaGreatDoorKz3
import Derived.Test.YtjloiclbknfomaaGreatDoorKo
import Derived.Deep.DeepCutAuto
set_option maxRecDepth 100000
namespace Go.Proofs.YtjloiclbknfomaaGreatDoor.interpSteps
open Go.RowKit Go.WideShapes Go.ChangeShapes Go.ChangeAt Go.Deep Ieee

/-- a call: which, of which machine, how many -/
structure IOp where
  kind : Int
  on : Int
  n : Int
deriving Inhabited
structure IOpAt (w : World) (b off : Nat) (o : IOp) : Prop where
  c0 : w.cell? ⟨b, off, none⟩ = some (.int .i64 o.kind)
  c1 : w.cell? ⟨b, off + 1, none⟩ = some (.int .i64 o.on)
  c2 : w.cell? ⟨b, off + 2, none⟩ = some (.int .i64 o.n)
def IOpsIn (w : World) (B : Nat) (A : Option Addr) (l : List IOp) : Prop :=
  0 < l.length → ∃ b off, A = some ⟨b, off, none⟩ ∧ b < B ∧ ∀ (k : Nat) (o : IOp), l[k]? = some o → IOpAt w b (off + k * 3) o ∧ -9223372036854775808 ≤ o.n ∧ o.n ≤ 9223372036854775807
theorem cell_low {B : Nat} {w w' : World} {b i : Nat} {v : Value} (hb : Below B w w') (h : w.cell? ⟨b, i, none⟩ = some v) (hlt : b < B) : w'.cell? ⟨b, i, none⟩ = some v := by
  have e := hb.block b hlt
  unfold World.cell? at h ⊢
  rw [e]
  exact h
theorem choose_op {Q : Nat → IOp → Prop} : ∀ n : Nat, (∀ i, i < n → ∃ q, Q i q) → ∃ f : Nat → IOp, ∀ i, i < n → Q i (f i) := fun n h =>
  ⟨fun i => if hi : i < n then Classical.choose (h i hi) else default, fun i hi => by simp only [hi, dif_pos]; exact Classical.choose_spec (h i hi)⟩
theorem open_iops {H : Type} {enc : TypeId × Value → H} {W : World} {base : Nat} {v : Value} {d : DataW H} {ps : List MemPlace}
    (hv : Value.okWide Tryz.prog W .any base 37 v) (h : DataW.Trod enc Tryz.prog W 0 (fun _ => true) true 37 v d ps) (hk : Rows.uptoBulk d ≤ 1048576) :
    ∃ (A : Option Addr) (l : List IOp) (c : Nat), v = .slice A l.length c ∧ l.length < 1048576 ∧ IOpsIn W W.heap.size A l := by
  obtain ⟨A, n, c, D, rfl, hn, _, a, hA, hcell⟩ := open_rows Tryz.underlying37 Tryz.underlying47 (by kernel_rfl) (by kernel_rfl) hv h hk
  have each : ∀ i, i < n → ∃ q : IOp, W.cell? (a.add (i * 3)) = some (.int .i64 q.kind) ∧ W.cell? (a.add (i * 3 + 1)) = some (.int .i64 q.on) ∧ W.cell? (a.add (i * 3 + 2)) = some (.int .i64 q.n) ∧ -9223372036854775808 ≤ q.n ∧ q.n ≤ 9223372036854775807 := by
    intro i hi
    obtain ⟨ys, k, _, hlen, hf⟩ := hcell i hi
    obtain ⟨u0, y0, g0, _, t0⟩ := hf 0 _ rfl
    obtain ⟨u1, y1, g1, _, t1⟩ := hf 1 _ rfl
    obtain ⟨u2, y2, g2, _, t2⟩ := hf 2 _ rfl
    obtain ⟨x0, e0, _, _⟩ := DataW.trod_int Tryz.underlying3 t0
    obtain ⟨x1, e1, _, _⟩ := DataW.trod_int Tryz.underlying3 t1
    obtain ⟨x2, e2, _, w2⟩ := DataW.trod_int Tryz.underlying3 t2
    simp at e0 e1 e2
    subst e0 e1 e2
    exact ⟨⟨x0, x1, x2⟩, g0, g1, g2, wfi w2⟩
  obtain ⟨Q, hQ⟩ := choose_op n each
  refine ⟨A, (List.range n).map Q, c, by simp, by simpa using hn, fun hpos => ?_⟩
  have hn0 : 0 < n := by simpa using hpos
  have h0 := (hQ 0 hn0).1
  rw [show a.add (0 * 3) = a from rfl] at h0
  have ha := addr_plain h0
  refine ⟨a.block, a.off, by rw [hA hn0, ← ha], World.block_lt_of_cell? W a h0, fun i x hx => ?_⟩
  have hi : i < n := by
    have := (List.getElem?_eq_some_iff.1 hx).1
    simpa using this
  have hxe : x = Q i := by
    simp [hi] at hx
    exact hx.symm
  subst hxe
  obtain ⟨q0, q1, q2, q3⟩ := hQ i hi
  rw [ha, add_plain] at q0 q1 q2
  exact ⟨⟨q0, q1, q2⟩, q3⟩
theorem wrap_near {q n : Int} (h : q < 0) (h1 : -n < q) (h2 : n ≤ 1048577) : wrap64 (q + n) = q + n := by
  unfold wrap64
  omega
theorem wrap_up {i n : Nat} (h : (i : Int) < (n : Int)) (h2 : n < 1048576) : wrap64 ((i : Int) + 1) = (i : Int) + 1 := by
  unfold wrap64
  omega
theorem steps_size {i n k : Nat} (h : i ≤ n ∧ 0 < k ∧ k ≤ i + 1) (h2 : n < 1048576) : k ≤ 1048577 := by omega
theorem next_ok {i n k k' : Nat} (h1 : i ≤ n ∧ 0 < k ∧ k ≤ i + 1) (h2 : (i : Int) < (n : Int)) (h3 : k = k') : i + 1 ≤ n ∧ 0 < k' ∧ k' ≤ i + 1 + 1 := by omega
theorem next_ok1 {i n k k' : Nat} (h1 : i ≤ n ∧ 0 < k ∧ k ≤ i + 1) (h2 : (i : Int) < (n : Int)) (h3 : k' = k + 1) : i + 1 ≤ n ∧ 0 < k' ∧ k' ≤ i + 1 + 1 := by omega
theorem few_ok {k : Nat} (h : k ≤ 1048577) : k < 1073741824 := by omega
theorem nn_le (k : Nat) : (0 : Int) ≤ (k : Int) := by omega
theorem lt_0 {k n : Nat} (h : k < n) : (k : Int) < (n : Int) := by omega
theorem lt_1 (k : Nat) : (k : Int) < (k : Int) + 1 := by omega
theorem lt_1' (k : Nat) : (k : Int) < ((k + 1 : Nat) : Int) := by omega
theorem lt_2 {k n : Nat} (h : k < n) : (k : Int) < (n : Int) + 1 := by omega
theorem lt_2' {k n : Nat} (h : k < n) : (k : Int) < ((n + 1 : Nat) : Int) := by omega
theorem len_up {j n : Nat} (h : j < n) (h2 : n ≤ 1048577) : wrap64 ((j : Int) + 1) = (j : Int) + 1 := by
  unfold wrap64
  omega
theorem wrap_len {k : Nat} (h : k ≤ 1048577) : wrap64 (k : Int) = (k : Int) := by
  unfold wrap64
  omega
theorem info_pA : ∃ i, Tryz.prog.info? 38 = some i ∧ i.zero = some (.pointer none) ∧ i.size = 1 ∧ i.bytes = 8 := info_split (by kernel_rfl)
theorem info_pB : ∃ i, Tryz.prog.info? 41 = some i ∧ i.zero = some (.pointer none) ∧ i.size = 1 ∧ i.bytes = 8 := info_split (by kernel_rfl)

set_option maxHeartbeats 4000000 in
set_option maxRecDepth 100000 in
theorem walk_bad {fuel : Int} {A As : Option Addr} {l : List Ins} {cap ns cs : Nat} (w : World) (hC : CodeIn w w.heap.size A l) (hT : ∀ wz, Below w.heap.size w wz → TabsAt wz) (hne : (progCheck fuel l).1 ≠ 0) :
    Calls Tryz.prog 4 #[.agg #[.int .i64 fuel, .slice A l.length cap], .slice As ns cs] w fun e w' => e = .returned (.bool true) ∧ Below w.heap.size w w' := by
  have HB1 := Lib.hid ((Below.refl w.heap.size w).alloc (Nat.le_refl _) (.cells #[.int .i64 fuel, .slice A l.length cap] 24))
  have HP1 := Lib.hid (Cells.new w 24 #[.int .i64 fuel, .slice A l.length cap])
  have KN := Lib.hid (fun W (hW : Below w.heap.size w W) => new_bad (fuel := fuel) (cap := cap) W ((hC.keep hW).more hW.size) hne)
  have KW := Lib.hid (fun W (hW : Below w.heap.size w W) => rnew_bad (fuel := fuel) (cap := cap) W ((hC.keep hW).more hW.size) hne)
  have KA := Lib.hid (fun W (hW : Below w.heap.size w W) => awake_any W (tabs_later hT hW))
  have t3 : ((progCheck fuel l).1 != (progCheck fuel l).1) = false := by simp
  clear hC hT hne
  generalize (progCheck fuel l).1 = pe at *
  go_enter Tryz.func4, Tryz.ntmps4
  go_wp2_with (first | (go_at_call 9; go_loud (refine (KN.out _ HB1.out).mono ?_); rintro _ w1 ⟨rfl, hb1⟩; have HBn := Lib.hid (grow_to HB1.out hb1); have p0 := (Cells.keep HP1.out hb1).cell (j := 0) rfl; have p1 := (Cells.keep HP1.out hb1).cell (j := 1) rfl; clear hb1) | (go_at_call 10; go_loud (refine (KW.out _ HBn.out).mono ?_); rintro _ w2 ⟨rfl, hb2⟩; have HB2 := Lib.hid (grow_to HBn.out hb2); clear hb2) | (go_at_call 8; go_loud (refine (KA.out _ HB2.out).mono ?_); rintro _ w3 ⟨rfl, hb3⟩; have HB3 := Lib.hid (grow_to HB2.out hb3); clear hb3))
  go_ret
  exact ⟨by first | rfl | simp, HB3.out⟩

theorem start_all {w1 w2 w3 : World} {g h base : Nat} {cs cs2 : Value} {f : Nat} {l : List Ins} (hM : Mw w1 g cs (.slice none 0 0) (.slice none 0 0) (newM f l)) (hR : Rw w2 h cs2 (.slice none 0 0) (.slice none 0 0) (newM f l)) (hb12 : Below w1.heap.size w1 w2) (hg : base ≤ g) (hh : w1.heap.size ≤ h) (hb23 : Below w2.heap.size w2 w3)
    (hok : (progCheck f l).1 = 0) (hkk : ∀ x ∈ l, x.k < 2 * signB) :
    All ((w3.alloc (.cells #[.pointer (some ⟨g, 0, none⟩)] 38)).alloc (.cells #[.pointer (some ⟨h, 0, none⟩)] 41)) base (.slice (some ⟨w3.heap.size, 0, none⟩) 1 1) (.slice (some ⟨w3.heap.size + 1, 0, none⟩) 1 1) [⟨g, cs, .slice none 0 0, .slice none 0 0, h, cs2, .slice none 0 0, .slice none 0 0, newM f l⟩] := by
  have hal := ((Below.refl w3.heap.size w3).alloc (Nat.le_refl _) (.cells #[.pointer (some ⟨g, 0, none⟩)] 38)).alloc (by simp) (.cells #[.pointer (some ⟨h, 0, none⟩)] 41)
  have s3 := hb23.size
  have s2 := hb12.size
  have hglt := hM.lt
  have h1 := World.ownsRow_lit (base := base) (e := 38) (size := 1) w3 #[.pointer (some ⟨g, 0, none⟩)] 1 (by omega) (by unfold maxLen; omega) rfl
  have h2 := World.ownsRow_lit (base := base) (e := 41) (size := 1) (w3.alloc (.cells #[.pointer (some ⟨g, 0, none⟩)] 38)) #[.pointer (some ⟨h, 0, none⟩)] 1 (by simp; omega) (by unfold maxLen; omega) rfl
  have e : (w3.alloc (.cells #[.pointer (some ⟨g, 0, none⟩)] 38)).heap.size = w3.heap.size + 1 := by simp
  rw [e] at h2
  refine ⟨h1.alloc _, h2, ?_, ?_⟩
  · intro j s hj
    rw [List.getElem?_singleton] at hj
    split at hj
    · injection hj with hj
      subst hj
      refine ⟨⟨((hM.keep hb12).keep hb23).keep hal, (hR.keep hb23).keep hal, ?_, fit_new hok hkk, goes_new hok⟩, ?_⟩
      · intro x hx hx2
        have e1 : x = g := by rcases mOwn_cases hx with h | h | h <;> first | exact h | cases h
        have e2 : x = h := by rcases mOwn_cases hx2 with h | h | h <;> first | exact h | cases h
        omega
      · intro x hx
        rcases List.mem_append.1 hx with hx | hx
        · have e1 : x = g := by rcases mOwn_cases hx with h | h | h <;> first | exact h | cases h
          omega
        · have e2 : x = h := by rcases mOwn_cases hx with h | h | h <;> first | exact h | cases h
          omega
    · cases hj
  · intro i j s t hi hj hne
    have il := (List.getElem?_eq_some_iff.1 hi).1
    have jl := (List.getElem?_eq_some_iff.1 hj).1
    simp at il jl
    omega

set_option maxHeartbeats 16000000 in
set_option maxRecDepth 100000 in
theorem walk_good {f : Nat} {A As : Option Addr} {l : List Ins} {sl : List IOp} {cap sc : Nat} (w : World) (hC : CodeIn w w.heap.size A l) (hS : IOpsIn w w.heap.size As sl) (hsn : sl.length < 1048576) (hT : ∀ wz, Below w.heap.size w wz → TabsAt wz) (hok : (progCheck f l).1 = 0) :
    Calls Tryz.prog 4 #[.agg #[.int .i64 (f : Nat), .slice A l.length cap], .slice As sl.length sc] w fun e w' => e = .returned (.bool true) ∧ Below w.heap.size w w' := by
  have HB1 := Lib.hid ((Below.refl w.heap.size w).alloc (Nat.le_refl _) (.cells #[.int .i64 (f : Nat), .slice A l.length cap] 24))
  have HP1 := Lib.hid (Cells.new w 24 #[.int .i64 (f : Nat), .slice A l.length cap])
  have KN := Lib.hid (fun W (hW : Below w.heap.size w W) => new_good (fuel := f) (cap := cap) W ((hC.keep hW).more hW.size) hok)
  have KW := Lib.hid (fun W (hW : Below w.heap.size w W) => rnew_good (fuel := f) (cap := cap) W ((hC.keep hW).more hW.size) hok)
  have KA := Lib.hid (fun W (hW : Below w.heap.size w W) => awake_any W (tabs_later hT hW))
  have hkk : ∀ x ∈ l, x.k < 2 * signB := fun x hx => by
    obtain ⟨i, hi⟩ := List.mem_iff_getElem?.1 hx
    obtain ⟨_, _, _, _, hc⟩ := hC (List.length_pos_of_mem hx)
    exact (hc i x hi).2
  have HKK := Lib.hid hkk
  have HOK := Lib.hid hok
  have HT := Lib.hid hT
  have HS := Lib.hid hS
  have HSN := Lib.hid hsn
  obtain ⟨iA, hqA, hzA, hsA, hbA⟩ := info_pA
  obtain ⟨iB, hqB, hzB, hsB, hbB⟩ := info_pB
  clear hC hT hok hS hsn hkk
  go_enter Tryz.func4, Tryz.ntmps4
  go_upto_region 2 with (go_at_call 9; go_loud (refine (KN.out _ HB1.out).mono ?_); go_loud (rintro _ w1 ⟨g, cs, rfl, hg, hM, hb1⟩); have HBn := Lib.hid (grow_to HB1.out hb1); have HPn := Lib.hid (HP1.out.keep hb1); have HMn := Lib.hid hM; have HG := Lib.hid (Nat.le_trans HB1.out.size hg); have p0 := HPn.out.cell (j := 0) rfl; have p1 := HPn.out.cell (j := 1) rfl; clear hb1 hM hg)
  clear HB1 HP1 KN
  go_upto_region 3 with (go_at_call 10; go_loud (refine (KW.out _ HBn.out).mono ?_); go_loud (rintro _ w2 ⟨h, cs2, rfl, hh, hR, hb2⟩); have HB2 := Lib.hid (grow_to HBn.out hb2); have HRn := Lib.hid hR; have HH := Lib.hid hh; have H12 := Lib.hid hb2; clear hb2 hR hh)
  clear KW p0 p1 HPn
  go_upto_region 8 with (go_at_call 8; go_loud (refine (KA.out _ HB2.out).mono ?_); rintro _ w3 ⟨rfl, hb3⟩; have HB3 := Lib.hid (grow_to HB2.out hb3); have HAL := Lib.hid (start_all HMn.out HRn.out H12.out HG.out HH.out hb3 HOK.out HKK.out); clear hb3)
  go_wp2
  have HB5 := Lib.hid ((HB3.out.alloc HB3.out.size (.cells #[.pointer (some ⟨g, 0, none⟩)] 38)).alloc (by have := HB3.out.size; simp; omega) (.cells #[.pointer (some ⟨h, 0, none⟩)] 41))
  clear HB3 HB2 KA HBn HMn HG HRn HH H12
  generalize (w3.alloc (.cells #[.pointer (some ⟨g, 0, none⟩)] 38)).alloc (.cells #[.pointer (some ⟨h, 0, none⟩)] 41) = w5 at *
  generalize w3.heap.size = B3 at *
  go_loopw [9, 10, 11] (fun x y z wr => ∃ (i : Nat) (S : List MS), i ≤ sl.length ∧ z = .int .i64 (i : Nat) ∧ 0 < S.length ∧ S.length ≤ i + 1 ∧ All wr w.heap.size x y S ∧ Below w.heap.size w wr) (fun _ _ z _ => sl.length - (intOf z).toNat)
  case atStart => exact ⟨0, _, Nat.zero_le _, rfl, by simp, by simp, HAL.out, HB5.out⟩
  case round =>
    clear HAL HB5
    obtain ⟨i, S, hi, rfl, hS0, hSl, hA, hB⟩ := hrel
    obtain ⟨A9, c9, rfl⟩ := own_slice hA.l
    obtain ⟨A10, c10, rfl⟩ := own_slice hA.a
    have HA := Lib.hid hA
    have HBr := Lib.hid hB
    have HI := Lib.hid (And.intro hi (And.intro hS0 hSl))
    clear hA hB
    by_cases hlt : i < sl.length
    · obtain ⟨o, ho⟩ : ∃ o, sl[i]? = some o := ⟨_, List.getElem?_eq_getElem hlt⟩
      obtain ⟨bs, off, rfl, hbs, hcs⟩ := HS.out (by omega)
      obtain ⟨hat, hn0, hn1⟩ := hcs i o ho
      have r0 := cell_low HBr.out hat.c0 hbs
      have r1 := cell_low HBr.out hat.c1 hbs
      have r2 := cell_low HBr.out hat.c2 hbs
      have HLOW : Hid (∀ wz, Below w.heap.size w wz → wz.cell? ⟨bs, off + i * 3, none⟩ = some (.int .i64 o.kind) ∧ wz.cell? ⟨bs, off + i * 3 + 2, none⟩ = some (.int .i64 o.n)) := Lib.hid fun wz hz => ⟨cell_low hz hat.c0 hbs, cell_low hz hat.c2 hbs⟩
      have HN := Lib.hid (And.intro hn0 hn1)
      clear hcs hat hn0 hn1 ho
      generalize o.kind = ok at *
      generalize o.on = on at *
      generalize o.n = on2 at *
      have i0 : (0 : Int) ≤ (i : Int) := by omega
      have i1 : (i : Int) < (sl.length : Int) := by omega
      have i2 : ((S.length : Int) == 0) = false := by rw [beq_eq_false_iff_ne]; omega
      have tm1 : -(S.length : Int) < on.tmod S.length := by
        have := Int.natAbs_tmod on S.length
        have h2 : on.natAbs % ((S.length : Int)).natAbs < ((S.length : Int)).natAbs := Nat.mod_lt _ (by omega)
        omega
      have tm2 : on.tmod S.length < (S.length : Int) := Int.tmod_lt_of_pos _ (by omega)
      have HHI := Lib.hid (And.intro hi (And.intro hlt (And.intro tm1 tm2)))
      clear hi hlt
      go_upto_region 13 with fail
      obtain ⟨q, hq⟩ : ∃ q, on.tmod S.length = q := ⟨_, rfl⟩
      rw [hq] at tm1 tm2 ⊢
      clear hq HHI
      have HHI := Lib.hid (And.intro i1 (And.intro tm1 tm2))
      go_cut [12, 60] (fun s12 s60 wx => wx = wr ∧ s12 = .int .i64 q ∧ s60 = .bool (decide (q < 0)))
      case first =>
        go_wp2
        go_meet
        exact ⟨rfl, rfl, rfl⟩
      case rest =>
      obtain ⟨rfl, rfl, rfl⟩ := hcut
      rename_i hKq
      refine hKq _ _ ?_
      clear hKq
      go_cut [12] (fun s12 wx => wx = wc ∧ ∃ k : Nat, s12 = .int .i64 (k : Nat) ∧ k < S.length)
      case first =>
        have hsz : (S.length : Int) ≤ 1048577 := by have := HI.out; have := HSN.out; omega
        by_cases h0 : q < 0
        · have hd : decide (q < 0) = true := decide_eq_true h0
          have hw : wrap64 (q + (S.length : Int)) = q + (S.length : Int) := wrap_near h0 tm1 hsz
          obtain ⟨k, hk⟩ := Int.eq_ofNat_of_zero_le (show 0 ≤ q + (S.length : Int) by omega)
          rw [hk] at hw
          have HK := Lib.hid (And.intro hk (And.intro tm1 tm2))
          go_wp2
          go_meet
          exact ⟨rfl, k, by first | rfl | (rw [HK.out.1]) | (rw [HK.out.1, hw]), by have := HK.out; omega⟩
        · have hd : decide (q < 0) = false := decide_eq_false h0
          obtain ⟨k, rfl⟩ := Int.eq_ofNat_of_zero_le (show 0 ≤ q by omega)
          go_wp2
          go_meet
          exact ⟨rfl, k, rfl, by omega⟩
      case rest =>
        obtain ⟨rfl, k, rfl, hk⟩ := hcut
        obtain ⟨s, hs⟩ : ∃ s, S[k]? = some s := ⟨_, List.getElem?_eq_getElem hk⟩
        obtain ⟨b9, rfl, p9⟩ := HA.out.pA hs
        obtain ⟨b10, rfl, p10⟩ := HA.out.pB hs
        obtain ⟨hpr, hge⟩ := HA.out.pr k s hs
        have HPR := Lib.hid (And.intro hpr hge)
        have HSS := Lib.hid hs
        have k0 : (0 : Int) ≤ (k : Int) := nn_le _
        have k1 : (k : Int) < (S.length : Int) := lt_0 hk
        have hwi : wrap64 ((i : Int) + 1) = (i : Int) + 1 := wrap_up HHI.out.1 HSN.out
        have HME := Lib.hid (meas_up (Int.ofNat_lt.1 HHI.out.1) hwi)
        have HSZ := Lib.hid (steps_size HI.out HSN.out)
        have HKL := Lib.hid hk
        have HTY : Hid (∀ y : BW wc, ∀ wz, Turns (mOwn s.g s.nv s.pv) y.val wz → TabsAt wz) := Lib.hid fun y wz hz => HT.out wz (HBr.out.trans (HA.out.below_own hs HBr.out.size y.below hz))
        clear hpr hge hs tm1 tm2 i2 hk hS0 hSl
        by_cases k1x : ok = 1
        · subst k1x
          go_upto_region 19 with fail
          have py9 : ∀ y : BW wc, y.val.cell? ⟨b9, k, none⟩ = some (.pointer (some ⟨s.g, 0, none⟩)) := fun y => y.cell p9
          have py10 : ∀ y : BW wc, y.val.cell? ⟨b10, k, none⟩ = some (.pointer (some ⟨s.h, 0, none⟩)) := fun y => y.cell p10
          have pyr : ∀ y : BW wc, y.val.cell? ⟨bs, off + i * 3 + 2, none⟩ = some (.int .i64 on2) := fun y => y.cell r2
          have KC := Lib.hid fun y : BW wc => runs_any (HPR.out.1.keep y.below) (HTY.out y) on2 HN.out.2
          refine wp_region_bw_tail (w := wc) 13 (by kernel_rfl) (by kernel_rfl) ?_
          simp only [List.take_succ_cons, List.take_zero, List.drop_succ_cons, List.drop_zero]
          repeat (refine wpQuiet_step (fun K hK => ?_); go_simp; first | (refine hK _ ?_; clear hK K) | (apply Exists.intro; refine ⟨fun _ => ?_, hK _ ?_⟩; (fail); clear hK K))
          refine wpQuiet_nil ?_
          intro yq
          have HA3 := Lib.hid (HA.out.keep yq.below)
          have HB3 := Lib.hid (HBr.out.trans (yq.below.mono HBr.out.size))
          have KC3 := Lib.hid (KC.out yq)
          clear py9 py10 pyr HA HBr KC HTY p9 p10 r0 r1 r2
          generalize yq.val = w3 at *
          clear yq
          go_upto_region 24 with (go_at_call 11; go_loud (with_reducible (refine KC3.out.mono ?_)); rintro _ w4 ⟨rfl, s4, hw4, hm4⟩; have HW4 := Lib.hid (HA3.out.went HSS.out hw4 HB3.out.size); clear hw4 hm4)
          have HA4 := Lib.hid HW4.out.1
          have HB4 := Lib.hid (HB3.out.trans HW4.out.2)
          have HS4 : Hid ((S.set k s4)[k]? = some s4) := Lib.hid (by rw [List.getElem?_set, if_pos rfl, if_pos HKL.out])
          have hl4 : S.length = (S.set k s4).length := List.length_set.symm
          have HN1 : Hid (i + 1 ≤ sl.length ∧ 0 < (S.set k s4).length ∧ (S.set k s4).length ≤ i + 1 + 1) := Lib.hid (next_ok HI.out HHI.out.1 hl4)
          rw [hl4] at HA4 k1 ⊢
          clear HA3 HB3 KC3 HW4 HPR HSS hl4
          generalize S.set k s4 = S4 at *
          have py9 : ∀ y : BW w4, y.val.cell? ⟨b9, k, none⟩ = some (.pointer (some ⟨s4.g, 0, none⟩)) := fun y => (HA4.out.keep y.below).pA1 HS4.out
          have py10 : ∀ y : BW w4, y.val.cell? ⟨b10, k, none⟩ = some (.pointer (some ⟨s4.h, 0, none⟩)) := fun y => (HA4.out.keep y.below).pB1 HS4.out
          have KSM := Lib.hid fun y : BW w4 => same_any ((HA4.out.keep y.below).pr k s4 HS4.out).1.a.cells ((HA4.out.keep y.below).pr k s4 HS4.out).1.b.cells
          refine wp_region_bw (w := w4) (by kernel_rfl) (by kernel_rfl) ?_
          repeat (refine wpQuiet_step (fun K hK => ?_); go_simp; first | (refine hK _ ?_; clear hK K) | (apply Exists.intro; refine ⟨fun _ => ?_, hK _ ?_⟩; (go_at_call 15; with_reducible exact Calls.quiet_bw (KSM.out _)); clear hK K))
          refine wpQuiet_nil ?_
          intro yq
          have HB6 := Lib.hid (HB4.out.trans (yq.below.mono HB4.out.size))
          have HA6 := Lib.hid (HA4.out.keep yq.below)
          clear py9 py10 KSM HA4 HB4
          generalize yq.val = w6 at *
          clear yq
          go_wp2
          exact ⟨⟨i + 1, S4, HN1.out.1, by go_num, HN1.out.2.1, HN1.out.2.2, HA6.out, HB6.out⟩, by first | exact HME.out.1 | exact HME.out.2⟩
        · have t1 : (ok == 1) = false := by rw [beq_eq_false_iff_ne]; exact k1x
          by_cases k2x : ok = 2
          · subst k2x
            have KC1 := Lib.hid (clone_any HPR.out.1.a HPR.out.1.fit.nlen HPR.out.1.fit.plen)
            go_upto_region 22 with (first
              | (go_at_call 12; go_loud (with_reducible (refine KC1.out.mono ?_)); go_loud (rintro _ wd ⟨gN, nvN, pvN, rfl, hcl, hmw⟩); have HCL := Lib.hid hcl; have HMW := Lib.hid hmw; have HL1 := Lib.hid (own_kept HA.out.l hcl.2.2.2); have HZ1 := Lib.hid (Nat.le_trans HBr.out.size hcl.2.2.2.size); clear hcl hmw)
              | (at_builtin; refine wpList_append_one rfl _ _ _ rfl w.heap.size 38 iA (.pointer none) 8 Tryz.underlying44 hqA hzA hsA hbA rfl _ _ _ rfl HL1.out _ rfl rfl (few_ok HSZ.out) (by decide) HZ1.out ?_; intro l2 we ho2 hb2 hg2; obtain ⟨A9', c9', rfl⟩ := own_slice ho2; have HO2 := Lib.hid ho2; have HG2 := Lib.hid (show wd.grownBy we (Value.slice (some ⟨b9, 0, none⟩) S.length c9).ownBlock from hg2); have HB2 := Lib.hid hb2; have HMID := Lib.hid (HA.out.mid HSS.out HCL.out HG2.out); clear ho2 hg2 hb2))
            have p10' := World.ownsRow.cellAt HMID.out.1 k (by have := HKL.out; omega)
            rw [List.getElem?_map, HSS.out] at p10'
            have p10 : we.cell? ⟨b10, k, none⟩ = some (.pointer (some ⟨s.h, 0, none⟩)) := p10'
            clear p10' p9 r0 r1 r2
            have KC2 := Lib.hid (rclone_any HMID.out.2 HPR.out.1.fit.nlen HPR.out.1.fit.plen)
            have HZ2 := Lib.hid (Nat.le_trans HZ1.out HB2.out.size)
            clear HTY
            go_upto_region 23 with (first
              | (go_at_call 13; go_loud (with_reducible (refine KC2.out.mono ?_)); go_loud (rintro _ wf ⟨hN, nvM, pvM, rfl, hcl, hrw⟩); have HCM := Lib.hid hcl; have HRW := Lib.hid hrw; have HL2 := Lib.hid (own_kept HMID.out.1 hcl.2.2.2); have HZ3 := Lib.hid (Nat.le_trans HZ2.out hcl.2.2.2.size); clear hcl hrw)
              | (at_builtin; go_loud (refine wpList_append_one rfl _ _ _ rfl w.heap.size 41 iB (.pointer none) 8 Tryz.underlying45 hqB hzB hsB hbB rfl _ _ _ rfl HL2.out _ rfl rfl (few_ok HSZ.out) (by decide) HZ3.out ?_); go_loud (intro l3 w4 ho3 hb3 hg3); go_loud (obtain ⟨A10', c10', rfl⟩ := own_slice ho3); go_loud (have HA4 := Lib.hid (HA.out.grow HSS.out HBr.out.size HCL.out HMW.out HG2.out HO2.out HCM.out HRW.out (show wf.grownBy w4 (Value.slice (some ⟨b10, 0, none⟩) S.length c10).ownBlock from hg3) ho3)); go_loud (have HB4 := Lib.hid ((((HBr.out.trans (HCL.out.2.2.2.mono HBr.out.size)).trans HB2.out).trans (HCM.out.2.2.2.mono HZ2.out)).trans hb3)); clear ho3 hg3 hb3))
            have hx : (S ++ [(⟨gN, s.cs, nvN, pvN, hN, s.cs2, nvM, pvM, s.m⟩ : MS)])[S.length]? = some ⟨gN, s.cs, nvN, pvN, hN, s.cs2, nvM, pvM, s.m⟩ := by simp
            have HS4 : Hid ((S ++ [(⟨gN, s.cs, nvN, pvN, hN, s.cs2, nvM, pvM, s.m⟩ : MS)])[k]? = some s) := Lib.hid (by rw [List.getElem?_append_left HKL.out]; exact HSS.out)
            have hl4 : (S ++ [(⟨gN, s.cs, nvN, pvN, hN, s.cs2, nvM, pvM, s.m⟩ : MS)]).length = S.length + 1 := by simp
            have HN1 := Lib.hid (next_ok1 HI.out HHI.out.1 hl4)
            obtain ⟨b9', rfl, plast⟩ := HA4.out.pA hx
            obtain ⟨b10', rfl, _⟩ := HA4.out.pB hx
            have l0 : (0 : Int) ≤ (S.length : Int) := nn_le _
            have l1 : (S.length : Int) < (S.length : Int) + 1 := lt_1 _
            have l1' : (S.length : Int) < ((S.length + 1 : Nat) : Int) := lt_1' _
            have l2 : wrap64 (S.length : Int) = (S.length : Int) := wrap_len HSZ.out
            clear p10 k1 HMID HCL HMW HG2 HO2 HL1 HL2 HCM HRW KC1 KC2 HA HPR HSS HBr HB2 HZ1 HZ2 HZ3 hx
            have k1 : (k : Int) < (S.length : Int) + 1 := lt_2 HKL.out
            have k1' : (k : Int) < ((S.length + 1 : Nat) : Int) := lt_2' HKL.out
            go_upto_region 24 with fail
            clear l0 l1 l1' l2 plast
            generalize hS4 : S ++ [(⟨gN, s.cs, nvN, pvN, hN, s.cs2, nvM, pvM, s.m⟩ : MS)] = S4 at *
            rw [← hl4] at HA4
            clear hS4
            have py9 : ∀ y : BW w4, y.val.cell? ⟨b9', k, none⟩ = some (.pointer (some ⟨s.g, 0, none⟩)) := fun y => (HA4.out.keep y.below).pA1 HS4.out
            have py10 : ∀ y : BW w4, y.val.cell? ⟨b10', k, none⟩ = some (.pointer (some ⟨s.h, 0, none⟩)) := fun y => (HA4.out.keep y.below).pB1 HS4.out
            have KSM := Lib.hid fun y : BW w4 => same_any ((HA4.out.keep y.below).pr k s HS4.out).1.a.cells ((HA4.out.keep y.below).pr k s HS4.out).1.b.cells
            refine wp_region_bw (w := w4) (by kernel_rfl) (by kernel_rfl) ?_
            repeat (refine wpQuiet_step (fun K hK => ?_); go_simp; first | (refine hK _ ?_; clear hK K) | (apply Exists.intro; refine ⟨fun _ => ?_, hK _ ?_⟩; (go_at_call 15; with_reducible exact Calls.quiet_bw (KSM.out _)); clear hK K))
            refine wpQuiet_nil ?_
            intro yq
            have HB6 := Lib.hid (HB4.out.trans (yq.below.mono HB4.out.size))
            have HA6 := Lib.hid (HA4.out.keep yq.below)
            clear py9 py10 KSM HA4 HB4
            generalize yq.val = w6 at *
            clear yq
            go_wp2
            exact ⟨⟨i + 1, S4, HN1.out.1, by go_num, HN1.out.2.1, HN1.out.2.2, (by first | exact HA6.out | (rw [hl4] at HA6; exact HA6.out)), HB6.out⟩, by first | exact HME.out.1 | exact HME.out.2⟩
          · have t2 : (ok == 2) = false := by rw [beq_eq_false_iff_ne]; exact k2x
            clear k1x k2x
            go_upto_region 17 with fail
            have py9 : ∀ y : BW wc, y.val.cell? ⟨b9, k, none⟩ = some (.pointer (some ⟨s.g, 0, none⟩)) := fun y => y.cell p9
            have py10 : ∀ y : BW wc, y.val.cell? ⟨b10, k, none⟩ = some (.pointer (some ⟨s.h, 0, none⟩)) := fun y => y.cell p10
            have KC := Lib.hid fun y : BW wc => steps_any (HPR.out.1.keep y.below) (HTY.out y)
            refine wp_region_bw_tail (w := wc) 8 (by kernel_rfl) (by kernel_rfl) ?_
            simp only [List.take_succ_cons, List.take_zero, List.drop_succ_cons, List.drop_zero]
            repeat (refine wpQuiet_step (fun K hK => ?_); go_simp; first | (refine hK _ ?_; clear hK K) | (apply Exists.intro; refine ⟨fun _ => ?_, hK _ ?_⟩; (fail); clear hK K))
            refine wpQuiet_nil ?_
            intro yq
            have HA3 := Lib.hid (HA.out.keep yq.below)
            have HB3 := Lib.hid (HBr.out.trans (yq.below.mono HBr.out.size))
            have KC3 := Lib.hid (KC.out yq)
            clear py9 py10 HA HBr KC HTY p9 p10 r0 r1 r2
            generalize yq.val = w3 at *
            clear yq
            go_upto_region 24 with (go_at_call 14; go_loud (with_reducible (refine KC3.out.mono ?_)); rintro _ w4 ⟨rfl, s4, hw4, hm4⟩; have HW4 := Lib.hid (HA3.out.went HSS.out hw4 HB3.out.size); clear hw4 hm4)
            have HA4 := Lib.hid HW4.out.1
            have HB4 := Lib.hid (HB3.out.trans HW4.out.2)
            have HS4 : Hid ((S.set k s4)[k]? = some s4) := Lib.hid (by rw [List.getElem?_set, if_pos rfl, if_pos HKL.out])
            have hl4 : S.length = (S.set k s4).length := List.length_set.symm
            have HN1 : Hid (i + 1 ≤ sl.length ∧ 0 < (S.set k s4).length ∧ (S.set k s4).length ≤ i + 1 + 1) := Lib.hid (next_ok HI.out HHI.out.1 hl4)
            rw [hl4] at HA4 k1 ⊢
            clear HA3 HB3 KC3 HW4 HPR HSS hl4
            generalize S.set k s4 = S4 at *
            have py9 : ∀ y : BW w4, y.val.cell? ⟨b9, k, none⟩ = some (.pointer (some ⟨s4.g, 0, none⟩)) := fun y => (HA4.out.keep y.below).pA1 HS4.out
            have py10 : ∀ y : BW w4, y.val.cell? ⟨b10, k, none⟩ = some (.pointer (some ⟨s4.h, 0, none⟩)) := fun y => (HA4.out.keep y.below).pB1 HS4.out
            have KSM := Lib.hid fun y : BW w4 => same_any ((HA4.out.keep y.below).pr k s4 HS4.out).1.a.cells ((HA4.out.keep y.below).pr k s4 HS4.out).1.b.cells
            refine wp_region_bw (w := w4) (by kernel_rfl) (by kernel_rfl) ?_
            repeat (refine wpQuiet_step (fun K hK => ?_); go_simp; first | (refine hK _ ?_; clear hK K) | (apply Exists.intro; refine ⟨fun _ => ?_, hK _ ?_⟩; (go_at_call 15; with_reducible exact Calls.quiet_bw (KSM.out _)); clear hK K))
            refine wpQuiet_nil ?_
            intro yq
            have HB6 := Lib.hid (HB4.out.trans (yq.below.mono HB4.out.size))
            have HA6 := Lib.hid (HA4.out.keep yq.below)
            clear py9 py10 KSM HA4 HB4
            generalize yq.val = w6 at *
            clear yq
            go_wp2
            exact ⟨⟨i + 1, S4, HN1.out.1, by go_num, HN1.out.2.1, HN1.out.2.2, HA6.out, HB6.out⟩, by first | exact HME.out.1 | exact HME.out.2⟩
    · obtain rfl : i = sl.length := by omega
      have i1 : ¬ ((sl.length : Nat) : Int) < (sl.length : Int) := by omega
      have HSZ := Lib.hid (steps_size HI.out HSN.out)
      clear hi hlt hSl
      generalize wr = wv at *
      go_wp2
      go_loopw [14] (fun x wq => ∃ j : Nat, x = .int .i64 (j : Nat) ∧ j ≤ S.length ∧ Below wv.heap.size wv wq) (fun x _ => S.length - (intOf x).toNat)
      case atStart => exact ⟨0, rfl, Nat.zero_le _, Below.refl _ _⟩
      case round =>
        obtain ⟨j, rfl, hj, hBj⟩ := hrel
        have HBj := Lib.hid hBj
        have HAj := Lib.hid (HA.out.keep hBj)
        clear hBj
        by_cases hlt : j < S.length
        · obtain ⟨s, hs⟩ : ∃ s, S[j]? = some s := ⟨_, List.getElem?_eq_getElem hlt⟩
          obtain ⟨b9, rfl, p9⟩ := HAj.out.pA hs
          obtain ⟨b10, rfl, p10⟩ := HAj.out.pB hs
          have j0 : (0 : Int) ≤ (j : Int) := nn_le _
          have j1 : (j : Int) < (S.length : Int) := lt_0 hlt
          have hwj : wrap64 ((j : Int) + 1) = (j : Int) + 1 := len_up hlt HSZ.out
          have HME := Lib.hid (meas_up hlt hwj)
          have HLT := Lib.hid hlt
          go_upto_region 29 with fail
          have py9 : ∀ y : BW wr, y.val.cell? ⟨b9, j, none⟩ = some (.pointer (some ⟨s.g, 0, none⟩)) := fun y => y.cell p9
          have py10 : ∀ y : BW wr, y.val.cell? ⟨b10, j, none⟩ = some (.pointer (some ⟨s.h, 0, none⟩)) := fun y => y.cell p10
          have KSM := Lib.hid fun y : BW wr => same_any ((HAj.out.keep y.below).pr j s hs).1.a.cells ((HAj.out.keep y.below).pr j s hs).1.b.cells
          clear p9 p10 hs hlt hj
          refine wp_region_bw (w := wr) (by kernel_rfl) (by kernel_rfl) ?_
          repeat (refine wpQuiet_step (fun K hK => ?_); go_simp; first | (refine hK _ ?_; clear hK K) | (apply Exists.intro; refine ⟨fun _ => ?_, hK _ ?_⟩; (go_at_call 15; with_reducible exact Calls.quiet_bw (KSM.out _)); clear hK K))
          refine wpQuiet_nil ?_
          intro yq
          have HB6 := Lib.hid (grow_to HBj.out yq.below)
          clear py9 py10 KSM HAj HBj
          generalize yq.val = w6 at *
          clear yq
          go_wp2
          exact ⟨⟨j + 1, by go_num, HLT.out, HB6.out⟩, by first | exact HME.out.1 | exact HME.out.2⟩
        · obtain rfl : j = S.length := by omega
          have j1 : ¬ ((S.length : Nat) : Int) < (S.length : Int) := by omega
          clear hj hlt
          go_wp2
          go_ret
          exact ⟨rfl, HBr.out.trans (HBj.out.mono HBr.out.size)⟩
theorem walk {fuel : Int} {A As : Option Addr} {l : List Ins} {sl : List IOp} {cap sc : Nat} (w : World) (hC : CodeIn w w.heap.size A l) (hS : IOpsIn w w.heap.size As sl) (hsn : sl.length < 1048576) (hT : ∀ wz, Below w.heap.size w wz → TabsAt wz) :
    Calls Tryz.prog 4 #[.agg #[.int .i64 fuel, .slice A l.length cap], .slice As sl.length sc] w fun e w' => e = .returned (.bool true) ∧ Below w.heap.size w w' := by
  by_cases hne : (progCheck fuel l).1 = 0
  · obtain ⟨f, rfl⟩ := Int.eq_ofNat_of_zero_le (show 0 ≤ fuel by have := (progCheck_ok hne).1; omega)
    exact walk_good w hC hS hsn hT hne
  · exact walk_bad w hC hT hne

-- LIFT
set_option maxRecDepth 100000 in
theorem contract (H : Type) (enc : TypeId × Value → H) (W : World) (base : Nat) (args : Array Value) (ds gs : List (DataW H)) (before : List MemPlace)
    (hval : ∀ (j : Nat) t v, Tryz.f4.params[j]? = some t → args[j]? = some v → Value.okWide Tryz.prog W .any base t v)
    (hW : DataW.Whole enc Tryz.prog Tryz.f4.params.toList Rows.interpStepsSpec.vars false W args.toList ds gs before) (hk : Rows.uptoSmall H (ds ++ gs) = true) (hL : laidMetH Tryz.prog Rows.interpStepsUptoRow.laid W) :
    Calls Tryz.prog 4 args W fun e W' => ∃ v, e = .returned v ∧ Rows.interpStepsSpec.post enc Tryz.prog Tryz.f4 false true false false W args v W' := by
  have hT0 := tabs_of (show laidMetH Tryz.prog laidOf W from hL)
  have hT : ∀ wz, Below W.heap.size W wz → TabsAt wz := fun wz hz => tabs_keep hz hT0
  clear hL
  have hts : Tryz.f4.params.toList.all (fun t => Tryz.prog.readableRec t && decide (t < Tryz.prog.types.size)) = true := by kernel_rfl
  have hW' := hW
  obtain ⟨p, q, hA0, hV, rfl, hfz, hnd⟩ := hW
  have hA : DataW.TrodAll enc Tryz.prog W 0 (fun _ => true) true Tryz.f4.params.toList args.toList ds p := hA0
  rw [Tryz.params4] at hA hval
  obtain ⟨v0, vs0, d0, ds0, p0, q0, hargs, rfl, rfl, h0, r0⟩ := trodAll_cons hA
  obtain ⟨v1, vs1, d1, ds1, p1, q1, rfl, rfl, rfl, h1, r1⟩ := trodAll_cons r0
  obtain ⟨rfl, rfl, rfl⟩ := trodAll_nil r1
  obtain rfl : args = #[v0, v1] := by cases args; simp_all
  obtain ⟨rfl, rfl⟩ := trodVars_none hV
  have hfn : Rows.interpStepsSpec.fn H ([d0, d1] ++ []) = { results := [.lit (.bool true)], args := [d0, d1] } := rfl
  have hfin := fun W' (hbel : Below W.heap.size W W') => law_post (f := Tryz.f4) (s := Rows.interpStepsSpec) 4 Tryz.laid hts rfl Tryz.underlying4 rfl hfn hW' hbel
  clear hA0 hts hfn
  simp only [List.append_nil] at hk
  obtain ⟨fu0, A0, l0, c0, rfl, hC0, hf0, hg0⟩ := open_prog (hval 0 24 v0 rfl rfl) h0
  obtain ⟨As1, ls1, cs1, rfl, hn1, hS1⟩ := open_iops (hval 1 37 v1 rfl rfl) h1 (bulk_mem hk _ (by simp))
  exact (walk W hC0 hS1 hn1 hT).mono fun e W' ⟨he, hg⟩ => ⟨_, he, hfin W' hg⟩

theorem reads (os : Os) {H : Type} (enc : TypeId × Value → H) : ∃ places, DataW.whole enc Tryz.prog ((laidWorld os).forCall (fun _ _ => 0) ⟨#[], #[.agg #[.int .i64 0, .slice none 0 0], .slice none 0 0], []⟩).memory Tryz.f4.params.toList Rows.interpStepsSpec.vars false #[.agg #[.int .i64 0, .slice none 0 0], .slice none 0 0].toList 8 = some ([.agg [.lit (.int .i64 0), .nil], .nil], [], places) :=
  ⟨[], by kernel_rfl⟩
theorem laid_met (os : Os) : laidMet Tryz.prog Rows.interpStepsUptoRow.laid ((laidWorld os).forCall (fun _ _ => 0) ⟨#[], #[.agg #[.int .i64 0, .slice none 0 0], .slice none 0 0], []⟩).memory := laid_here os #[.agg #[.int .i64 0, .slice none 0 0], .slice none 0 0]

set_option maxRecDepth 100000 in
theorem lifted (os : Os) (started : os.Started) (H : Type) (enc : TypeId × Value → H) (F : Stop.Interp) :
    ReturnsInHanded {} Tryz.checked os 4 .any ((Rows.OpenSpec.upto Rows.interpStepsSpec).preRow enc Tryz.prog Tryz.f4 Rows.interpStepsUptoRow.domain false Rows.interpStepsUptoRow.laid) (((Rows.OpenSpec.upto Rows.interpStepsSpec).at F).post enc Tryz.prog Tryz.f4 false true false false) := by
  obtain ⟨places, hx⟩ := reads os enc
  refine returnsInHanded_of_row (C := Tryz.checked) (s := Rows.OpenSpec.upto Rows.interpStepsSpec) Tryz.own started (by kernel_rfl) Tryz.func4
    (witness_row_atRef (enc := enc) (C := Tryz.checked) false (laidWorld os) #[.agg #[.int .i64 0, .slice none 0 0], .slice none 0 0] rfl (by kernel_rfl) (by kernel_rfl) (by kernel_rfl)
      (OpenSpec.preRow_of_cond 8 hx (by kernel_rfl) (fun k hk => by cases hk; kernel_rfl) (by kernel_rfl) (laid_met os))) ?_
  intro W base args ds gs before hval hW _ hk _ hL _ _
  exact contract H enc W base args ds gs before hval hW (hk _ rfl) hL

theorem said : Rows.InterpStepsUptoSaid :=
  OpenClaim.holds_of_cond 4 Tryz.f4 rfl rfl rfl rfl rfl rfl rfl ⟨rfl, rfl, rfl, rfl, rfl⟩ rfl rfl rfl rfl rfl (by kernel_rfl) Tryz.func4 (by kernel_rfl)
    (of_decide_eq_true (by kernel_rfl)) (by unfold Func.isWrapper; first | (rw [if_pos (by decide +kernel)]; kernel_rfl) | (rw [if_neg (by decide +kernel)]; exact ⟨rfl, rfl⟩))
    (fun os started H enc _ F => by rw [OpenClaim.pre_eq_preRow]; exact lifted os started H enc F)

theorem plain (f : FuncId) (fn : Func) (hf : Tryz.pinned.checked.prog.funcNamed "gaffer/gafferlaw06.InterpSteps" = some f) (hfn : Tryz.pinned.checked.prog.funcs[f]? = some fn) :
    true = Tryz.pinned.checked.prog.looks [] ∧ ∀ (j : Nat) t, fn.params[j]? = some t → Tryz.pinned.checked.prog.wantsStandIn t = false := by
  obtain rfl : f = 4 := Option.some.inj ((show Tryz.prog.funcNamed "gaffer/gafferlaw06.InterpSteps" = some 4 by kernel_rfl).symm.trans hf) |>.symm
  obtain rfl : fn = Tryz.f4 := (Option.some.inj (Tryz.func4.symm.trans hfn)).symm
  refine ⟨by kernel_rfl, fun j t ht => ?_⟩
  rw [Tryz.params4] at ht
  have hm := Array.mem_of_getElem? ht
  simp only [List.mem_toArray, List.mem_cons, List.not_mem_nil, or_false] at hm
  rcases hm with rfl | rfl
  · exact (show Tryz.prog.wantsStandIn 24 = false by kernel_rfl)
  · exact (show Tryz.prog.wantsStandIn 37 = false by kernel_rfl)

theorem proved : Rows.InterpStepsUptoCardSaid :=
  Claim7.holds_tied_plain_at .later [] _ _ _ _ said (fun _ h => by cases h) (by kernel_rfl) (fun _ h => by cases h) interpStepsUpto_row_tie rfl ⟨rfl, rfl⟩ (by kernel_rfl) rfl plain (by kernel_rfl)

end Go.Proofs.YtjloiclbknfomaaGreatDoor.interpSteps
