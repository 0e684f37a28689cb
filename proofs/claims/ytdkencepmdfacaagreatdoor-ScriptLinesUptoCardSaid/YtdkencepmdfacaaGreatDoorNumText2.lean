/- Package num's text of a number (contract). -/
import Derived.Test.YtdkencepmdfacaaGreatDoorNumText
set_option maxRecDepth 100000
namespace Go.Proofs.YtdkencepmdfacaaGreatDoor
open Go.RowKit Ieee Go.Sort

/-- the two tables of the library that a text reads -/
def TabsAt (w : World) : Prop := Lib.TabIs Tryz.prog w "math/bits.deBruijn64tab" .u8 tab64 ∧ Lib.TabIs Tryz.prog w "internal/strconv.uint64pow10" .u64 Lib.pow10Tab
theorem tabIs_keep {P : Program} {w x : World} {name : String} {k : IntKind} {zs : List Int} (hb : Below w.heap.size w x) (h : Lib.TabIs P w name k zs) : Lib.TabIs P x name k zs := by
  unfold Lib.TabIs World.var? at *
  cases hg : P.globalNamed name with
  | none => simp [hg] at h
  | some g =>
    simp only [hg, Option.bind_some] at h ⊢
    have hlt : g < w.heap.size := by
      rcases Nat.lt_or_ge g w.heap.size with h' | h'
      · exact h'
      · rw [Array.getElem?_eq_none h'] at h
        simp at h
    rw [hb.block g hlt]
    exact h
theorem tabs_keep {w x : World} (hb : Below w.heap.size w x) (h : TabsAt w) : TabsAt x := ⟨tabIs_keep hb h.1, tabIs_keep hb h.2⟩
theorem below_grow (w : World) (q : Nat) (os : Array Obj) : Below w.heap.size w (grow (w.drewN q) os) :=
  ⟨rfl, rfl, rfl, by simp [grow], fun i hi => by
    show ((w.drewN q).heap ++ os)[i]? = _
    rw [Array.getElem?_append_left (by show i < w.heap.size; omega)]
    rfl⟩
theorem shr_fact' (a k : Nat) : ((a : Nat) : Int) / 2 ^ k = ((a / 2 ^ k : Nat) : Int) := by
  have h : (2 : Int) ^ k = ((2 ^ k : Nat) : Int) := by
    rw [Int.natCast_pow]
    rfl
  rw [h]
  exact (Int.natCast_ediv _ _).symm
theorem tz_is {x : Nat} (h : x < 18446744073709551616) (w : World) (ht : TabsAt w) : Calls Tryz.prog 108 #[.int .u64 (x : Nat)] w fun e w' => e = .returned (.int .i64 ((Lib.ctz 64 x : Nat) : Int)) ∧ w' = w :=
  Any7.bits_TrailingZeros64 Tryz.lTz x h w fun _ j hj => by
    have h1 := ht.1.cell gTab j hj
    have h2 : ∀ j, j < 64 → tab64.getD j 0 = ((Lib.deBruijn64tab.getD j 0 : Nat) : Int) := by decide
    rw [h2 j hj] at h1
    exact h1
theorem itoa_is {n : Int} (h0 : -9223372036854775808 ≤ n) (h1 : n ≤ 9223372036854775807) (w : World) (ht : TabsAt w) : Calls Tryz.prog 17 #[.int .i64 n] w fun e w' => e = .returned (.string ⟨(Lib.itoa n).toArray⟩) ∧ Below w.heap.size w w' :=
  (Any.strconv_Itoa Tryz.lItoa n h0 h1 w ht.2).mono fun e w' h => ⟨h.1, by obtain ⟨k, os, rfl⟩ := h.2; exact below_grow w k os⟩

theorem holds_zero0 (w : World) (T : TypeId) (nd : Nat) (hs : nd ≤ 24) : Holds (fun (b : UInt8) => Value.int .u8 (b.toNat : Int)) (w.alloc (.cells Lib.zeros24 T)) w.heap.size 0 (Array.replicate nd (0 : UInt8)) := fun j hj => by
  have hj' : j < nd := by simpa using hj
  refine ⟨?_, World.frozen?_alloc_new _ _ _ _⟩
  rw [World.cell?_alloc_new, Lib.zeros24_at _ (by omega), getElem!_pos _ j hj]
  simp
theorem fin_put (w : World) (o : Obj) (dk : Array UInt8) (k : Nat) : ∃ os, (putRow (fun (b : UInt8) => Value.int .u8 (b.toNat : Int)) (w.alloc o) w.heap.size 0 dk).drewN k = grow (w.drewN k) os := by
  rw [alloc_eq_grow]
  obtain ⟨os', _, e⟩ := putRow_grow_new (fun (b : UInt8) => Value.int .u8 (b.toNat : Int)) w #[o] w.heap.size 0 dk (Nat.le_refl _)
  exact ⟨os', by rw [e]; rfl⟩
set_option maxHeartbeats 6400000 in
set_option maxRecDepth 100000 in
theorem fmtu_in {u : Nat} (hu64 : u < 18446744073709551616) (w : World) (ht : TabsAt w) : Calls Tryz.prog 154 #[.int .u64 (u : Nat), .int .i64 10] w fun e w' => e = .returned (.string ⟨(Lib.decDigits u).toArray⟩) ∧ Below w.heap.size w w' := by
  by_cases hs : u < 100
  · have ks := fun w => Any.internal_strconv_small Tryz.lSmall u hs w
    have ks2 : ∀ w, Calls Tryz.prog 87 #[.int .i64 ((u : Nat) : Int)] w fun e w' => e = .returned (.string ⟨(Lib.decDigits u).toArray⟩) ∧ w' = w := ks
    have h1 : ((u : Nat) : Int) < 100 := by omega
    have w1 : IntKind.i64.wrap ((u : Nat) : Int) = ((u : Nat) : Int) := by
      rw [IntKind.wrap_i64]
      omega
    clear ks ht hs
    go_enter Tryz.func154, Tryz.ntmps154
    go_wp2_with (go_at_call 87; refine (ks2 _).mono ?_; rintro _ _ ⟨rfl, rfl⟩)
    go_ret
    exact ⟨rfl, Below.refl _ _⟩
  · have hu1 : 1 ≤ u := by omega
    have h1 : ¬ ((u : Nat) : Int) < 100 := by omega
    have hnd20 : Lib.nDigits u ≤ 20 := by
      have := Lib.numDigits_eq u hu1 hu64
      split at this <;> omega
    have hal : Tryz.prog.arrayLen 127 = 24 := by simp [Program.arrayLen, Tryz.underlying127]
    have hsl : ∀ W, (Instr.sliceAt 127 (.pointer (some ⟨w.heap.size, 0, none⟩)) none (some (.int .i64 (Lib.nDigits u : Int))) none).run Tryz.prog W = .ok (.slice (some ⟨w.heap.size, 0, none⟩) (Lib.nDigits u) 24) W := fun W => by
      rw [run_sliceAt_array_h W 127 ⟨w.heap.size, 0, none⟩ (by simp [Program.arrayLen, Program.elem, Tryz.underlying127]) .i64 (Lib.nDigits u : Int) (by omega) (by rw [hal]; omega)]
      go_simp
    have hH0 := holds_zero0 w 127 (Lib.nDigits u) (by omega)
    have hfmt := Any.internal_strconv_formatBase10 Tryz.lFmt10 w.heap.size 0 24 u (Array.replicate (Lib.nDigits u) 0) (w.alloc (.cells Lib.zeros24 127)) hH0 (by rw [Array.size_replicate]; exact Lib.lt_pow_nDigits u) hu64 (by rw [Array.size_replicate]; omega)
    rw [Array.size_replicate] at hfmt
    have HH0 := Lib.hid hH0
    have HT := Lib.hid ht
    have kn := fun W h => Any.internal_strconv_numDigits Tryz.lNumDigits u hu1 hu64 W h
    have kn2 : ∀ W, Lib.TabIs Tryz.prog W "internal/strconv.uint64pow10" .u64 Lib.pow10Tab → Calls Tryz.prog 88 #[.int .u64 (u : Nat)] W fun e w' => e = .returned (.int .i64 ((Lib.nDigits u : Nat) : Int)) ∧ w' = W := kn
    clear hH0 hal ht kn hs
    go_enter Tryz.func154, Tryz.ntmps154
    go_wp2_with (go_at_call 88; refine (kn2 _ (Lib.tabIs_alloc HT.out.2 _)).mono ?_; rintro _ _ ⟨rfl, rfl⟩)
    go_at_call 89
    refine Calls.mono hfmt ?_
    rintro e w' ⟨rfl, k, v', dk, rfl, hF⟩
    have hcv : (convert 43 9 (.slice (some ⟨w.heap.size, 0, none⟩) (Lib.nDigits u) 24)).run Tryz.prog ((putRow (fun (b : UInt8) => Value.int .u8 (b.toNat : Int)) (w.alloc (.cells Lib.zeros24 127)) w.heap.size 0 dk).drewN k) = .ok (.string ⟨(Lib.decDigits u).toArray⟩) ((putRow (fun (b : UInt8) => Value.int .u8 (b.toNat : Int)) (w.alloc (.cells Lib.zeros24 127)) w.heap.size 0 dk).drewN k) := by
      have h := run_convert_bytes_back (P := Tryz.prog) ((putRow (fun (b : UInt8) => Value.int .u8 (b.toNat : Int)) (w.alloc (.cells Lib.zeros24 127)) w.heap.size 0 dk).drewN k) 43 9 5 ⟨w.heap.size, 0, none⟩ 24 (Lib.decDigits u) Tryz.underlying43 Tryz.underlying5 Tryz.underlying9 (fun j hj => by
        rw [Lib.row_is_numeral hF j hj, Lib.add_plain, World.cell?_drewN]
        exact cell?_putRow (fun (b : UInt8) => Value.int .u8 (b.toNat : Int)) _ w.heap.size 0 _ dk HH0.out (by rw [hF.size, Array.size_replicate]) j (by rw [hF.size]; rw [Lib.decDigits_length] at hj; exact hj))
      rw [Lib.decDigits_length] at h
      exact h
    go_wp2
    go_ret
    obtain ⟨os, eo⟩ := fin_put w (.cells Lib.zeros24 127) dk k
    exact ⟨rfl, by rw [eo]; exact below_grow w k os⟩

theorem fmtu_is {u : Nat} (hu : u < 18446744073709551616) (w : World) (ht : TabsAt w) : Calls Tryz.prog 109 #[.int .u64 (u : Nat), .int .i64 10] w fun e w' => e = .returned (.string ⟨(Lib.decDigits u).toArray⟩) ∧ Below w.heap.size w w' := by
  have k := fun w ht => fmtu_in hu w ht
  go_enter Tryz.func109, Tryz.ntmps109
  go_wp2_with (go_at_call 154; refine (k _ ht).mono ?_; rintro _ _ ⟨rfl, hb⟩)
  go_ret
  exact ⟨rfl, hb⟩
theorem ldexp_any {r : Nat} {n : Int} (h52 : 4503599627370496 ≤ r) (h1 : r < infB) (hn0 : -5000 ≤ n) (hn1 : n ≤ 5000) (w : World) : Calls Tryz.prog 107 #[.float .f64 r, .int .i64 n] w fun e w' => e = .returned (.float .f64 (ldx r n)) ∧ ∃ k, w' = w.drewN k := by
  have k := fun w => ldexp_in h52 h1 hn0 hn1 w
  obtain ⟨V, hV⟩ : ∃ V, V = ldx r n := ⟨_, rfl⟩
  rw [← hV] at k ⊢
  clear hV h52 h1 hn0 hn1
  go_enter Tryz.func107, Tryz.ntmps107
  go_wp2_with (go_at_call 153; refine (k _).mono ?_; rintro _ _ ⟨rfl, k0, rfl⟩)
  go_ret
  exact ⟨rfl, _, rfl⟩
theorem decDigits_len (u : Nat) : 1 ≤ (Lib.decDigits u).length ∧ (u < 18446744073709551616 → (Lib.decDigits u).length ≤ 20) := by
  rw [Lib.decDigits_length]
  refine ⟨Lib.nDigits_pos u, fun h => ?_⟩
  by_cases c : u = 0
  · subst c
    rw [Lib.nDigits_small (by decide)]
    decide
  · have := Lib.numDigits_eq u (by omega) h
    split at this <;> omega
theorem itoa_len (n : Int) : n.natAbs < 18446744073709551616 → (Lib.itoa n).length ≤ 21 := fun h => by
  unfold Lib.itoa
  split
  · have := (decDigits_len n.natAbs).2 h
    simp only [List.length_cons]
    omega
  · have := (decDigits_len n.toNat).2 (by omega)
    omega
theorem ba_size (l : List UInt8) : (⟨l.toArray⟩ : ByteArray).size = l.length := by
  show l.toArray.size = _
  simp

set_option maxHeartbeats 4000000 in
set_option maxRecDepth 100000 in
theorem text_any {a : Nat} (ha : a < 2 * signB) (w : World) (ht : TabsAt w) : Calls Tryz.prog 67 #[.int .u64 (a : Nat)] w fun e w' => e = .returned (.string ⟨(ftext a).toArray⟩) ∧ Below w.heap.size w w' := by
  have hfb := frombits_run
  have ks := fun w => sbit_any ha w
  have kn := fun w => isnan_any a w
  have ki := fun w => isinf_any ha w
  have ka := fun w => mabs_any ha w
  have kz : (FloatKind.f64.format.order a 0 == some .eq) = decide (a % signB = 0) := eq_zero ha
  have kn2 : ∀ w, Calls Tryz.prog 103 #[.float .f64 a] w fun e w' => e = .returned (.bool (isN a)) ∧ w = w' := kn
  clear kn
  have kn := kn2
  clear kn2
  have hF : ftext a = if isN a then [110, 97, 110] else (if signB ≤ a then [45] else []) ++ (if a % signB = infB then [105, 110, 102] else if a % signB = 0 then [48] else Lib.decDigits (oddM (a % signB)) ++ 112 :: Lib.itoa (oddE (a % signB))) := rfl
  have hni := isN_iff a
  obtain ⟨L, hL⟩ : ∃ L, L = ftext a := ⟨_, rfl⟩
  rw [← hL] at hF ⊢
  clear hL
  obtain ⟨x, hx⟩ : ∃ x, x = a % signB := ⟨_, rfl⟩
  rw [← hx] at ki ka kz hF hni
  clear hx
  obtain ⟨N, hN⟩ : ∃ N, N = isN a := ⟨_, rfl⟩
  rw [← hN] at kn hF hni
  clear hN
  have HT := Lib.hid ht
  clear ht

  by_cases cs : signB ≤ a
  · rw [decide_eq_true cs] at ks
    rw [if_pos cs] at hF
    cases N with
    | true =>
      rw [if_pos rfl] at hF
      clear HT ki ka kz cs ha hni
      go_enter Tryz.func67, Tryz.ntmps67
      go_wp2_with (first | (go_at_call 101; go_in) | (go_at_call 102; with_reducible (refine (ks _).mono ?_); rintro _ _ ⟨rfl, rfl⟩) | (go_at_call 103; with_reducible (refine (kn _).mono ?_); rintro _ _ ⟨rfl, rfl⟩) | (go_at_call 104; with_reducible (refine (ki _).mono ?_); rintro _ _ ⟨rfl, rfl⟩))
      go_ret
      exact ⟨by rw [hF]; rfl, Below.refl _ _⟩
    | false =>
      rw [if_neg (by decide)] at hF
      clear cs
      by_cases c1 : x = infB
      · rw [if_pos c1] at hF
        rw [decide_eq_true c1] at ki
        clear HT ka kz ha hni c1
        go_enter Tryz.func67, Tryz.ntmps67
        go_wp2_with (first | (go_at_call 101; go_in) | (go_at_call 102; with_reducible (refine (ks _).mono ?_); rintro _ _ ⟨rfl, rfl⟩) | (go_at_call 103; with_reducible (refine (kn _).mono ?_); rintro _ _ ⟨rfl, rfl⟩) | (go_at_call 104; with_reducible (refine (ki _).mono ?_); rintro _ _ ⟨rfl, rfl⟩))
        go_ret
        exact ⟨by rw [hF]; rfl, Below.refl _ _⟩
      by_cases c2 : x = 0
      · rw [if_neg c1, if_pos c2] at hF
        rw [decide_eq_false c1] at ki
        rw [decide_eq_true c2] at kz
        clear HT ka ha hni c1 c2
        go_enter Tryz.func67, Tryz.ntmps67
        go_wp2_with (first | (go_at_call 101; go_in) | (go_at_call 102; with_reducible (refine (ks _).mono ?_); rintro _ _ ⟨rfl, rfl⟩) | (go_at_call 103; with_reducible (refine (kn _).mono ?_); rintro _ _ ⟨rfl, rfl⟩) | (go_at_call 104; with_reducible (refine (ki _).mono ?_); rintro _ _ ⟨rfl, rfl⟩))
        go_ret
        exact ⟨by rw [hF]; rfl, Below.refl _ _⟩
      rw [if_neg c1, if_neg c2] at hF
      rw [decide_eq_false c1] at ki
      rw [decide_eq_false c2] at kz
      have hxi : x < infB := by
        have h : ¬ infB < x := fun h => nomatch hni.2 h
        omega
      have kf := fun w => frexp_any c2 hxi w
      obtain ⟨hm1, hm2⟩ := mant_range c2
      have kx := fun w => ldexp_any (r := 4598175219545276416 + mant x) (n := 53) (by omega) (by unfold infB; omega) (by decide) (by decide) w
      have hld : ldx (4598175219545276416 + mant x) 53 = 4836865999795912704 + mant x := by
        rw [ldexp_law (r := 4598175219545276416 + mant x) (n := 53) (by omega) (by unfold infB; omega) (X := 52) (by omega), if_neg (by decide), if_neg (by decide), if_neg (by decide)]
        omega
      rw [hld] at kx
      have hcv := fun w => run_convert_float_int (P := Tryz.prog) w 138 82 .f64 .u64 (4836865999795912704 + mant x) _ (by rw [Tryz.underlying138]; rfl) Tryz.underlying82 (whole_float hm1 hm2)
      obtain ⟨o1, o2, o3⟩ := mant_odd c2
      have kt := fun w ht => tz_is (x := mant x) (by omega) w ht
      obtain ⟨c, hc⟩ : ∃ c, c = Lib.ctz 64 (mant x) := ⟨_, rfl⟩
      rw [← hc] at kt o1 o2 o3
      have f1 := shr_fact' (mant x) c
      rw [o1] at f1
      have hod : oddM x < 18446744073709551616 := by
        rw [← o1]
        exact Nat.lt_of_le_of_lt (Nat.div_le_self _ _) (by omega)
      have ku := fun w ht => fmtu_is hod w ht
      have hE0 := takenE_ge x
      have hE1 := takenE_le hxi
      have hE2 := log52 c2
      have ko := fun w ht => itoa_is (n := oddE x) (by omega) (by omega) w ht
      have l1 := decDigits_len (oddM x)
      have l2 := itoa_len (oddE x) (by omega)
      have l3 := l1.2 hod
      obtain ⟨DM, hDM⟩ : ∃ D, D = Lib.decDigits (oddM x) := ⟨_, rfl⟩
      obtain ⟨DE, hDE⟩ : ∃ D, D = Lib.itoa (oddE x) := ⟨_, rfl⟩
      rw [← hDM] at ku hF l3
      rw [← hDE] at ko hF l2
      have w1 : IntKind.i64.wrap (takenE x + ((takenM x).log2 : Int) + 1 - 53) = takenE x + ((takenM x).log2 : Int) + 1 - 53 := by
        rw [IntKind.wrap_i64]
        omega
      have w2 : IntKind.i64.wrap (takenE x + ((takenM x).log2 : Int) + 1 - 53 + ((c : Nat) : Int)) = oddE x := by
        rw [o2, IntKind.wrap_i64]
        omega
      obtain ⟨P1, hP1⟩ : ∃ z, z = 4598175219545276416 + mant x := ⟨_, rfl⟩
      obtain ⟨P2, hP2⟩ : ∃ z, z = 4836865999795912704 + mant x := ⟨_, rfl⟩
      obtain ⟨E1, hE1'⟩ : ∃ z, z = takenE x + ((takenM x).log2 : Int) + 1 := ⟨_, rfl⟩
      obtain ⟨M, hM⟩ : ∃ z, z = mant x := ⟨_, rfl⟩
      rw [← hP1] at kf kx
      rw [← hP2] at kx hcv
      rw [← hE1'] at kf w1 w2
      rw [← hM] at kt f1 hcv
      obtain ⟨O, hO⟩ : ∃ z, z = oddM x := ⟨_, rfl⟩
      obtain ⟨OE, hOE⟩ : ∃ z, z = oddE x := ⟨_, rfl⟩
      rw [← hO] at f1 ku
      rw [← hOE] at w2 ko
      obtain ⟨BM, hBM⟩ : ∃ z : ByteArray, z = ⟨DM.toArray⟩ := ⟨_, rfl⟩
      obtain ⟨BE, hBE⟩ : ∃ z : ByteArray, z = ⟨DE.toArray⟩ := ⟨_, rfl⟩
      have s1 : BM.size ≤ 20 := by
        rw [hBM, ba_size]
        exact l3
      have s2 : BE.size ≤ 21 := by
        rw [hBE, ba_size]
        exact l2
      have HV : Hid ((({ data := #[45] } : ByteArray) ++ BM ++ { data := #[112] }) ++ BE = ⟨L.toArray⟩) := by
        show (({ data := #[45] } : ByteArray) ++ BM ++ { data := #[112] }) ++ BE = ⟨L.toArray⟩
        rw [hF, hBM, hBE]
        apply ByteArray.ext
        simp
      rw [← hBM] at ku
      rw [← hBE] at ko
      clear hP1 hP2 hE1' hM hO hOE hDM hDE hBM hBE hF hE0 hE1 hE2 l1 l2 l3 hod o1 o2 hc hld hm1 hm2 hni hxi c1 c2 ha
      go_enter Tryz.func67, Tryz.ntmps67
      go_wp2_with (first | (go_at_call 101; go_in) | (go_at_call 102; with_reducible (refine (ks _).mono ?_); rintro _ _ ⟨rfl, rfl⟩) | (go_at_call 103; with_reducible (refine (kn _).mono ?_); rintro _ _ ⟨rfl, rfl⟩) | (go_at_call 104; with_reducible (refine (ki _).mono ?_); rintro _ _ ⟨rfl, rfl⟩) | (go_at_call 106; with_reducible (refine (ka _).mono ?_); rintro _ _ ⟨rfl, rfl⟩) | (go_at_call 105; with_reducible (refine (kf _).mono ?_); rintro _ _ ⟨rfl, k1, rfl⟩) | (go_at_call 107; with_reducible (refine (kx _).mono ?_); rintro _ _ ⟨rfl, k2, rfl⟩) | (go_at_call 108; refine (kt _ (tabs_keep (grow_drewN _ _) HT.out)).mono ?_; rintro _ _ ⟨rfl, rfl⟩) | (go_at_call 109; go_loud (refine (ku _ (tabs_keep (grow_drewN _ _) HT.out)).mono ?_; rintro _ _ ⟨rfl, hb1⟩; have HB1 := Lib.hid (grow_trans (grow_drewN w (k1 + k2)) hb1); clear hb1)) | (go_at_call 17; go_loud (refine (ko _ (tabs_keep HB1.out HT.out)).mono ?_; rintro _ _ ⟨rfl, hb2⟩; have HB2 := Lib.hid (grow_trans HB1.out hb2); clear hb2)))
      go_ret
      exact ⟨by rw [← HV.out]; rfl, HB2.out⟩
  · rw [decide_eq_false cs] at ks
    rw [if_neg cs] at hF
    cases N with
    | true =>
      rw [if_pos rfl] at hF
      clear HT ki ka kz cs ha hni
      go_enter Tryz.func67, Tryz.ntmps67
      go_wp2_with (first | (go_at_call 101; go_in) | (go_at_call 102; with_reducible (refine (ks _).mono ?_); rintro _ _ ⟨rfl, rfl⟩) | (go_at_call 103; with_reducible (refine (kn _).mono ?_); rintro _ _ ⟨rfl, rfl⟩) | (go_at_call 104; with_reducible (refine (ki _).mono ?_); rintro _ _ ⟨rfl, rfl⟩))
      go_ret
      exact ⟨by rw [hF]; rfl, Below.refl _ _⟩
    | false =>
      rw [if_neg (by decide)] at hF
      clear cs
      by_cases c1 : x = infB
      · rw [if_pos c1] at hF
        rw [decide_eq_true c1] at ki
        clear HT ka kz ha hni c1
        go_enter Tryz.func67, Tryz.ntmps67
        go_wp2_with (first | (go_at_call 101; go_in) | (go_at_call 102; with_reducible (refine (ks _).mono ?_); rintro _ _ ⟨rfl, rfl⟩) | (go_at_call 103; with_reducible (refine (kn _).mono ?_); rintro _ _ ⟨rfl, rfl⟩) | (go_at_call 104; with_reducible (refine (ki _).mono ?_); rintro _ _ ⟨rfl, rfl⟩))
        go_ret
        exact ⟨by rw [hF]; rfl, Below.refl _ _⟩
      by_cases c2 : x = 0
      · rw [if_neg c1, if_pos c2] at hF
        rw [decide_eq_false c1] at ki
        rw [decide_eq_true c2] at kz
        clear HT ka ha hni c1 c2
        go_enter Tryz.func67, Tryz.ntmps67
        go_wp2_with (first | (go_at_call 101; go_in) | (go_at_call 102; with_reducible (refine (ks _).mono ?_); rintro _ _ ⟨rfl, rfl⟩) | (go_at_call 103; with_reducible (refine (kn _).mono ?_); rintro _ _ ⟨rfl, rfl⟩) | (go_at_call 104; with_reducible (refine (ki _).mono ?_); rintro _ _ ⟨rfl, rfl⟩))
        go_ret
        exact ⟨by rw [hF]; rfl, Below.refl _ _⟩
      rw [if_neg c1, if_neg c2] at hF
      rw [decide_eq_false c1] at ki
      rw [decide_eq_false c2] at kz
      have hxi : x < infB := by
        have h : ¬ infB < x := fun h => nomatch hni.2 h
        omega
      have kf := fun w => frexp_any c2 hxi w
      obtain ⟨hm1, hm2⟩ := mant_range c2
      have kx := fun w => ldexp_any (r := 4598175219545276416 + mant x) (n := 53) (by omega) (by unfold infB; omega) (by decide) (by decide) w
      have hld : ldx (4598175219545276416 + mant x) 53 = 4836865999795912704 + mant x := by
        rw [ldexp_law (r := 4598175219545276416 + mant x) (n := 53) (by omega) (by unfold infB; omega) (X := 52) (by omega), if_neg (by decide), if_neg (by decide), if_neg (by decide)]
        omega
      rw [hld] at kx
      have hcv := fun w => run_convert_float_int (P := Tryz.prog) w 138 82 .f64 .u64 (4836865999795912704 + mant x) _ (by rw [Tryz.underlying138]; rfl) Tryz.underlying82 (whole_float hm1 hm2)
      obtain ⟨o1, o2, o3⟩ := mant_odd c2
      have kt := fun w ht => tz_is (x := mant x) (by omega) w ht
      obtain ⟨c, hc⟩ : ∃ c, c = Lib.ctz 64 (mant x) := ⟨_, rfl⟩
      rw [← hc] at kt o1 o2 o3
      have f1 := shr_fact' (mant x) c
      rw [o1] at f1
      have hod : oddM x < 18446744073709551616 := by
        rw [← o1]
        exact Nat.lt_of_le_of_lt (Nat.div_le_self _ _) (by omega)
      have ku := fun w ht => fmtu_is hod w ht
      have hE0 := takenE_ge x
      have hE1 := takenE_le hxi
      have hE2 := log52 c2
      have ko := fun w ht => itoa_is (n := oddE x) (by omega) (by omega) w ht
      have l1 := decDigits_len (oddM x)
      have l2 := itoa_len (oddE x) (by omega)
      have l3 := l1.2 hod
      obtain ⟨DM, hDM⟩ : ∃ D, D = Lib.decDigits (oddM x) := ⟨_, rfl⟩
      obtain ⟨DE, hDE⟩ : ∃ D, D = Lib.itoa (oddE x) := ⟨_, rfl⟩
      rw [← hDM] at ku hF l3
      rw [← hDE] at ko hF l2
      have w1 : IntKind.i64.wrap (takenE x + ((takenM x).log2 : Int) + 1 - 53) = takenE x + ((takenM x).log2 : Int) + 1 - 53 := by
        rw [IntKind.wrap_i64]
        omega
      have w2 : IntKind.i64.wrap (takenE x + ((takenM x).log2 : Int) + 1 - 53 + ((c : Nat) : Int)) = oddE x := by
        rw [o2, IntKind.wrap_i64]
        omega
      obtain ⟨P1, hP1⟩ : ∃ z, z = 4598175219545276416 + mant x := ⟨_, rfl⟩
      obtain ⟨P2, hP2⟩ : ∃ z, z = 4836865999795912704 + mant x := ⟨_, rfl⟩
      obtain ⟨E1, hE1'⟩ : ∃ z, z = takenE x + ((takenM x).log2 : Int) + 1 := ⟨_, rfl⟩
      obtain ⟨M, hM⟩ : ∃ z, z = mant x := ⟨_, rfl⟩
      rw [← hP1] at kf kx
      rw [← hP2] at kx hcv
      rw [← hE1'] at kf w1 w2
      rw [← hM] at kt f1 hcv
      obtain ⟨O, hO⟩ : ∃ z, z = oddM x := ⟨_, rfl⟩
      obtain ⟨OE, hOE⟩ : ∃ z, z = oddE x := ⟨_, rfl⟩
      rw [← hO] at f1 ku
      rw [← hOE] at w2 ko
      obtain ⟨BM, hBM⟩ : ∃ z : ByteArray, z = ⟨DM.toArray⟩ := ⟨_, rfl⟩
      obtain ⟨BE, hBE⟩ : ∃ z : ByteArray, z = ⟨DE.toArray⟩ := ⟨_, rfl⟩
      have s1 : BM.size ≤ 20 := by
        rw [hBM, ba_size]
        exact l3
      have s2 : BE.size ≤ 21 := by
        rw [hBE, ba_size]
        exact l2
      have HV : Hid ((({ data := #[] } : ByteArray) ++ BM ++ { data := #[112] }) ++ BE = ⟨L.toArray⟩) := by
        show (({ data := #[] } : ByteArray) ++ BM ++ { data := #[112] }) ++ BE = ⟨L.toArray⟩
        rw [hF, hBM, hBE]
        apply ByteArray.ext
        simp
      rw [← hBM] at ku
      rw [← hBE] at ko
      clear hP1 hP2 hE1' hM hO hOE hDM hDE hBM hBE hF hE0 hE1 hE2 l1 l2 l3 hod o1 o2 hc hld hm1 hm2 hni hxi c1 c2 ha
      go_enter Tryz.func67, Tryz.ntmps67
      go_wp2_with (first | (go_at_call 101; go_in) | (go_at_call 102; with_reducible (refine (ks _).mono ?_); rintro _ _ ⟨rfl, rfl⟩) | (go_at_call 103; with_reducible (refine (kn _).mono ?_); rintro _ _ ⟨rfl, rfl⟩) | (go_at_call 104; with_reducible (refine (ki _).mono ?_); rintro _ _ ⟨rfl, rfl⟩) | (go_at_call 106; with_reducible (refine (ka _).mono ?_); rintro _ _ ⟨rfl, rfl⟩) | (go_at_call 105; with_reducible (refine (kf _).mono ?_); rintro _ _ ⟨rfl, k1, rfl⟩) | (go_at_call 107; with_reducible (refine (kx _).mono ?_); rintro _ _ ⟨rfl, k2, rfl⟩) | (go_at_call 108; refine (kt _ (tabs_keep (grow_drewN _ _) HT.out)).mono ?_; rintro _ _ ⟨rfl, rfl⟩) | (go_at_call 109; go_loud (refine (ku _ (tabs_keep (grow_drewN _ _) HT.out)).mono ?_; rintro _ _ ⟨rfl, hb1⟩; have HB1 := Lib.hid (grow_trans (grow_drewN w (k1 + k2)) hb1); clear hb1)) | (go_at_call 17; go_loud (refine (ko _ (tabs_keep HB1.out HT.out)).mono ?_; rintro _ _ ⟨rfl, hb2⟩; have HB2 := Lib.hid (grow_trans HB1.out hb2); clear hb2)))
      go_ret
      exact ⟨by rw [← HV.out]; rfl, HB2.out⟩
end Go.Proofs.YtdkencepmdfacaaGreatDoor
