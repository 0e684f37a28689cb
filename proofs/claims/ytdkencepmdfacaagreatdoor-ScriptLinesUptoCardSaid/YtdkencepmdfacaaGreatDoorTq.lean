/- strings.IndexRune at the sixteen digits, script.raw (contracts). -/
import Derived.RangeFuncBox
import Derived.Lib.OthersKept
import Derived.WalkMore
import Derived.IntWalk
import Derived.Test.YtdkencepmdfacaaGreatDoorGr11
import Derived.Test.YtdkencepmdfacaaGreatDoorGr12
set_option maxRecDepth 100000
namespace Go.Proofs.YtdkencepmdfacaaGreatDoor
open Go.RowKit Ieee

/-! ### plain: the bytes of a text, digit by digit -/
theorem rawB_snoc : ∀ (l m : List UInt8) (c d : UInt8) (a b : Nat), rawB l = some m → unhex c = some a → unhex d = some b → rawB (l ++ [c, d]) = some (m ++ [UInt8.ofNat (16 * a + b)])
  | [], m, c, d, a, b, h, h1, h2 => by
    rw [rawB] at h
    injection h with h
    subst h
    show rawB [c, d] = _
    rw [rawB, h1, h2]
    rfl
  | [x], m, c, d, a, b, h, h1, h2 => by rw [rawB] at h; cases h
  | x :: y :: r, m, c, d, a, b, h, h1, h2 => by
    rw [rawB] at h
    obtain ⟨p, hp, h⟩ := Option.bind_eq_some_iff.1 h
    obtain ⟨q, hq, h⟩ := Option.bind_eq_some_iff.1 h
    obtain ⟨m', hm', h⟩ := Option.map_eq_some_iff.1 h
    subst h
    have ih := rawB_snoc r m' c d a b hm' h1 h2
    rw [List.cons_append, List.cons_append, rawB, hp, hq, ih]
    rfl
theorem rawB_badc : ∀ (l : List UInt8) (c : UInt8), c ∈ l → unhex c = none → rawB l = none
  | [], c, h, _ => by cases h
  | [x], c, _, _ => rfl
  | x :: y :: r, c, h, hn => by
    rw [rawB]
    rcases List.mem_cons.1 h with rfl | h
    · rw [hn]; rfl
    rcases List.mem_cons.1 h with rfl | h
    · rw [hn]; cases unhex x <;> rfl
    · rw [rawB_badc r c h hn]; cases unhex x <;> cases unhex y <;> rfl
theorem rawB_oddl : ∀ l : List UInt8, l.length % 2 = 1 → rawB l = none
  | [], h => by simp at h
  | [x], _ => rfl
  | x :: y :: r, h => by
    rw [rawB, rawB_oddl r (by simp at h; omega)]
    cases unhex x <;> cases unhex y <;> rfl
/-- what stands in the row when i digits have been read -/
def RawAt (s : List UInt8) (i : Nat) (bs : List UInt8) : Prop :=
  (i % 2 = 0 → bs.length = i / 2 ∧ rawB (s.take i) = some bs) ∧ (i % 2 = 1 → ∃ m c a, bs = m ++ [UInt8.ofNat a] ∧ m.length = i / 2 ∧ rawB (s.take (i - 1)) = some m ∧ s[i - 1]? = some c ∧ unhex c = some a)
theorem RawAt.zero (s : List UInt8) : RawAt s 0 [] := ⟨fun _ => ⟨rfl, rfl⟩, fun h => by simp at h⟩
theorem RawAt.even {s bs : List UInt8} {i : Nat} {c : UInt8} {d : Nat} (h : RawAt s i bs) (hi : i % 2 = 0) (hc : s[i]? = some c) (hd : unhex c = some d) : RawAt s (i + 1) (bs ++ [UInt8.ofNat d]) :=
  ⟨fun h1 => by omega, fun _ => ⟨bs, c, d, rfl, by have := (h.1 hi).1; omega, (h.1 hi).2, hc, hd⟩⟩
theorem RawAt.odd {s m : List UInt8} {i : Nat} {c c' : UInt8} {a d : Nat} (hi : i % 2 = 1) (hl : m.length = i / 2) (hm : rawB (s.take (i - 1)) = some m) (h0 : s[i - 1]? = some c') (h1 : unhex c' = some a) (hc : s[i]? = some c) (hd : unhex c = some d) : RawAt s (i + 1) (m ++ [UInt8.ofNat (16 * a + d)]) :=
  ⟨fun _ => ⟨by simp; omega, by
    have e : s.take (i + 1) = s.take (i - 1) ++ [c', c] := by
      rw [List.take_add_one, hc]
      conv => lhs; rw [show i = (i - 1) + 1 by omega, List.take_add_one, h0]
      simp
    rw [e]
    exact rawB_snoc _ _ _ _ _ _ hm h1 hd⟩, fun h => by omega⟩
def sixteenT : List UInt8 := [48, 49, 50, 51, 52, 53, 54, 55, 56, 57, 97, 98, 99, 100, 101, 102]
theorem six_index (c : UInt8) (h : c.toNat < 128) : (∀ d, unhex c = some d → Lib.indexByte sixteenT c = (d : Int) ∧ d < 16) ∧ (unhex c = none → Lib.indexByte sixteenT c = -1) := by
  have key : ∀ n : Fin 128, Lib.indexByte sixteenT (UInt8.ofNat n.val) = ((unhex (UInt8.ofNat n.val)).map fun d => ((d : Nat) : Int)).getD (-1) ∧ (unhex (UInt8.ofNat n.val)).getD 0 < 16 := by decide +kernel
  have k := key ⟨c.toNat, h⟩
  simp only at k
  rw [show UInt8.ofNat c.toNat = c from UInt8.ofNat_toNat] at k
  constructor
  · intro d hd
    rw [hd] at k
    exact k
  · intro hn
    rw [hn] at k
    exact k.1
theorem six_high (l : List UInt8) (c : UInt8) (h : 128 ≤ c.toNat) (hl : ∀ x ∈ l, x.toNat < 128) : Lib.indexByte l c = -1 := by
  induction l with
  | nil => rfl
  | cons x l ih =>
    have hx := hl x (by simp)
    rw [Lib.indexByte, if_neg (by intro e; rw [beq_iff_eq] at e; subst e; omega), if_pos (by rw [ih fun y hy => hl y (by simp [hy])]; rfl)]
theorem encode_last (r : Int) (h128 : 128 ≤ r) : ∃ k : Nat, (Utf8.encode r).size = k + 1 ∧ 1 ≤ k ∧ k ≤ 3 ∧ ∀ h : k < (Utf8.encode r).size, 128 ≤ ((Utf8.encode r)[k]'h).toNat := by
  have key : ∀ r : Int, 128 ≤ r → Utf8.valid r = true → ∃ k : Nat, (Utf8.encode r).size = k + 1 ∧ 1 ≤ k ∧ k ≤ 3 ∧ ∀ h : k < (Utf8.encode r).size, 128 ≤ ((Utf8.encode r)[k]'h).toNat := fun r h1 hv => by
    obtain ⟨e1, e2, e3⟩ := encode_facts r hv h1
    refine ⟨(Utf8.encode r).size - 1, by omega, by omega, by omega, e3⟩
  by_cases hv : Utf8.valid r = true
  · exact key r h128 hv
  · have e : Utf8.encode r = Utf8.encode 65533 := by
      unfold Utf8.encode
      rw [if_neg hv, if_pos (show Utf8.valid 65533 = true from by decide)]
      rfl
    rw [e]
    exact key 65533 (by decide) (by decide)
theorem unhex_low {c : UInt8} {d : Nat} (h : unhex c = some d) : c.toNat < 128 := by
  unfold unhex at h
  split at h
  · omega
  · split at h
    · omega
    · cases h

theorem u8_info : (Tryz.prog.info? 5).map (fun i => (i.zero, i.size, i.bytes)) = some (some (.int .u8 0), 1, 1) := by kernel_rfl
theorem u8_small {d : Nat} (h : d < 16) : IntKind.u8.wrap (d : Int) = (d : Int) := by
  have key : ∀ d : Fin 16, IntKind.u8.wrap (d.val : Int) = (d.val : Int) := by decide
  exact key ⟨d, h⟩
theorem bits_or0 {d : Nat} (h : d < 16) : bits BinOp.or IntKind.u8 0 (d : Int) = (d : Int) := by
  have key : ∀ d : Fin 16, bits BinOp.or IntKind.u8 0 (d.val : Int) = (d.val : Int) := by decide +kernel
  exact key ⟨d, h⟩
theorem bits_or1 {a d : Nat} (ha : a < 16) (h : d < 16) : bits BinOp.or IntKind.u8 ((a : Int) * 16 % 256) (d : Int) = ((16 * a + d : Nat) : Int) := by
  have key : ∀ a d : Fin 16, bits BinOp.or IntKind.u8 ((a.val : Int) * 16 % 256) (d.val : Int) = ((16 * a.val + d.val : Nat) : Int) := by decide +kernel
  exact key ⟨a, ha⟩ ⟨d, h⟩
theorem cells_put (m : List UInt8) (y : Value) (x : Nat) (hx : x < 256) : (Lib.byteCells m ++ [y]).set m.length (.int .u8 (x : Int)) = Lib.byteCells (m ++ [UInt8.ofNat x]) := by
  unfold Lib.byteCells
  rw [List.set_append_right _ _ (by rw [List.length_map]; exact Nat.le_refl _), List.length_map, Nat.sub_self, List.map_append]
  show _ ++ [Value.int .u8 (x : Int)] = _ ++ [Value.int .u8 ((UInt8.ofNat x).toNat : Int)]
  rw [UInt8.toNat_ofNat', Nat.mod_eq_of_lt (by omega)]
theorem own_iter {w : World} {base k : Nat} {e : TypeId} {size n : Nat} {v : Value} {xs : List Value} (h : w.ownsRow base e size v n xs) (hk : k < base) (S : ByteArray) (pos : Nat) : (w.iterAt k S pos).ownsRow base e size v n xs := by
  refine ⟨h.1, ?_⟩
  rcases h.2 with h2 | ⟨g, cap, cur, h1, h2, h3, h4⟩
  · exact .inl h2
  · exact .inr ⟨g, cap, cur, h1, h2, (Lib.iterAt_other w k g S pos (by omega)).trans h3, h4⟩
theorem irune_low (c : UInt8) (h : c.toNat < 128) (w : World) : Calls Tryz.prog 84 #[.string (strOf sixteenT), .int .i32 (c.toNat : Nat)] w fun e w' => e = .returned (.int .i64 (Lib.indexByte sixteenT c)) ∧ w' = w := by
  have k := Any.strings_IndexRune_ascii Tryz.lIndexRune (strOf sixteenT) (c.toNat : Nat) w (by omega) (by omega)
  rw [list_str, Int.toNat_natCast, show c.toNat.toUInt8 = c from UInt8.ofNat_toNat] at k
  exact k
theorem vrune_any (r : Int) (w : World) : Calls Tryz.prog 134 #[.int .i32 r] w fun e w' => (e = .returned (.bool false) ∨ e = .returned (.bool true)) ∧ w' = w := by
  by_cases h0 : 0 ≤ r
  · by_cases h1 : r < 55296
    · go_enter Tryz.func134, Tryz.ntmps134
      go_wp2
      go_ret
      first | exact ⟨.inl rfl, rfl⟩ | exact ⟨.inr rfl, rfl⟩
    · by_cases h2 : 57343 < r
      · by_cases h3 : r ≤ 1114111
        · go_enter Tryz.func134, Tryz.ntmps134
          go_wp2
          go_ret
          first | exact ⟨.inl rfl, rfl⟩ | exact ⟨.inr rfl, rfl⟩
        · go_enter Tryz.func134, Tryz.ntmps134
          go_wp2
          go_ret
          first | exact ⟨.inl rfl, rfl⟩ | exact ⟨.inr rfl, rfl⟩
      · go_enter Tryz.func134, Tryz.ntmps134
        go_wp2
        go_ret
        first | exact ⟨.inl rfl, rfl⟩ | exact ⟨.inr rfl, rfl⟩
  · have h2 : ¬ 57343 < r := by omega
    go_enter Tryz.func134, Tryz.ntmps134
    go_wp2
    go_ret
    first | exact ⟨.inl rfl, rfl⟩ | exact ⟨.inr rfl, rfl⟩
theorem six_all : ∀ x ∈ sixteenT, x.toNat < 128 := by decide
set_option maxHeartbeats 4000000 in
set_option maxRecDepth 100000 in
theorem irune_err (w : World) : Calls Tryz.prog 84 #[.string (strOf sixteenT), .int .i32 65533] w fun e w' => e = .returned (.int .i64 (-1)) ∧ Below w.heap.size w w' := by
  have HW : Hid ((strOf sixteenT).size = 16) := Lib.hid rfl
  obtain ⟨S, hS⟩ : ∃ S, strOf sixteenT = S := ⟨_, rfl⟩
  have HS := Lib.hid hS
  rw [hS] at HW ⊢
  clear hS
  go_enter Tryz.func84, Tryz.ntmps84
  go_wp2
  have HI0 : Hid ((w.iter S 0).heap[w.heap.size]? = some (.stringIter S 0)) := Lib.hid (World.iter_heap w S 0)
  have HB0 : Hid (Below w.heap.size w (w.iter S 0)) := Lib.hid ((Below.refl w.heap.size w).alloc (Nat.le_refl _) _)
  generalize w.iter S 0 = w1 at *
  go_loopw [] (fun wr => ∃ pos : Nat, pos ≤ 16 ∧ wr.heap[w.heap.size]? = some (.stringIter S pos) ∧ Below w.heap.size w wr) (fun wr => 16 - wr.iterPos w.heap.size)
  case atStart => exact ⟨0, by omega, HI0.out, HB0.out⟩
  case round =>
    obtain ⟨pos, hp, hit, hb⟩ := hrel
    have HIT := Lib.hid hit
    have HBR := Lib.hid hb
    have hmu : wr.iterPos w.heap.size = pos := by unfold World.iterPos; rw [hit]
    by_cases hlt : pos < 16
    · have hlt2 : pos < S.size := by rw [HW.out]; exact hlt
      have hc : (S[pos]'hlt2).toNat < 128 := by
        have : S[pos]'hlt2 ∈ sixteenT := by
          have e := HS.out
          subst e
          exact List.getElem_mem (l := sixteenT) (n := pos) _
        exact six_all _ this
      have hnx := fun ty => Lib.run_next_ascii_at (P := Tryz.prog) wr w.heap.size S pos ty hit hlt2 hc
      have HI2 := Lib.hid (Lib.iterAt_heap wr w.heap.size S pos (pos + 1) hit)
      have HB2 := Lib.hid (Lib.below_iterAt hb (Nat.le_refl _) S (pos + 1))
      have hne : (((S[pos]'hlt2).toNat : Int) == 65533) = false := by rw [beq_eq_false_iff_ne]; omega
      have HP := Lib.hid hp
      have HLT := Lib.hid hlt
      have HMU := Lib.hid hmu
      clear hit hb hp hlt hmu
      generalize wr.iterAt w.heap.size S (pos + 1) = w2 at *
      generalize ((S[pos]'hlt2).toNat : Int) = cc at *
      go_wp2
      exact ⟨⟨pos + 1, by have := HLT.out; omega, HI2.out, HB2.out⟩, by rw [HMU.out]; have h2 : w2.iterPos w.heap.size = pos + 1 := by { unfold World.iterPos; rw [HI2.out] }; rw [h2]; have := HLT.out; omega⟩
    · have hnx := fun ty => Lib.run_next_end_at (P := Tryz.prog) wr w.heap.size S pos ty hit (by rw [HW.out]; exact hlt)
      clear hit hb hp hlt hmu
      go_wp2
      go_ret
      exact ⟨rfl, HBR.out⟩
set_option maxHeartbeats 8000000 in
set_option maxRecDepth 100000 in
theorem irune_high (r : Int) (h0 : 128 ≤ r) (w : World) : Calls Tryz.prog 84 #[.string (strOf sixteenT), .int .i32 r] w fun e w' => e = .returned (.int .i64 (-1)) ∧ Below w.heap.size w w' := by
  by_cases hr : r = 65533
  · subst hr; exact irune_err w
  have hr2 : (r == 65533) = false := by rw [beq_eq_false_iff_ne]; exact hr
  have n0 : (0 : Int) ≤ r := by omega
  have n1 : ¬ r < 128 := by omega
  obtain ⟨k, e1, e2, e3, e4⟩ := encode_last r h0
  have KV := Lib.hid (fun W => vrune_any r W)
  have HB := Lib.hid (Below.refl w.heap.size w)
  have e4' := e4
  have hk : k < (Utf8.encode r).size := by omega
  obtain ⟨b, hb⟩ : ∃ b, (Utf8.encode r)[k]'hk = b := ⟨_, rfl⟩
  have hb2 : 128 ≤ b.toNat := by rw [← hb]; exact e4' hk
  clear e4 e4' hr h0
  have KI : Hid (∀ W j, Calls Tryz.prog 133 #[.string (strOf (sixteenT.drop j)), .int .u8 (b.toNat : Nat)] W fun e w' => e = .returned (.int .i64 (-1)) ∧ w' = W) := Lib.hid fun W j => by
    have h := Any.strings_IndexByte Tryz.lIxByte (strOf (sixteenT.drop j)) ((b.toNat : Nat) : Int) W
    rw [list_str, Int.toNat_natCast, show b.toNat.toUInt8 = b from UInt8.ofNat_toNat, six_high _ _ hb2 fun x hx => six_all x (List.mem_of_mem_drop hx)] at h
    exact h
  have hix : ∀ W : World, (Instr.index 9 (.string (Utf8.encode r)) (.int .i64 (k : Nat))).run Tryz.prog W = .ok (.int .u8 (b.toNat : Nat)) W := fun W => by
    rw [run_index_string W _ _ _ _ Tryz.underlying9, dif_pos ⟨by omega, by omega⟩]
    simp only [Int.toNat_natCast, hb]
  have hs1 : ((((Utf8.encode r).size : Nat) : Int) - 1) = (k : Nat) := by omega
  have hsix : (strOf sixteenT).size = 16 := rfl
  have hix2 : ∀ W : World, ∃ x : UInt8, x.toNat < 128 ∧ (Instr.index 9 (.string (strOf sixteenT)) (.int .i64 (k : Nat))).run Tryz.prog W = .ok (.int .u8 (x.toNat : Nat)) W := fun W => by
    refine ⟨(strOf sixteenT)[k]'(by omega), six_all _ (List.getElem_mem (l := sixteenT) (n := k) _), ?_⟩
    rw [run_index_string W _ _ _ _ Tryz.underlying9, dif_pos ⟨by omega, by omega⟩]
    simp only [Int.toNat_natCast]
  have hdr : (strOf sixteenT).extract (k + 1) (strOf sixteenT).size = strOf (sixteenT.drop (k + 1)) := by
    obtain rfl | rfl | rfl : k = 1 ∨ k = 2 ∨ k = 3 := by omega
    all_goals rfl
  have HDR := Lib.hid hdr
  have KI2 : Hid (∀ W, Calls Tryz.prog 133 #[.string ((strOf sixteenT).extract (k + 1) (strOf sixteenT).size), .int .u8 (b.toNat : Nat)] W fun e w' => e = .returned (.int .i64 (-1)) ∧ w' = W) := Lib.hid fun W => by rw [hdr]; exact KI.out W (k + 1)
  obtain ⟨x, hx, hix3⟩ := hix2 w
  have hix4 : ∀ W : World, (Instr.index 9 (.string (strOf sixteenT)) (.int .i64 (k : Nat))).run Tryz.prog W = .ok (.int .u8 (x.toNat : Nat)) W := fun W => by
    have h1 := hix3
    rw [run_index_string _ _ _ _ _ Tryz.underlying9, dif_pos ⟨by omega, by omega⟩] at h1 ⊢
    injection h1 with h1 _
    rw [h1]
  have hne : ((x.toNat : Int) == (b.toNat : Int)) = false := by rw [beq_eq_false_iff_ne]; omega
  have hk16 : (k : Int) < 16 := by omega
  have hk15 : (k : Int) + 1 ≤ 16 := by omega
  have hwk : wrap64 ((k : Int) + 1) = (k : Int) + 1 := by unfold wrap64; omega
  have hwk2 : IntKind.i64.wrap ((k : Int) + 1) = (k : Int) + 1 := IntWalk.i64_in _ (by omega)
  have hk1 : (0 : Int) ≤ (k : Int) + 1 := by omega
  have hkn : ((k : Int) + 1).toNat = k + 1 := by omega
  have hks : (k : Int) + 1 ≤ (((strOf sixteenT).size : Nat) : Int) := by omega
  obtain ⟨S, hS⟩ : ∃ S, strOf sixteenT = S := ⟨_, rfl⟩
  rw [hS] at hix4 KI2 hsix hks
  have KI3 : Hid (∀ W, Calls Tryz.prog 133 #[.string (S.extract (k + 1) 16), .int .u8 (b.toNat : Nat)] W fun e w' => e = .returned (.int .i64 (-1)) ∧ w' = W) := Lib.hid fun W => by
    have h := KI2.out W
    rwa [hsix] at h
  show Calls Tryz.prog 84 #[.string (strOf sixteenT), .int .i32 r] w _
  rw [hS]
  clear hix2 hix3 hdr HDR KI hS hb
  go_enter Tryz.func84, Tryz.ntmps84
  go_wp2_with (go_at_call 134; refine (KV.out _).mono ?_; rintro _ w2 ⟨rfl | rfl, rfl⟩)
  · first | (go_ret; exact ⟨rfl, HB.out⟩) | trace_state
  · go_step3
    go_wp2
    go_loopw [9] (fun c wr => c = .int .i64 (k : Nat) ∧ Below w2.heap.size w2 wr) (fun _ _ => 1)
    case atStart => exact ⟨by first | rfl | rw [hs1], HB.out⟩
    case round =>
      obtain ⟨rfl, hb⟩ := hrel
      have HBR := Lib.hid hb
      clear hb
      go_wp2
      go_step3
      go_wp2
      go_quiet (fail)
      have HB4 := Lib.hid (below_drewN HBR.out nq)
      generalize wr.drewN nq = w4 at *
      go_wp2
      go_quiet ((go_at_call 133; refine Calls.quiet_of_same (KI3.out _)))
      go_wp2
      simp only [Exit.noGoto_ret]
      change bodyPost Tryz.prog Tryz.f84 (fun e w' => e = .returned (.int .i64 (-1)) ∧ Below w2.heap.size w2 w') .ret _ _
      go_ret
      exact ⟨rfl, below_drewN HB4.out _⟩
set_option maxHeartbeats 4000000 in
set_option maxRecDepth 100000 in
theorem sraw_any (s : List UInt8) (hs : s.length ≤ 4096) (w : World) :
    Calls Tryz.prog 53 #[.string (strOf s)] w fun e w' => e = .returned (.tuple #[.string (strOf ((rawT s).getD [])), .bool (rawT s).isSome]) ∧ Below w.heap.size w w' := by
  have hsz : (strOf s).size = s.length := ba_size s
  by_cases h45 : s = [45]
  · subst h45
    rw [show rawT [45] = some [] from rfl]
    go_enter Tryz.func53, Tryz.ntmps53
    go_wp2
    go_ret2
    exact ⟨rfl, Below.refl _ _⟩
  by_cases hnil : s = []
  · subst hnil
    rw [show rawT [] = none from rfl]
    go_enter Tryz.func53, Tryz.ntmps53
    go_wp2
    go_ret2
    exact ⟨rfl, Below.refl _ _⟩
  have hraw : rawT s = rawB s := by unfold rawT; rw [if_neg h45, if_neg hnil]
  rw [hraw]
  have t45 : ((strOf s).toList == (ByteArray.mk #[45]).toList) = false := by
    show ((strOf s).toList == (strOf [45]).toList) = false
    rw [str_toList, str_toList, beq_eq_false_iff_ne]; exact h45
  have t45' : ((strOf s).toList == [45]) = false := by rw [str_toList, beq_eq_false_iff_ne]; exact h45
  have tn : ((strOf s).toList == []) = false := by rw [str_toList, beq_eq_false_iff_ne]; exact hnil
  by_cases hodd : s.length % 2 = 1
  · rw [rawB_oddl s hodd]
    have t1 : ((((strOf s).size : Nat) : Int) % 2 == 1) = true := by rw [hsz, beq_iff_eq]; omega
    clear h45 hnil hraw hodd hsz
    generalize strOf s = S at *
    go_enter Tryz.func53, Tryz.ntmps53
    go_wp2
    go_ret2
    exact ⟨rfl, Below.refl _ _⟩
  have t1 : ((((strOf s).size : Nat) : Int) % 2 == 1) = false := by rw [hsz, beq_eq_false_iff_ne]; omega
  obtain ⟨RB, hRB⟩ : ∃ RB, rawB s = RB := ⟨_, rfl⟩
  rw [hRB]
  have HODD := Lib.hid hodd
  have HSL := Lib.hid hs
  obtain ⟨S, hS⟩ : ∃ S, strOf s = S := ⟨_, rfl⟩
  have HS := Lib.hid hS
  rw [hS] at hsz t45 t45' tn t1 ⊢
  have HSZ := Lib.hid hsz
  clear h45 hnil hraw hodd hS hs hsz
  go_enter Tryz.func53, Tryz.ntmps53
  go_wp2
  have HI0 : Hid ((w.iter S 0).heap[w.heap.size]? = some (.stringIter S 0)) := Lib.hid (World.iter_heap w S 0)
  have HB0 : Hid (Below w.heap.size w (w.iter S 0)) := Lib.hid ((Below.refl w.heap.size w).alloc (Nat.le_refl _) _)
  clear t45 t45' tn t1
  generalize w.iter S 0 = w1 at *
  go_loopw [4] (fun bv wr => ∃ (pos : Nat) (A : Option Addr) (cap : Nat) (bs : List UInt8), bv = .slice A bs.length cap ∧ pos ≤ s.length ∧ wr.heap[w.heap.size]? = some (.stringIter S pos) ∧ wr.ownsRow (w.heap.size + 1) 5 1 (.slice A bs.length cap) bs.length (Lib.byteCells bs) ∧ Below w.heap.size w wr ∧ w.heap.size < wr.heap.size ∧ RawAt s pos bs) (fun _ wr => s.length - wr.iterPos w.heap.size)
  case atStart => exact ⟨0, none, 0, [], rfl, Nat.zero_le _, HI0.out, World.ownsRow_nil _ _ _ _, HB0.out, (Array.getElem?_eq_some_iff.1 HI0.out).1, RawAt.zero s⟩
  case round =>
    obtain ⟨pos, A, cap, bs, rfl, hp, hit, hr, hb, hgs, hra⟩ := hrel
    have HRR := Lib.hid hr
    have HBR := Lib.hid hb
    have HRA := Lib.hid hra
    have hmu : wr.iterPos w.heap.size = pos := by unfold World.iterPos; rw [hit]
    have HMU := Lib.hid hmu
    have HGS := Lib.hid hgs
    by_cases hlt : pos < s.length
    case neg =>
      obtain rfl : pos = s.length := by omega
      have hnx := fun ty => Lib.run_next_end_at (P := Tryz.prog) wr w.heap.size S s.length ty hit (by rw [HSZ.out]; exact hlt)
      have he : s.length % 2 = 0 := by have := HODD.out; omega
      have hfin : RB = some bs := by rw [← hRB]; have := (hra.1 he).2; rwa [List.take_of_length_le (Nat.le_refl _)] at this
      have HFIN := Lib.hid hfin
      have HCV : Hid (∀ w0 : World, w0 = wr → (convert 43 9 (.slice A bs.length cap)).run Tryz.prog w0 = .ok (.string (strOf bs)) w0) := Lib.hid fun w0 e => by
        subst e
        rcases HRR.out.2 with ⟨h1, h0⟩ | ⟨g, cap', cur, h1, h2, h3, h4, _⟩
        · have : bs = [] := by cases bs with | nil => rfl | cons a b => simp at h0
          subst this
          injection h1 with h1
          subst h1
          exact run_convert_bytes_nil _ _ _ Tryz.underlying43 Tryz.underlying5 _ _ _ Tryz.underlying9
        · injection h1 with h1 _ h5
          subst h1
          exact run_convert_bytes_back _ _ _ _ _ _ bs Tryz.underlying43 Tryz.underlying5 Tryz.underlying9 fun j hj => by
            have := World.ownsRow.cells HRR.out (g := g) rfl j (.int .u8 (bs[j].toNat : Int)) (by unfold Lib.byteCells; rw [List.getElem?_map, List.getElem?_eq_getElem hj]; rfl)
            exact this
      have hcv := HCV.out wr rfl
      clear hit hr hb hra hp hlt hmu he hfin hgs
      go_wp2
      go_ret2
      exact ⟨by rw [HFIN.out]; rfl, HBR.out⟩
    have hlt2 : pos < S.size := by rw [HSZ.out]; exact hlt
    obtain ⟨c, hc⟩ : ∃ c, s[pos]? = some c := ⟨s[pos]'hlt, List.getElem?_eq_getElem _⟩
    have hcs : S[pos]'hlt2 = c := by
      have e := HS.out
      subst e
      have : s[pos]'hlt = c := (List.getElem?_eq_some_iff.1 hc).2
      exact this
    have HC := Lib.hid hc
    have HLT := Lib.hid hlt
    by_cases hlow : c.toNat < 128
    case neg =>
      have hnx := fun ty => Lib.run_next_any_at (P := Tryz.prog) wr w.heap.size S pos ty hit hlt2
      have hdh := decode_high S pos hlt2 (by rw [hcs]; omega)
      have HB2 := Lib.hid (Lib.below_iterAt hb (Nat.le_refl _) S (pos + (Utf8.decode S pos).2))
      have HN : Hid (RB = none) := Lib.hid (hRB ▸ rawB_badc s c (List.mem_of_getElem? hc) (by
        cases hu : unhex c with
        | none => rfl
        | some d => exact absurd (unhex_low hu) hlow))
      have KI := Lib.hid (fun W => irune_high ((Utf8.decode S pos).1 : Int) (by omega) W)
      clear hit hr hb hra hp hlt hmu hcs hc hdh hlow hgs
      generalize wr.iterAt w.heap.size S (pos + (Utf8.decode S pos).2) = w2 at *
      generalize ((Utf8.decode S pos).1 : Int) = rn at *
      go_wp2_with (go_at_call 84; refine (KI.out _).mono ?_; rintro _ w3 ⟨rfl, hb3⟩; have HB3 := Lib.hid (grow_to HB2.out hb3); clear hb3)
      go_ret2
      exact ⟨by rw [HN.out]; rfl, HB3.out⟩
    have hnx := fun ty => Lib.run_next_ascii_at (P := Tryz.prog) wr w.heap.size S pos ty hit hlt2 (by rw [hcs]; exact hlow)
    have HI2 := Lib.hid (Lib.iterAt_heap wr w.heap.size S pos (pos + 1) hit)
    have HB2 := Lib.hid (Lib.below_iterAt hb (Nat.le_refl _) S (pos + 1))
    have HR2 := Lib.hid (own_iter (k := w.heap.size) hr (Nat.lt_succ_self _) S (pos + 1))
    have HGS2 : Hid (w.heap.size < (wr.iterAt w.heap.size S (pos + 1)).heap.size) := Lib.hid (by rw [Lib.iterAt_size]; exact hgs)
    rw [hcs] at hnx
    have KI := Lib.hid (fun W => irune_low c hlow W)
    obtain ⟨six1, six2⟩ := six_index c hlow
    clear hit hr hb hra hp hlt hmu hcs hc hlow hgs hlt2
    generalize wr.iterAt w.heap.size S (pos + 1) = w2 at *
    cases hu : unhex c with
    | none =>
      have HN : Hid (RB = none) := Lib.hid (hRB ▸ rawB_badc s c (List.mem_of_getElem? HC.out) hu)
      rw [six2 hu] at KI
      clear six1 six2 hu
      generalize (c.toNat : Int) = cc at *
      go_wp2_with (go_at_call 84; refine (KI.out _).mono ?_; rintro _ w3 ⟨rfl, rfl⟩)
      go_ret2
      exact ⟨by rw [HN.out]; rfl, HB2.out⟩
    | some d =>
      obtain ⟨s1, s2⟩ := six1 d hu
      rw [s1] at KI
      have HU := Lib.hid hu
      have HD16 := Lib.hid s2
      have d0 : ¬ (d : Int) < 0 := by omega
      clear six1 six2 hu s1
      generalize (c.toNat : Int) = cc at *
      obtain ⟨i0, hi0, hz0, hz1, hz2⟩ := info_parts u8_info
      have hdc : ∀ W : World, (convert 3 5 (.int .i64 (d : Int))).run Tryz.prog W = .ok (.int .u8 (d : Int)) W := fun W => by
        have hw8 : IntKind.u8.wrap (d : Int) = (d : Int) := u8_small s2
        simp [convert, run_underlying Tryz.underlying3, run_underlying Tryz.underlying5, go_sem, hw8]
      rcases Nat.mod_two_eq_zero_or_one pos with hpar | hpar
      · have t2 : ((pos : Int) % 2 == 0) = true := by rw [beq_iff_eq]; omega
        have hbl : bs.length = pos / 2 := (HRA.out.1 hpar).1
        have hq : (pos : Int) / 2 = ((bs.length : Nat) : Int) := by omega
        have HNX := Lib.hid (HRA.out.even hpar HC.out HU.out)
        have HBL : Hid (bs.length < 1073741824) := Lib.hid (by have := HLT.out; have := HSL.out; omega)
        obtain ⟨q, hqe⟩ : ∃ q, bs.length = q := ⟨_, rfl⟩
        have HQE := Lib.hid hqe
        rw [hqe] at hq HBL
        have HR3 : Hid (w2.ownsRow (w.heap.size + 1) 5 1 (.slice A q cap) q (Lib.byteCells bs)) := Lib.hid (hqe ▸ HR2.out)
        rw [hqe]
        clear hbl hpar hqe HR2 HRR
        go_upto_region 13 with (go_at_call 84; refine (KI.out _).mono ?_; rintro _ w3 ⟨rfl, rfl⟩)
        go_upto_region 14 with (at_builtin; go_loud (refine wpList_append_elem' rfl _ _ _ rfl (w.heap.size + 1) 5 i0 _ 1 1 Tryz.underlying43 hi0 hz0 hz1 hz2 rfl (by decide) (.slice A q cap) q (Lib.byteCells bs) rfl HR3.out #[.int .u8 0] rfl (by simp [Value.oneCell']) _ rfl rfl HBL.out (by decide) HGS2.out ?_); intro v' w9 hown hgrow hat; obtain ⟨g', cap', rfl⟩ := ownsRow_succ hown; have HOWN := Lib.hid hown; have HGR := Lib.hid hgrow; clear hown hgrow hat)
        have c0 : w9.cell? ⟨g', q, none⟩ = some (.int .u8 0) := by
          have := World.ownsRow.cells HOWN.out (g := g') rfl q (.int .u8 0) (by rw [List.getElem?_append_right (by rw [Lib.byteCells_length, HQE.out]; exact Nat.le_refl _), Lib.byteCells_length, HQE.out, Nat.sub_self]; rfl)
          rw [add_plain, Nat.zero_add] at this
          exact this
        have z0 : w9.frozen? ⟨g', q, none⟩ = false := World.ownsRow.frozenAt HOWN.out q
        have q0 : (0 : Int) ≤ (q : Int) := by omega
        have hwq : wrap64 (q : Int) = (q : Int) := by have h1 := HLT.out; have h2 := HSL.out; unfold wrap64; omega
        have q1 : (q : Int) < (q : Int) + 1 := by omega
        have q2 : (q : Int) < ((q + 1 : Nat) : Int) := by omega
        go_wp2
        have HLTG := (World.ownsRow.lt HOWN.out g' rfl)
        have hit9 : w9.heap[w.heap.size]? = some (.stringIter S (pos + 1)) := (HGR.out.block _ (Array.getElem?_eq_some_iff.1 HI2.out).1 (fun e => by have := (World.ownsRow.lt HR3.out w.heap.size e.symm).1; omega)).trans HI2.out
        have hit10 : (w9.setCell ⟨g', q, none⟩ (.int .u8 (bits BinOp.or IntKind.u8 0 (d : Int)))).heap[w.heap.size]? = some (.stringIter S (pos + 1)) := (Below.heap_setCell w9 ⟨g', q, none⟩ _ w.heap.size (by show w.heap.size ≠ g'; omega)).trans hit9
        have HROW := (HOWN.out.stored q (.int .u8 (bits BinOp.or IntKind.u8 0 (d : Int)))).1
        refine ⟨⟨pos + 1, some ⟨g', 0, none⟩, cap', bs ++ [UInt8.ofNat d], by simp [HQE.out], HLT.out, hit10, ?_, (HB2.out.grown HGR.out (Nat.le_of_lt HGS2.out) (fun k hk => by have := (World.ownsRow.lt HR3.out k hk).1; omega)).setCell (p := ⟨g', q, none⟩) (by show w.heap.size ≤ g'; omega) _, by simp only [World.setCell]; rw [Array.size_modify]; omega, HNX.out⟩, ?_⟩
        · have e : (bs ++ [UInt8.ofNat d]).length = q + 1 := by simp [HQE.out]
          rw [e]
          have e2 : (Lib.byteCells bs ++ #[Value.int IntKind.u8 0].toList).set q (.int .u8 (bits BinOp.or IntKind.u8 0 (d : Int))) = Lib.byteCells (bs ++ [UInt8.ofNat d]) := by rw [bits_or0 HD16.out, ← HQE.out]; exact cells_put bs _ d (by have := HD16.out; omega)
          rw [← e2]
          exact HROW
        · have e3 : (w9.setCell ⟨g', q, none⟩ (.int .u8 (bits BinOp.or IntKind.u8 0 (d : Int)))).iterPos w.heap.size = pos + 1 := by unfold World.iterPos; rw [hit10]
          rw [HMU.out]
          have h1 := HLT.out
          first
            | (rw [e3]; omega)
            | (simp only [World.iterPos] at e3 ⊢; omega)
      · have t2 : ((pos : Int) % 2 == 0) = false := by rw [beq_eq_false_iff_ne]; omega
        obtain ⟨m, c', a, rfl, hml, hm, h0, h1⟩ := HRA.out.2 hpar
        have hq : (pos : Int) / 2 = ((m.length : Nat) : Int) := by omega
        have HNX := Lib.hid (RawAt.odd hpar hml hm h0 h1 HC.out HU.out)
        have ha16 : a < 16 := (hex_unhex h1).2
        obtain ⟨q, hqe⟩ : ∃ q, m.length = q := ⟨_, rfl⟩
        have HQE := Lib.hid hqe
        rw [hqe] at hq
        have hlen : (m ++ [UInt8.ofNat a]).length = q + 1 := by rw [List.length_append, hqe]; rfl
        have hr3 : w2.ownsRow (w.heap.size + 1) 5 1 (.slice A (q + 1) cap) (q + 1) (Lib.byteCells (m ++ [UInt8.ofNat a])) := hlen ▸ HR2.out
        rw [hlen]
        obtain ⟨g', cap', hsl⟩ := ownsRow_succ hr3
        injection hsl with hs1 _ hs3
        subst hs1 hs3
        have HOWN := Lib.hid hr3
        have c0 : w2.cell? ⟨g', q, none⟩ = some (.int .u8 (a : Nat)) := by
          have := World.ownsRow.cells HOWN.out (g := g') rfl q (.int .u8 (a : Nat)) (by
            unfold Lib.byteCells
            rw [List.map_append, List.getElem?_append_right (by rw [List.length_map, HQE.out]; exact Nat.le_refl _), List.length_map, HQE.out, Nat.sub_self]
            show some (Value.int .u8 ((UInt8.ofNat a).toNat : Int)) = _
            rw [UInt8.toNat_ofNat', Nat.mod_eq_of_lt (by omega)])
          rw [add_plain, Nat.zero_add] at this
          exact this
        have z0 : w2.frozen? ⟨g', q, none⟩ = false := World.ownsRow.frozenAt HOWN.out q
        have q0 : (0 : Int) ≤ (q : Int) := by omega
        have hwq : wrap64 (q : Int) = (q : Int) := by have h1 := HLT.out; have h2 := HSL.out; unfold wrap64; omega
        have q1 : (q : Int) < (q : Int) + 1 := by omega
        have q2 : (q : Int) < ((q + 1 : Nat) : Int) := by omega
        have HA16 := Lib.hid ha16
        clear hml hm h0 h1 hlen hr3 hqe ha16 hpar HR2 HRR
        go_wp2_with (go_at_call 84; refine (KI.out _).mono ?_; rintro _ w3 ⟨rfl, rfl⟩)
        have HLTG := (World.ownsRow.lt HOWN.out g' rfl)
        have hit9 : w3.heap[w.heap.size]? = some (.stringIter S (pos + 1)) := HI2.out
        have hit10 : (w3.setCell ⟨g', q, none⟩ (.int .u8 (bits BinOp.or IntKind.u8 ((a : Int) * 16 % 256) (d : Int)))).heap[w.heap.size]? = some (.stringIter S (pos + 1)) := (Below.heap_setCell w3 ⟨g', q, none⟩ _ w.heap.size (by show w.heap.size ≠ g'; omega)).trans hit9
        have HROW := (HOWN.out.stored q (.int .u8 (bits BinOp.or IntKind.u8 ((a : Int) * 16 % 256) (d : Int)))).1
        refine ⟨⟨pos + 1, some ⟨g', 0, none⟩, cap, m ++ [UInt8.ofNat (16 * a + d)], by simp [HQE.out], HLT.out, hit10, ?_, HB2.out.setCell (p := ⟨g', q, none⟩) (by show w.heap.size ≤ g'; omega) _, by simp only [World.setCell]; rw [Array.size_modify]; omega, HNX.out⟩, ?_⟩
        · have e : (m ++ [UInt8.ofNat (16 * a + d)]).length = q + 1 := by simp [HQE.out]
          rw [e]
          have e2 : (Lib.byteCells (m ++ [UInt8.ofNat a])).set q (.int .u8 (bits BinOp.or IntKind.u8 ((a : Int) * 16 % 256) (d : Int))) = Lib.byteCells (m ++ [UInt8.ofNat (16 * a + d)]) := by rw [bits_or1 HA16.out HD16.out, ← HQE.out, show Lib.byteCells (m ++ [UInt8.ofNat a]) = Lib.byteCells m ++ [Value.int .u8 ((UInt8.ofNat a).toNat : Int)] from by unfold Lib.byteCells; rw [List.map_append]; rfl]; exact cells_put m _ (16 * a + d) (by have := HD16.out; have := HA16.out; omega)
          rw [← e2]
          exact HROW
        · have e3 : (w3.setCell ⟨g', q, none⟩ (.int .u8 (bits BinOp.or IntKind.u8 ((a : Int) * 16 % 256) (d : Int)))).iterPos w.heap.size = pos + 1 := by unfold World.iterPos; rw [hit10]
          rw [HMU.out]
          have h1 := HLT.out
          first
            | (rw [e3]; omega)
            | (simp only [World.iterPos] at e3 ⊢; omega)
end Go.Proofs.YtdkencepmdfacaaGreatDoor
