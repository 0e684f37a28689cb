/- What the rows of package num's laws share: a law's last step; floats and their bits; num.Canon and the document's. num.digits: is a text a whole number's digits, without noughts ahead? -/
import Derived.Test.YtdkencepmdfacaaGreatDoorPl
import Derived.Test.YtdkencepmdfacaaGreatDoorPk
import Derived.Test.YtdkencepmdfacaaGreatDoorRows
import Derived.WalkKit
import Derived.WalkSpells
import Derived.WalkLawsBesides
import Derived.Lib.Hide
import Derived.Lib.Zigzag
import Derived.Deep.Draws
import Derived.Test.YtdkencepmdfacaaGreatDoorProg
import Derived.Laws.BitsAllLaws
import Derived.ProofKit
import Derived.OpenShut
import Derived.JoinedCond
import Derived.ChangeSame
import Derived.Laws.RangeAny
import Derived.Lib.OthersKept
import Derived.Deep.LoopGhost
import Derived.BigQuiet
import Derived.Deep.QuietTactic
set_option maxRecDepth 100000
namespace Go.Proofs.YtdkencepmdfacaaGreatDoor
open Go.RowKit Go.WideShapes Go.ChangeShapes

theorem Tryz.own : ownKnob Tryz.prog.godebug = none := by kernel_rfl

theorem Tryz.laid : laidOutB Tryz.prog = true := by kernel_rfl

theorem post_of_below {H : Type} {enc : TypeId × Value → H} {P : Program} {f : Func} {s : ChangeSpec} {apart fresh handsOn again : Bool} {W W' : World} {args : Array Value} {v : Value} {ds gs : List (DataW H)} {before pa pv : List MemPlace}
    (hW : DataW.Whole enc P f.params.toList s.vars apart W args.toList ds gs before)
    (hres : ∀ (b : Nat) (sp : Nat → Bool) (hd : Bool), DataW.TrodAll enc P W' b sp hd f.resultTypes.toList (v.resultList f.resultTypes.size) (s.fn H (ds ++ gs)).results [])
    (hargs : ∀ sp : Nat → Bool, (∀ p ∈ before, sp p.block = true) → DataW.TrodAll enc P W' 0 sp true f.params.toList args.toList (s.fn H (ds ++ gs)).args pa)
    (hvars : ∀ sp : Nat → Bool, (∀ p ∈ before, sp p.block = true) → DataW.TrodVars enc P W' sp s.vars (s.fn H (ds ++ gs)).vars pv)
    (hps : before = pa ++ pv) (hb : Below W.heap.size W W')
    (hok : ∀ (j : Nat) (t : TypeId) (r : Value), f.resultTypes[j]? = some t → (v.resultList f.resultTypes.size)[j]? = some r → Value.okWide P W' .any 0 t r) :
    s.post enc P f apart fresh handsOn again W args v W' := by
  have hlt : ∀ p ∈ before, p.block < W.heap.size := fun p hp => hW.lt p hp
  have hold : ∀ p ∈ before, (fun b => decide (b < W.heap.size)) p.block = true := fun p hp => by simpa using hlt p hp
  refine ⟨ds, gs, before, [], pa, pv, hW, hres _ _ _, hargs _ hold, hvars _ hold, World.keptBut_mono (fun p hp => ⟨hp, ?_⟩) (hb.frame (· ∈ before)), fun _ => ?_⟩
  · rw [hps, List.mem_append] at hp
    exact Or.inr hp
  · obtain ⟨_, _, _, _, _, hz, hn⟩ := hW
    refine ⟨hok, _, _, ([] ++ pa) ++ pv, ⟨[] ++ pa, pv, trodAll_append (hargs _ (fun _ _ => rfl)) (hres _ _ _), hvars _ (fun _ _ => rfl), rfl, ?_, ?_⟩, ?_⟩
    · intro b off hp
      have hin : MemPlace.cell b off ∈ before := by rw [hps]; simpa using hp
      rw [hb.frozen (hlt _ hin)]
      exact hz b off hin
    · intro ha
      have := hn ha
      rw [hps] at this
      simpa using this
    · intro p hp _
      rw [hps]
      simpa using hp

theorem all_stays {H : Type} {enc : TypeId × Value → H} {P : Program} (hl : laidOutB P = true) {W W' : World} {sp : Nat → Bool} : ∀ (ts : List TypeId) (vs : List Value) (ds : List (DataW H)) (ps : List MemPlace),
    ts.all (fun t => P.readableRec t && decide (t < P.types.size)) = true → DataW.TrodAll enc P W 0 (fun _ => true) true ts vs ds ps → (∀ p ∈ ps, W.sameAt W' p) → (∀ p ∈ ps, sp p.block = true) → DataW.TrodAll enc P W' 0 sp true ts vs ds ps
  | [], vs, ds, ps, _, h, _, _ => by
    obtain ⟨rfl, rfl, rfl⟩ := trodAll_nil h
    exact trodAll_mk0
  | t :: ts, vs, ds, ps, ht, h, hs, hp => by
    obtain ⟨v, vs', d, ds', p, q, rfl, rfl, rfl, h0, h1⟩ := trodAll_cons h
    simp only [List.all_cons, Bool.and_eq_true, decide_eq_true_eq] at ht
    exact trodAll_cons_mk (WideElems.Trod_stays hl ht.1.1 ht.1.2 h0 (fun x hx => hs x (List.mem_append.2 (.inl hx))) (fun x hx => hp x (List.mem_append.2 (.inl hx))))
      (all_stays hl ts vs' ds' q ht.2 h1 (fun x hx => hs x (List.mem_append.2 (.inr hx))) (fun x hx => hp x (List.mem_append.2 (.inr hx))))

/-- A LAW's LAST STEP: it answers true, and of what was there nothing has turned -/
theorem law_post {H : Type} {enc : TypeId × Value → H} {P : Program} {f : Func} {s : ChangeSpec} {W W' : World} {args : Array Value} {ds gs : List (DataW H)} {before : List MemPlace} (tb : TypeId)
    (hl : laidOutB P = true) (hts : f.params.toList.all (fun t => P.readableRec t && decide (t < P.types.size)) = true) (hres : f.resultTypes = #[tb]) (hb : P.underlying tb = some .bool) (hvars : s.vars = [])
    (hfn : s.fn H (ds ++ gs) = { results := [.lit (.bool true)], args := ds })
    (hW : DataW.Whole enc P f.params.toList s.vars false W args.toList ds gs before) (hbel : Below W.heap.size W W') : s.post enc P f false true false false W args (.bool true) W' := by
  have hW' := hW
  obtain ⟨p, q, hA, hV, rfl, hfz, hnd⟩ := hW
  rw [hvars] at hV
  obtain ⟨rfl, rfl⟩ := trodVars_none hV
  have hlt : ∀ x ∈ p, x.block < W.heap.size := fun x hx => hW'.lt x (List.mem_append.2 (.inl hx))
  refine post_of_below (pa := p) (pv := []) hW' (fun b sp hd => ?_) (fun sp hsp => ?_) (fun sp _ => ?_) rfl hbel (ok_one hres rfl (okWide_bool_mk hb _))
  · rw [hfn, hres]
    exact trodAll_cons_mk (shut_bool hb true) trodAll_mk0
  · rw [hfn]
    exact all_stays hl _ _ _ _ hts hA (fun x hx => hbel.same (hlt x hx)) (fun x hx => hsp x (List.mem_append.2 (.inl hx)))
  · rw [hfn, hvars]
    exact rfl

theorem order_self (b : Nat) : FloatKind.f64.format.order b b = if 9218868437227405312 < b % 9223372036854775808 then none else some .eq := by
  have hs : FloatKind.f64.format.signWeight = 9223372036854775808 := by decide
  have hi : FloatKind.f64.format.infRung = 9218868437227405312 := by decide
  have hb : FloatKind.f64.format.binade = 4503599627370496 := by decide
  unfold Ieee.Format.order Ieee.Format.read
  rw [hs, hi, hb]
  simp only
  by_cases c1 : b % 9223372036854775808 < 4503599627370496
  · rw [if_pos c1, if_neg (by omega)]
    simp [Ieee.Datum.order, Std.ReflCmp.compare_self]
  · rw [if_neg c1]
    by_cases c2 : b % 9223372036854775808 < 9218868437227405312
    · rw [if_pos c2, if_neg (by omega)]
      simp [Ieee.Datum.order, Std.ReflCmp.compare_self]
    · rw [if_neg c2]
      by_cases c3 : b % 9223372036854775808 = 9218868437227405312
      · rw [if_pos c3, if_neg (by omega)]
        simp [Ieee.Datum.order, Std.ReflCmp.compare_self]
      · rw [if_neg c3, if_pos (by omega)]
        simp [Ieee.Datum.order]

theorem frombits_run (n : Int) (w : World) : (callFunc 148 #[.int .u64 n]).run Tryz.prog w = .ok (.value (.float .f64 n.toNat)) w :=
  run_callFunc_extern (e := Go.Extern.MathFloatBits.float64frombits) Tryz.func148 (by kernel_rfl) (by kernel_rfl) (by kernel_rfl) (by kernel_rfl) _ w
theorem bits_run (b : Nat) (w : World) : (callFunc 149 #[.float .f64 b]).run Tryz.prog w = .ok (.value (.int .u64 b)) w :=
  run_callFunc_extern (e := Go.Extern.MathFloatBits.float64bits) Tryz.func149 (by kernel_rfl) (by kernel_rfl) (by kernel_rfl) (by kernel_rfl) _ w

theorem isnan_any (b : Nat) (w : World) : Calls Tryz.prog 103 #[.float .f64 b] w fun e w' => e = .returned (.bool (decide (9218868437227405312 < b % 9223372036854775808))) ∧ w = w' := by
  have ho := order_self b
  have hR : (FloatKind.f64.format.order b b != some .eq) = decide (9218868437227405312 < b % 9223372036854775808) := by
    rw [ho]
    by_cases c : 9218868437227405312 < b % 9223372036854775808
    · rw [if_pos c, decide_eq_true c]; rfl
    · rw [if_neg c, decide_eq_false c]; rfl
  have HR := Lib.hid hR
  clear ho hR
  go_enter Tryz.func103, Tryz.ntmps103
  go_wp2
  go_ret
  exact ⟨by rw [← HR.out]; rfl, rfl⟩

set_option maxHeartbeats 400000 in
theorem canon_any (a : Int) (w : World) (h0 : 0 ≤ a) (h1 : a ≤ 18446744073709551615) :
    Calls Tryz.prog 147 #[.int .u64 a] w fun e w' => e = .returned (.int .u64 (canon a)) ∧ w = w' := by
  obtain ⟨n, rfl⟩ := Int.eq_ofNat_of_zero_le h0
  have hf := frombits_run
  have hb := bits_run
  have hcan : canon (n : Int) = if 9218868437227405312 < n % 9223372036854775808 then 9221120237041090561 else (n : Int) := by
    unfold canon
    by_cases c : 9218868437227405312 < n % 9223372036854775808
    · rw [if_pos (by omega), if_pos c]
    · rw [if_neg (by omega), if_neg c]
  have HC := Lib.hid hcan
  clear hcan
  by_cases c : 9218868437227405312 < n % 9223372036854775808
  · have t := decide_eq_true c
    go_enter Tryz.func147, Tryz.ntmps147
    go_wp2_with (first | (go_at_call 103; refine (isnan_any _ _).mono ?_; rintro x w0 ⟨rfl, rfl⟩) | (go_at_call 101; go_in) | (go_at_call 174; go_in) | (go_at_call 181; go_in))
    go_ret
    exact ⟨by rw [HC.out, if_pos c]; rfl, rfl⟩
  · have t := decide_eq_false c
    go_enter Tryz.func147, Tryz.ntmps147
    go_wp2_with (first | (go_at_call 103; refine (isnan_any _ _).mono ?_; rintro x w0 ⟨rfl, rfl⟩) | (go_at_call 101; go_in) | (go_at_call 174; go_in) | (go_at_call 181; go_in))
    go_ret
    exact ⟨by rw [HC.out, if_neg c]; rfl, rfl⟩

theorem andNot_sign (a : Nat) (h : a < 18446744073709551616) : bits .andNot .u64 (a : Int) 9223372036854775808 = ((a % 9223372036854775808 : Nat) : Int) := by
  have h1 := u64_andNot_nat a 9223372036854775808 h (by decide)
  have h2 : a &&& 9223372036854775807 = a % 9223372036854775808 := Nat.and_two_pow_sub_one_eq_mod a 63
  rw [show (18446744073709551615 - 9223372036854775808 : Nat) = 9223372036854775807 from rfl, h2] at h1
  exact h1

end Go.Proofs.YtdkencepmdfacaaGreatDoor

set_option maxRecDepth 100000
namespace Go.Proofs.YtdkencepmdfacaaGreatDoor
open Go.RowKit Go.WideShapes

def isDig (c : UInt8) : Bool := decide (48 ≤ c.toNat) && decide (c.toNat ≤ 57)
def digitsB (s : ByteArray) : Bool := s.data.toList.all isDig && (decide (s = ⟨#[48]⟩) || (decide (s.size ≠ 0) && decide ((s.data.toList.getD 0 0).toNat ≠ 48)))

theorem all_upto {s : ByteArray} {pos : Nat} (h : s.size ≤ pos) (ha : (s.data.toList.take pos).all isDig = true) : s.data.toList.all isDig = true := by
  rw [List.take_of_length_le (by rw [Array.length_toList]; exact h)] at ha
  exact ha
theorem not_all {s : ByteArray} {pos : Nat} (h : pos < s.size) (hd : isDig (s[pos]'h) = false) : digitsB s = false := by
  unfold digitsB
  have h1 : s.data.toList.all isDig = false := by
    rw [List.all_eq_false]
    refine ⟨s[pos]'h, ?_, by rw [hd]; decide⟩
    exact Array.mem_toList_iff.2 (Array.getElem_mem _)
  rw [h1, Bool.false_and]
theorem all_more {s : ByteArray} {pos : Nat} (h : pos < s.size) (ha : (s.data.toList.take pos).all isDig = true) (hd : isDig (s[pos]'h) = true) : (s.data.toList.take (pos + 1)).all isDig = true := by
  have hl : pos < s.data.toList.length := by rw [Array.length_toList]; exact h
  rw [List.take_succ_eq_append_getElem hl, List.all_append, ha, Bool.true_and]
  simp only [List.all_cons, List.all_nil, Bool.and_true]
  exact hd
theorem iterPos_of {w : World} {k : Nat} {s : ByteArray} {p : Nat} (h : w.heap[k]? = some (.stringIter s p)) : w.iterPos k = p := by simp [World.iterPos, h]

set_option maxRecDepth 100000 in
set_option maxHeartbeats 2000000 in
theorem digits_any (s : ByteArray) (hsz : s.size < 1073741824) (w : World) : Calls Tryz.prog 182 #[.string s] w fun e w' => e = .returned (.bool (digitsB s)) ∧ Below w.heap.size w w' := by
  go_enter Tryz.func182, Tryz.ntmps182
  go_wp2
  go_loopw [] (fun wr => ∃ (pos : Nat), wr.heap[w.heap.size]? = some (.stringIter s pos) ∧ Below w.heap.size w wr ∧ Hid ((s.data.toList.take pos).all isDig = true)) (fun wr => s.size - wr.iterPos w.heap.size)
  case atStart => exact ⟨0, World.iter_heap w s 0, (Below.refl _ _).alloc (Nat.le_refl _) _, rfl⟩
  case round =>
    obtain ⟨pos, hit, hbw, HA⟩ := hrel
    have hpos0 := iterPos_of hit
    by_cases hp : pos < s.size
    · have hnx : ∀ ty, (Instr.next (.pointer (some ⟨w.heap.size, 0, none⟩)) true ty).run Tryz.prog wr = _ := fun ty => Lib.run_next_any_at wr w.heap.size s pos ty hit hp
      have hit2 := Lib.iterAt_heap wr w.heap.size s pos (pos + (Utf8.decode s pos).2) hit
      have hbw2 := Lib.below_iterAt hbw (k := w.heap.size) (Nat.le_refl _) s (pos + (Utf8.decode s pos).2)
      by_cases hd : isDig (s[pos]'hp) = true
      · have hd2 := hd
        unfold isDig at hd2
        rw [Bool.and_eq_true] at hd2
        have d1 := of_decide_eq_true hd2.1
        have d2 := of_decide_eq_true hd2.2
        rw [decode_ascii s pos hp (by omega)] at hnx hit2 hbw2
        simp only at hnx hit2 hbw2
        obtain ⟨W1, hW1⟩ : ∃ W1, W1 = wr.iterAt w.heap.size s (pos + 1) := ⟨_, rfl⟩
        rw [← hW1] at hnx hit2 hbw2
        have c1 : ¬ (((s[pos]'hp).toNat : Nat) : Int) < 48 := by omega
        have c2 : ¬ (57 : Int) < (((s[pos]'hp).toNat : Nat) : Int) := by omega
        have hA2 := Lib.hid (all_more hp HA.out hd)
        clear hW1 hit hbw hd hd2 d1 d2 HA
        obtain ⟨x, hx⟩ : ∃ x : Int, x = (((s[pos]'hp).toNat : Nat) : Int) := ⟨_, rfl⟩
        rw [← hx] at hnx c1 c2
        clear hx
        go_wp2
        go_roundw
        case rel => exact ⟨pos + 1, hit2, hbw2, hA2⟩
        case measure => rw [iterPos_of hit2, hpos0]; omega
      · rw [Bool.not_eq_true] at hd
        have HN := Lib.hid (not_all hp hd)
        have hc : ((Utf8.decode s pos).1 : Int) < 48 ∨ (¬ ((Utf8.decode s pos).1 : Int) < 48 ∧ (57 : Int) < ((Utf8.decode s pos).1 : Int)) := by
          by_cases ha : (s[pos]'hp).toNat < 128
          · rw [decode_ascii s pos hp ha]
            simp only
            unfold isDig at hd
            simp only [Bool.and_eq_false_iff, decide_eq_false_iff_not] at hd
            omega
          · have := (decode_high s pos hp (by omega)).1
            omega
        obtain ⟨W1, hW1⟩ : ∃ W1, W1 = wr.iterAt w.heap.size s (pos + (Utf8.decode s pos).2) := ⟨_, rfl⟩
        rw [← hW1] at hnx hit2 hbw2
        obtain ⟨x, hx⟩ : ∃ x : Int, x = ((Utf8.decode s pos).1 : Int) := ⟨_, rfl⟩
        rw [← hx] at hnx hc
        clear hx hW1 hit hbw hd HA
        rcases hc with c1 | ⟨c1, c2⟩
        · go_wp2
          go_ret
          exact ⟨by rw [HN.out]; rfl, hbw2⟩
        · go_wp2
          go_ret
          exact ⟨by rw [HN.out]; rfl, hbw2⟩
    · have hnx : ∀ ty, (Instr.next (.pointer (some ⟨w.heap.size, 0, none⟩)) true ty).run Tryz.prog wr = .ok (.tuple #[.bool false]) wr := fun ty => by
        simp [Instr.next, getObj, Sem.run, hit, hp]
      have hall := all_upto (by omega) HA.out
      have hB : digitsB s = (decide (s = ⟨#[48]⟩) || (decide (s.size ≠ 0) && decide ((s.data.toList.getD 0 0).toNat ≠ 48))) := by
        unfold digitsB
        rw [hall, Bool.true_and]
      have hsz0 : s.data.toList.length = s.size := Array.length_toList
      by_cases e1 : s.toList = [48]
      · have HB : Hid (digitsB s = true) := by
          have : s = ⟨#[48]⟩ := bytes_inj (by rw [← ByteArray.toList_eq, e1])
          rw [hB, decide_eq_true this, Bool.true_or]
          exact rfl
        clear hB hall HA hsz0
        go_wp2
        go_ret
        exact ⟨by rw [HB.out]; rfl, hbw⟩
      · have e1' : ¬ s = ⟨#[48]⟩ := fun e => e1 (by rw [e, ByteArray.toList_eq])
        rw [decide_eq_false e1', Bool.false_or] at hB
        by_cases e2 : s.toList = []
        · have h0 : s.size = 0 := by
            rw [← hsz0, ← ByteArray.toList_eq, e2]
            rfl
          have HB : Hid (digitsB s = false) := by
            rw [hB, decide_eq_false (by omega), Bool.false_and]
            exact rfl
          clear hB hall HA hsz0 e1'
          go_wp2
          go_ret
          exact ⟨by rw [HB.out]; rfl, hbw⟩
        · have h0 : 0 < s.size := by
            rw [← hsz0, ← ByteArray.toList_eq]
            exact List.length_pos_iff.2 e2
          have hg : s.data.toList.getD 0 0 = s[0]'h0 := by
            rw [List.getD_eq_getElem?_getD, List.getElem?_eq_getElem (by omega)]
            rfl
          rw [hg, decide_eq_true (show s.size ≠ 0 by omega), Bool.true_and] at hB
          by_cases e4 : (s[0]'h0).toNat = 48
          · have HB : Hid (digitsB s = false) := by
              rw [hB, decide_eq_false (by omega)]
              exact rfl
            clear hB hall HA hsz0 e1' hg
            go_wp2
            go_ret
            exact ⟨by rw [HB.out]; simp [e1, e4], hbw⟩
          · have HB : Hid (digitsB s = true) := by
              rw [hB, decide_eq_true e4]
              exact rfl
            clear hB hall HA hsz0 e1' hg
            go_wp2
            go_ret
            exact ⟨by rw [HB.out]; simp [e1, e2]; omega, hbw⟩
end Go.Proofs.YtdkencepmdfacaaGreatDoor
