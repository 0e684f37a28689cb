/- What the rows of package num's laws share: a law's last step; floats and their bits; num.Canon and the document's. -/
import Derived.Test.YtiidkgdlngcpgaaGreatDoorPl
import Derived.Test.YtiidkgdlngcpgaaGreatDoorPk
import Derived.Test.YtiidkgdlngcpgaaGreatDoorRows
import Derived.WalkKit
import Derived.WalkSpells
import Derived.WalkLawsBesides
import Derived.Lib.Hide
import Derived.Lib.Zigzag
import Derived.Deep.Draws
import Derived.Test.YtiidkgdlngcpgaaGreatDoorProg
import Derived.Laws.BitsAllLaws
import Derived.ProofKit
import Derived.OpenShut
import Derived.JoinedCond
import Derived.ChangeSame
set_option maxRecDepth 100000
namespace Go.Proofs.YtiidkgdlngcpgaaGreatDoor
open Go.RowKit Go.WideShapes Go.ChangeShapes

theorem Tryz.own : ownKnob Tryz.prog.godebug = none := by kernel_rfl

theorem Tryz.laid : laidOutB Tryz.prog = true := by kernel_rfl

theorem post_of_below {H : Type} {enc : TypeId × Value → H} {P : Program} {f : Func} {s : ChangeSpec} {apart fresh handsOn again : Bool} {W W' : World} {args : Array Value} {v : Value} {ds gs : List (DataW H)} {before pa pv : List MemPlace}
    (hW : DataW.Whole enc P f.params.toList s.vars apart W args.toList ds gs before)
    (hres : ∀ (b : Nat) (sp : Nat → Bool) (hd : Bool), DataW.TrodAll enc P W' b sp hd f.resultTypes.toList (v.resultList f.resultTypes.size) (s.fn H (ds ++ gs)).results [])
    (hargs : ∀ sp : Nat → Bool, (∀ p ∈ before, sp p.block = true) → DataW.TrodAll enc P W' 0 sp true f.params.toList args.toList (s.fn H (ds ++ gs)).args pa)
    (hvars : ∀ sp : Nat → Bool, (∀ p ∈ before, sp p.block = true) → DataW.TrodVars enc P W' sp s.vars (s.fn H (ds ++ gs)).vars pv)
    (hps : before = pa ++ pv) (hb : Below W.heap.size W W')
    (hok : ∀ (j : Nat) (t : TypeId) (r : Value), f.resultTypes[j]? = some t → (v.resultList f.resultTypes.size)[j]? = some r → Value.okWide P W' .any 0 t r) :
    s.post enc P f apart fresh handsOn again W args v W' := by
  have hlt : ∀ p ∈ before, p.block < W.heap.size := fun p hp => hW.lt p hp
  have hold : ∀ p ∈ before, (fun b => decide (b < W.heap.size)) p.block = true := fun p hp => by simpa using hlt p hp
  refine ⟨ds, gs, before, [], pa, pv, hW, hres _ _ _, hargs _ hold, hvars _ hold, World.keptBut_mono (fun p hp => ⟨hp, ?_⟩) (hb.frame (· ∈ before)), fun _ => ?_⟩
  · rw [hps, List.mem_append] at hp
    exact Or.inr hp
  · obtain ⟨_, _, _, _, _, hz, hn⟩ := hW
    refine ⟨hok, _, _, ([] ++ pa) ++ pv, ⟨[] ++ pa, pv, trodAll_append (hargs _ (fun _ _ => rfl)) (hres _ _ _), hvars _ (fun _ _ => rfl), rfl, ?_, ?_⟩, ?_⟩
    · intro b off hp
      have hin : MemPlace.cell b off ∈ before := by rw [hps]; simpa using hp
      rw [hb.frozen (hlt _ hin)]
      exact hz b off hin
    · intro ha
      have := hn ha
      rw [hps] at this
      simpa using this
    · intro p hp _
      rw [hps]
      simpa using hp

theorem all_stays {H : Type} {enc : TypeId × Value → H} {P : Program} (hl : laidOutB P = true) {W W' : World} {sp : Nat → Bool} : ∀ (ts : List TypeId) (vs : List Value) (ds : List (DataW H)) (ps : List MemPlace),
    ts.all (fun t => P.readableRec t && decide (t < P.types.size)) = true → DataW.TrodAll enc P W 0 (fun _ => true) true ts vs ds ps → (∀ p ∈ ps, W.sameAt W' p) → (∀ p ∈ ps, sp p.block = true) → DataW.TrodAll enc P W' 0 sp true ts vs ds ps
  | [], vs, ds, ps, _, h, _, _ => by
    obtain ⟨rfl, rfl, rfl⟩ := trodAll_nil h
    exact trodAll_mk0
  | t :: ts, vs, ds, ps, ht, h, hs, hp => by
    obtain ⟨v, vs', d, ds', p, q, rfl, rfl, rfl, h0, h1⟩ := trodAll_cons h
    simp only [List.all_cons, Bool.and_eq_true, decide_eq_true_eq] at ht
    exact trodAll_cons_mk (WideElems.Trod_stays hl ht.1.1 ht.1.2 h0 (fun x hx => hs x (List.mem_append.2 (.inl hx))) (fun x hx => hp x (List.mem_append.2 (.inl hx))))
      (all_stays hl ts vs' ds' q ht.2 h1 (fun x hx => hs x (List.mem_append.2 (.inr hx))) (fun x hx => hp x (List.mem_append.2 (.inr hx))))

/-- A LAW's LAST STEP: it answers true, and of what was there nothing has turned -/
theorem law_post {H : Type} {enc : TypeId × Value → H} {P : Program} {f : Func} {s : ChangeSpec} {W W' : World} {args : Array Value} {ds gs : List (DataW H)} {before : List MemPlace} (tb : TypeId)
    (hl : laidOutB P = true) (hts : f.params.toList.all (fun t => P.readableRec t && decide (t < P.types.size)) = true) (hres : f.resultTypes = #[tb]) (hb : P.underlying tb = some .bool) (hvars : s.vars = [])
    (hfn : s.fn H (ds ++ gs) = { results := [.lit (.bool true)], args := ds })
    (hW : DataW.Whole enc P f.params.toList s.vars false W args.toList ds gs before) (hbel : Below W.heap.size W W') : s.post enc P f false true false false W args (.bool true) W' := by
  have hW' := hW
  obtain ⟨p, q, hA, hV, rfl, hfz, hnd⟩ := hW
  rw [hvars] at hV
  obtain ⟨rfl, rfl⟩ := trodVars_none hV
  have hlt : ∀ x ∈ p, x.block < W.heap.size := fun x hx => hW'.lt x (List.mem_append.2 (.inl hx))
  refine post_of_below (pa := p) (pv := []) hW' (fun b sp hd => ?_) (fun sp hsp => ?_) (fun sp _ => ?_) rfl hbel (ok_one hres rfl (okWide_bool_mk hb _))
  · rw [hfn, hres]
    exact trodAll_cons_mk (shut_bool hb true) trodAll_mk0
  · rw [hfn]
    exact all_stays hl _ _ _ _ hts hA (fun x hx => hbel.same (hlt x hx)) (fun x hx => hsp x (List.mem_append.2 (.inl hx)))
  · rw [hfn, hvars]
    exact rfl

theorem order_self (b : Nat) : FloatKind.f64.format.order b b = if 9218868437227405312 < b % 9223372036854775808 then none else some .eq := by
  have hs : FloatKind.f64.format.signWeight = 9223372036854775808 := by decide
  have hi : FloatKind.f64.format.infRung = 9218868437227405312 := by decide
  have hb : FloatKind.f64.format.binade = 4503599627370496 := by decide
  unfold Ieee.Format.order Ieee.Format.read
  rw [hs, hi, hb]
  simp only
  by_cases c1 : b % 9223372036854775808 < 4503599627370496
  · rw [if_pos c1, if_neg (by omega)]
    simp [Ieee.Datum.order, Std.ReflCmp.compare_self]
  · rw [if_neg c1]
    by_cases c2 : b % 9223372036854775808 < 9218868437227405312
    · rw [if_pos c2, if_neg (by omega)]
      simp [Ieee.Datum.order, Std.ReflCmp.compare_self]
    · rw [if_neg c2]
      by_cases c3 : b % 9223372036854775808 = 9218868437227405312
      · rw [if_pos c3, if_neg (by omega)]
        simp [Ieee.Datum.order, Std.ReflCmp.compare_self]
      · rw [if_neg c3, if_pos (by omega)]
        simp [Ieee.Datum.order]

theorem frombits_run (n : Int) (w : World) : (callFunc 96 #[.int .u64 n]).run Tryz.prog w = .ok (.value (.float .f64 n.toNat)) w :=
  run_callFunc_extern (e := Go.Extern.MathFloatBits.float64frombits) Tryz.func96 (by kernel_rfl) (by kernel_rfl) (by kernel_rfl) (by kernel_rfl) _ w
theorem bits_run (b : Nat) (w : World) : (callFunc 97 #[.float .f64 b]).run Tryz.prog w = .ok (.value (.int .u64 b)) w :=
  run_callFunc_extern (e := Go.Extern.MathFloatBits.float64bits) Tryz.func97 (by kernel_rfl) (by kernel_rfl) (by kernel_rfl) (by kernel_rfl) _ w

theorem isnan_any (b : Nat) (w : World) : Calls Tryz.prog 66 #[.float .f64 b] w fun e w' => e = .returned (.bool (decide (9218868437227405312 < b % 9223372036854775808))) ∧ w = w' := by
  have ho := order_self b
  have hR : (FloatKind.f64.format.order b b != some .eq) = decide (9218868437227405312 < b % 9223372036854775808) := by
    rw [ho]
    by_cases c : 9218868437227405312 < b % 9223372036854775808
    · rw [if_pos c, decide_eq_true c]; rfl
    · rw [if_neg c, decide_eq_false c]; rfl
  have HR := Lib.hid hR
  clear ho hR
  go_enter Tryz.func66, Tryz.ntmps66
  go_wp2
  go_ret
  exact ⟨by rw [← HR.out]; rfl, rfl⟩

set_option maxHeartbeats 400000 in
theorem canon_any (a : Int) (w : World) (h0 : 0 ≤ a) (h1 : a ≤ 18446744073709551615) :
    Calls Tryz.prog 58 #[.int .u64 a] w fun e w' => e = .returned (.int .u64 (canon a)) ∧ w = w' := by
  obtain ⟨n, rfl⟩ := Int.eq_ofNat_of_zero_le h0
  have hf := frombits_run
  have hb := bits_run
  have hcan : canon (n : Int) = if 9218868437227405312 < n % 9223372036854775808 then 9221120237041090561 else (n : Int) := by
    unfold canon
    by_cases c : 9218868437227405312 < n % 9223372036854775808
    · rw [if_pos (by omega), if_pos c]
    · rw [if_neg (by omega), if_neg c]
  have HC := Lib.hid hcan
  clear hcan
  by_cases c : 9218868437227405312 < n % 9223372036854775808
  · have t := decide_eq_true c
    go_enter Tryz.func58, Tryz.ntmps58
    go_wp2_with (first | (go_at_call 66; refine (isnan_any _ _).mono ?_; rintro x w0 ⟨rfl, rfl⟩) | (go_at_call 64; go_in) | (go_at_call 92; go_in) | (go_at_call 109; go_in))
    go_ret
    exact ⟨by rw [HC.out, if_pos c]; rfl, rfl⟩
  · have t := decide_eq_false c
    go_enter Tryz.func58, Tryz.ntmps58
    go_wp2_with (first | (go_at_call 66; refine (isnan_any _ _).mono ?_; rintro x w0 ⟨rfl, rfl⟩) | (go_at_call 64; go_in) | (go_at_call 92; go_in) | (go_at_call 109; go_in))
    go_ret
    exact ⟨by rw [HC.out, if_neg c]; rfl, rfl⟩

theorem andNot_sign (a : Nat) (h : a < 18446744073709551616) : bits .andNot .u64 (a : Int) 9223372036854775808 = ((a % 9223372036854775808 : Nat) : Int) := by
  have h1 := u64_andNot_nat a 9223372036854775808 h (by decide)
  have h2 : a &&& 9223372036854775807 = a % 9223372036854775808 := Nat.and_two_pow_sub_one_eq_mod a 63
  rw [show (18446744073709551615 - 9223372036854775808 : Nat) = 9223372036854775807 from rfl, h2] at h1
  exact h1

set_option maxHeartbeats 400000 in
theorem rcanon_any (a : Int) (w : World) (h0 : 0 ≤ a) (h1 : a ≤ 18446744073709551615) :
    Calls Tryz.prog 60 #[.int .u64 a] w fun e w' => e = .returned (.int .u64 (canon a)) ∧ w = w' := by
  obtain ⟨n, rfl⟩ := Int.eq_ofNat_of_zero_le h0
  have hcan : canon (n : Int) = if 9218868437227405312 < n % 9223372036854775808 then 9221120237041090561 else (n : Int) := by
    unfold canon
    by_cases c : 9218868437227405312 < n % 9223372036854775808
    · rw [if_pos (by omega), if_pos c]
    · rw [if_neg (by omega), if_neg c]
  have HC := Lib.hid hcan
  clear hcan
  have hA := andNot_sign n (by omega)
  by_cases c : 9218868437227405312 < n % 9223372036854775808
  · have t : (9218868437227405312 : Int) < ((n % 9223372036854775808 : Nat) : Int) := by omega
    have HT := Lib.hid t
    clear t
    generalize ((n % 9223372036854775808 : Nat) : Int) = y at hA HT
    have ht := HT.out
    go_enter Tryz.func60, Tryz.ntmps60
    go_wp2
    go_ret
    exact ⟨by rw [HC.out, if_pos c]; rfl, rfl⟩
  · have t : ¬ (9218868437227405312 : Int) < ((n % 9223372036854775808 : Nat) : Int) := by omega
    have HT := Lib.hid t
    clear t
    generalize ((n % 9223372036854775808 : Nat) : Int) = y at hA HT
    have ht := HT.out
    go_enter Tryz.func60, Tryz.ntmps60
    go_wp2
    go_ret
    exact ⟨by rw [HC.out, if_neg c]; rfl, rfl⟩
end Go.Proofs.YtiidkgdlngcpgaaGreatDoor
