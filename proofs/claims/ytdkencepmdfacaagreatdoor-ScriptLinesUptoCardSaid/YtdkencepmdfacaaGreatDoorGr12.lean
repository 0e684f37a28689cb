/- strings.Cut at a line feed; a row of steps of the call's own. script.numbers (contract). -/
import Derived.RangeFuncBox
import Derived.Deep.DeepCutAuto
import Derived.Shelf.Strings.Search2
import Derived.Test.YtdkencepmdfacaaGreatDoorGr9
import Derived.Test.YtdkencepmdfacaaGreatDoorTi
import Derived.Test.YtdkencepmdfacaaGreatDoorGr11
import Derived.Test.YtdkencepmdfacaaGreatDoorGr10
import Derived.Test.YtdkencepmdfacaaGreatDoorPp
set_option maxRecDepth 100000
namespace Go.Proofs.YtdkencepmdfacaaGreatDoor
open Go.RowKit Ieee

/-- strings.Cut at a line feed -/
def cutN (l : List UInt8) : List UInt8 × List UInt8 × Bool := if Lib.indexByte l 10 < 0 then (l, [], false) else (l.take (Lib.indexByte l 10).toNat, l.drop ((Lib.indexByte l 10).toNat + 1), true)
theorem icut10_any (l : List UInt8) (hs : l.length < 1073741824) (w : World) :
    Calls Tryz.prog 48 #[.string (strOf l), .string (strOf [10])] w fun e w' => e = .returned (.tuple #[.string (strOf (cutN l).1), .string (strOf (cutN l).2.1), .bool (cutN l).2.2]) ∧ ∃ n, w' = w.drewN n := by
  have hI := fun w => Any.stringslite_Index_one Tryz.lIndex (strOf l) 10 w
  rw [list_str] at hI
  have hI2 : ∀ w, Calls Tryz.prog 78 #[.string (strOf l), .string (strOf [10])] w fun e w' => e = .returned (.int .i64 (Lib.indexByte l 10)) ∧ w' = w := hI
  have hsz : (strOf l).size = l.length := ba_size l
  rcases index_split l 10 with ⟨h1, h2⟩ | ⟨i, h1, h2, h3, h4⟩
  · have hc : cutN l = (l, [], false) := by
      unfold cutN
      rw [if_pos (by omega)]
    rw [hc]
    rw [h1] at hI2
    have he : strOf [] = { data := #[] } := rfl
    rw [he]
    obtain ⟨S, hS⟩ : ∃ S, S = strOf l := ⟨_, rfl⟩
    rw [← hS] at hI2 ⊢
    clear hI hc h1 h2 hsz hS
    go_enter Tryz.func48, Tryz.ntmps48
    go_wp2_with (go_at_call 78; refine (hI2 _).mono ?_; rintro e w' ⟨rfl, rfl⟩)
    go_ret3
    exact ⟨rfl, 0, rfl⟩
  · have hc : cutN l = (l.take i, l.drop (i + 1), true) := by
      unfold cutN
      rw [if_neg (by omega), h1, Int.toNat_natCast]
    rw [hc]
    rw [h1] at hI2
    have e1 : strOf (l.take i) = (strOf l).extract 0 i := by
      apply ByteArray.ext
      simp [strOf]
    have e2 : strOf (l.drop (i + 1)) = (strOf l).extract (i + 1) (strOf l).size := by
      apply ByteArray.ext
      rw [hsz]
      simp
      rw [List.take_of_length_le (by simp)]
    rw [e1, e2]
    have c1 : (0 : Int) ≤ ↑i := by omega
    have c2 : (↑i : Int) ≤ ↑(strOf l).size := by omega
    have c3 : (0 : Int) ≤ ↑i + 1 := by omega
    have c4 : (↑i + 1 : Int) ≤ ↑(strOf l).size := by omega
    have c5 : (strOf l).size < 1073741824 := by omega
    have hp : (strOf [10]).size = 1 := rfl
    obtain ⟨S, hS⟩ : ∃ S, S = strOf l := ⟨_, rfl⟩
    obtain ⟨PB, hPB⟩ : ∃ S, S = strOf [10] := ⟨_, rfl⟩
    rw [← hS, ← hPB] at hI2 ⊢
    rw [← hS] at c2 c4 c5
    rw [← hPB] at hp
    clear hI hc h1 h2 h3 h4 hsz hS hPB e1 e2 hs
    go_enter Tryz.func48, Tryz.ntmps48
    go_wp2_with (go_at_call 78; refine (hI2 _).mono ?_; rintro e w' ⟨rfl, rfl⟩)
    go_quiet (fail)
    go_wp2
    go_ret3
    exact ⟨by simp, _, rfl⟩
theorem cut10_any (l : List UInt8) (hs : l.length < 1073741824) (w : World) :
    Calls Tryz.prog 28 #[.string (strOf l), .string (strOf [10])] w fun e w' => e = .returned (.tuple #[.string (strOf (cutN l).1), .string (strOf (cutN l).2.1), .bool (cutN l).2.2]) ∧ Below w.heap.size w w' := by
  have k := fun w => icut10_any l hs w
  obtain ⟨a, ha⟩ : ∃ S, S = strOf l := ⟨_, rfl⟩
  obtain ⟨b, hb⟩ : ∃ S, S = strOf [10] := ⟨_, rfl⟩
  obtain ⟨c, hc⟩ : ∃ S, S = strOf (cutN l).1 := ⟨_, rfl⟩
  obtain ⟨d, hd⟩ : ∃ S, S = strOf (cutN l).2.1 := ⟨_, rfl⟩
  obtain ⟨e, he⟩ : ∃ S, S = (cutN l).2.2 := ⟨_, rfl⟩
  rw [← ha, ← hb, ← hc, ← hd, ← he] at k ⊢
  clear ha hb hc hd he
  go_enter Tryz.func28, Tryz.ntmps28
  go_wp2_with (go_at_call 48; refine (k _).mono ?_; rintro _ _ ⟨rfl, n, rfl⟩)
  go_ret3
  exact ⟨rfl, grow_drewN _ _⟩
theorem cutN_step (l : List UInt8) : (spl 10 l = [l] ∧ cutN l = (l, [], false)) ∨ ∃ a b, spl 10 l = a :: spl 10 b ∧ cutN l = (a, b, true) ∧ a.length + b.length < l.length := by
  rcases index_split l 10 with ⟨h1, h2⟩ | ⟨i, h1, h2, h3, h4⟩
  · exact .inl ⟨spl_none h2, by unfold cutN; rw [if_pos (by omega)]⟩
  · refine .inr ⟨l.take i, l.drop (i + 1), ?_, ?_, ?_⟩
    · conv => lhs; rw [h3]
      exact spl_app _ h4
    · unfold cutN
      rw [if_neg (by omega), h1, Int.toNat_natCast]
    · rw [List.length_take, List.length_drop]; omega
def stpVals (s : Stp) : List Value := [.int .i64 s.kind, .int .i64 s.a, .int .i64 s.k, .int .i64 s.x, .string s.str]
theorem stpVals_len (s : Stp) : (stpVals s).length = 5 := rfl
/-- a row of steps of the call's own -/
def RowT (w : World) (base : Nat) (v : Value) (l : List Stp) : Prop := w.ownsRow base 34 5 v l.length (l.flatMap stpVals)
theorem rowT_nil (w : World) (base : Nat) : RowT w base (.slice none 0 0) [] := World.ownsRow_nil w base _ _
theorem rowT_snoc {w : World} {base : Nat} {v : Value} {l : List Stp} {x : Stp} (h : w.ownsRow base 34 5 v (l.length + 1) (l.flatMap stpVals ++ stpVals x)) : RowT w base v (l ++ [x]) := by
  unfold RowT
  rw [List.length_append, List.flatMap_append, List.flatMap_singleton]
  exact h
theorem RowT.keep {w w' : World} {base : Nat} {v : Value} {l : List Stp} (h : RowT w base v l) (hb : Below w.heap.size w w') : RowT w' base v l := own_kept h hb
theorem RowT.more {w : World} {b b' : Nat} {v : Value} {l : List Stp} (h : RowT w b v l) (hb : b' ≤ b) : RowT w b' v l := by
  refine ⟨h.1, ?_⟩
  rcases h.2 with h2 | ⟨g, cap, cur, h1, h2, h3⟩
  · exact .inl h2
  · exact .inr ⟨g, cap, cur, h1, by omega, h3⟩
theorem flatT_at : ∀ (l : List Stp) (i : Nat) (x : Stp) (j : Nat), l[i]? = some x → j < 5 → (l.flatMap stpVals)[i * 5 + j]? = (stpVals x)[j]?
  | [], i, x, j, h, _ => by simp at h
  | y :: l, 0, x, j, h, hj => by
    rw [List.getElem?_cons_zero] at h
    injection h with h
    subst h
    rw [List.flatMap_cons, Nat.zero_mul, Nat.zero_add, List.getElem?_append_left (by rw [stpVals_len]; exact hj)]
  | y :: l, i + 1, x, j, h, hj => by
    rw [List.getElem?_cons_succ] at h
    rw [List.flatMap_cons, List.getElem?_append_right (by rw [stpVals_len]; omega), stpVals_len, show (i + 1) * 5 + j - 5 = i * 5 + j by omega]
    exact flatT_at l i x j h hj
theorem RowT.steps {w : World} {base : Nat} {A : Option Addr} {cap : Nat} {l : List Stp} (h : RowT w base (.slice A l.length cap) l) (hk : ∀ x ∈ l, x.W64) : StepsIn w w.heap.size A l := fun hn => by
  rcases h.2 with ⟨h1, h0⟩ | ⟨g, cap', cur, h1, hb, hg, _⟩
  · exact absurd h0 (by omega)
  · injection h1 with h1 h2 h3
    refine ⟨g, 0, h1, lt_of_block hg, fun i x hx => ⟨?_, hk x (List.mem_of_getElem? hx)⟩⟩
    have key : ∀ j u, j < 5 → (stpVals x)[j]? = some u → w.cell? ⟨g, 0 + i * 5 + j, none⟩ = some u := fun j u hj hu => by
      have := h.cells (g := g) (by rw [h1]; rfl) (i * 5 + j) u ((flatT_at l i x j hx hj).trans hu)
      rw [add_plain] at this
      rw [Nat.zero_add]
      rw [Nat.zero_add] at this
      exact this
    exact ⟨key 0 _ (by omega) rfl, key 1 _ (by omega) rfl, key 2 _ (by omega) rfl, key 3 _ (by omega) rfl, key 4 _ (by omega) rfl⟩
end Go.Proofs.YtdkencepmdfacaaGreatDoor

set_option maxRecDepth 100000
namespace Go.Proofs.YtdkencepmdfacaaGreatDoor
open Go.RowKit Ieee

theorem int_info : (Tryz.prog.info? 3).map (fun i => (i.zero, i.size, i.bytes)) = some (some (.int .i64 0), 1, 8) := by kernel_rfl
/-- a row of ints of the call's own -/
def RowN (w : World) (base : Nat) (v : Value) (l : List Int) : Prop := w.ownsRow base 3 1 v l.length (l.map fun n => Value.int .i64 n)
theorem RowN.keep {w w' : World} {base : Nat} {v : Value} {l : List Int} (h : RowN w base v l) (hb : Below w.heap.size w w') : RowN w' base v l := own_kept h hb
theorem rowN_snoc {w : World} {base : Nat} {v : Value} {l : List Int} {n : Int} (h : w.ownsRow base 3 1 v (l.length + 1) (l.map (fun n => Value.int .i64 n) ++ [Value.int .i64 n])) : RowN w base v (l ++ [n]) := by
  unfold RowN
  rw [List.length_append, List.map_append]
  exact h
theorem rowN_nil (w : World) (base : Nat) : RowN w base (.slice none 0 0) [] := ⟨rfl, .inl ⟨rfl, rfl⟩⟩
theorem RowN.more {w : World} {b b' : Nat} {v : Value} {l : List Int} (h : RowN w b v l) (hb : b' ≤ b) : RowN w b' v l := by
  refine ⟨h.1, ?_⟩
  rcases h.2 with h2 | ⟨g, cap, cur, h1, h2, h3⟩
  · exact .inl h2
  · exact .inr ⟨g, cap, cur, h1, by omega, h3⟩
theorem RowN.cell {w : World} {base g cap n : Nat} {l : List Int} (h : RowN w base (.slice (some ⟨g, 0, none⟩) n cap) l) (j : Nat) (x : Int) (hj : l[j]? = some x) : w.cell? ⟨g, j, none⟩ = some (.int .i64 x) := by
  have h2 := World.ownsRow.cells h (g := g) rfl j (.int .i64 x) (by rw [List.getElem?_map, hj]; rfl)
  rw [add_plain, Nat.zero_add] at h2
  exact h2
theorem numsZ_app : ∀ a b : List (List UInt8), numsZ (a ++ b) = (numsZ a).bind fun x => (numsZ b).map fun y => x ++ y
  | [], b => by simp [numsZ]
  | w :: a, b => by
    rw [List.cons_append, numsZ, numsZ_app a b, numsZ]
    cases numZ w <;> cases numsZ a <;> cases numsZ b <;> simp
theorem numsZ_next {ws : List (List UInt8)} {i : Nat} {acc : List Int} {s : List UInt8} (h : numsZ (ws.take i) = some acc) (hs : ws[i]? = some s) : numsZ (ws.take (i + 1)) = (numZ s).map fun v => acc ++ [v] := by
  rw [List.take_add_one, hs, numsZ_app, h]
  cases hq : numZ s <;> simp [numsZ, hq]
theorem numsZ_bad {ws : List (List UInt8)} {i : Nat} {acc : List Int} {s : List UInt8} (h : numsZ (ws.take i) = some acc) (hs : ws[i]? = some s) (hn : numZ s = none) : numsZ ws = none := by
  have e := numsZ_next h hs
  rw [hn] at e
  rw [← List.take_append_drop (i + 1) ws, numsZ_app, e]
  rfl

set_option maxHeartbeats 4000000 in
set_option maxRecDepth 100000 in
theorem snums_any (ws : List (List UInt8)) (hws : ws.length < 1000000) (hsz : ∀ p ∈ ws, p.length < 1073741824) (g off cap : Nat) (w : World) (hg : g < w.heap.size) (hW : ∀ j p, ws[j]? = some p → w.cell? ⟨g, off + j, none⟩ = some (.string (strOf p))) (hA : AllAt w) :
    Calls Tryz.prog 50 #[.slice (some ⟨g, off, none⟩) ws.length cap] w fun e w' => (∃ A cap2, e = .returned (.tuple #[.slice A ((numsZ ws).getD []).length cap2, .bool (numsZ ws).isSome]) ∧ RowN w' w.heap.size (.slice A ((numsZ ws).getD []).length cap2) ((numsZ ws).getD [])) ∧ Below w.heap.size w w' := by
  obtain ⟨i0, hi0, hz0, hz1, hz2⟩ := info_parts int_info
  have HA : Hid (∀ W, Below w.heap.size w W → AllAt W) := Lib.hid fun W hW => hA.keep hW
  have HW := Lib.hid hW
  have HSZ := Lib.hid hsz
  have HG := Lib.hid hg
  obtain ⟨len, hlen⟩ : ∃ len, ws.length = len := ⟨_, rfl⟩
  have HLEN := Lib.hid hlen
  have HLL : Hid (len < 1000000) := Lib.hid (hlen ▸ hws)
  rw [hlen]
  clear hlen hW hA hws hsz hg
  go_enter Tryz.func50, Tryz.ntmps50
  go_wp2
  go_loopw [11, 4] (fun iv sv wr => ∃ (i : Nat) (A : Option Addr) (c2 : Nat) (acc : List Int), i ≤ len ∧ iv = .int .i64 (i : Int) ∧ sv = .slice A acc.length c2 ∧ acc.length = i ∧ numsZ (ws.take i) = some acc ∧ RowN wr w.heap.size (.slice A acc.length c2) acc ∧ Below w.heap.size w wr) (fun iv _ _ => len - (intOf iv).toNat)
  case atStart => exact ⟨0, none, 0, [], Nat.zero_le _, rfl, rfl, rfl, by simp [numsZ], rowN_nil _ _, Below.refl _ _⟩
  case round =>
    obtain ⟨i, A, c2, acc, hi, rfl, rfl, hai, hz, hr, hb⟩ := hrel
    have HAI := Lib.hid hai
    have HZ := Lib.hid hz
    have HRR := Lib.hid hr
    have HBR := Lib.hid hb
    clear hai hz hr hb
    by_cases hlt : i < len
    · obtain ⟨s, hs⟩ : ∃ s, ws[i]? = some s := ⟨ws[i]'(by rw [HLEN.out]; exact hlt), List.getElem?_eq_getElem _⟩
      have c0 : wr.cell? ⟨g, off + i, none⟩ = some (.string (strOf s)) := (HBR.out.cell (p := ⟨g, off + i, none⟩) HG.out).trans (HW.out i s hs)
      have HS := Lib.hid hs
      have hs30 := HSZ.out s (List.mem_of_getElem? hs)
      have KA := Lib.hid (atoiZ_any s hs30 wr (HA.out _ HBR.out))
      have i0' : (0 : Int) ≤ i := by omega
      have i1 : (i : Int) < len := by omega
      have hwi : wrap64 ((i : Int) + 1) = (i : Int) + 1 := by have := HLL.out; unfold wrap64; omega
      have HWI := Lib.hid hwi
      have HLT := Lib.hid hlt
      have HAL : Hid (acc.length < 1073741824) := Lib.hid (by have := HLL.out; have := HAI.out; omega)
      clear hwi hlt hi hs hs30
      have HCASE : Hid ((∃ v, Lib.atoiAll s = .ok v ∧ w64 v ∧ ((Lib.itoa v = s ∧ numZ s = some v) ∨ (Lib.itoa v ≠ s ∧ numZ s = none))) ∨ ((∀ v, Lib.atoiAll s ≠ .ok v) ∧ numZ s = none)) := Lib.hid (by
        by_cases h : ∃ v, Lib.atoiAll s = .ok v
        · obtain ⟨v, hv⟩ := h
          refine .inl ⟨v, hv, atoi_bound hv, ?_⟩
          by_cases e : Lib.itoa v = s
          · exact .inl ⟨e, by unfold numZ; rw [hv]; simp only; rw [if_pos e]⟩
          · exact .inr ⟨e, by unfold numZ; rw [hv]; simp only; rw [if_neg e]⟩
        · have h2 : ∀ v, Lib.atoiAll s ≠ .ok v := fun v hv => h ⟨v, hv⟩
          refine .inr ⟨h2, ?_⟩
          unfold numZ
          cases hq : Lib.atoiAll s with
          | ok v => exact absurd hq (h2 v)
          | _ => rfl)
      rcases HCASE.out with ⟨v, hv, hv64, hcase⟩ | ⟨hno, hnz⟩
      · have KA2 : Hid (Calls Tryz.prog 80 #[.string (strOf s)] wr fun e w' => e = .returned (.tuple #[.int .i64 v, .nilIface]) ∧ Below wr.heap.size wr w') := Lib.hid (KA.out.mono fun e w' h => by
          rcases h.1 with ⟨v', hv', he⟩ | ⟨hn, _⟩
          · rw [hv] at hv'; injection hv' with hv'; exact ⟨hv' ▸ he, h.2⟩
          · exact absurd hv (hn v))
        have KI := Lib.hid (fun W (hW : TabsAt W) => itoa_is hv64.1 hv64.2 W hW)
        rcases hcase with ⟨he, hnz⟩ | ⟨he, hnz⟩
        · have HN := Lib.hid (numsZ_next HZ.out HS.out)
          rw [hnz] at HN
          have KI2 : Hid (∀ W, Below w.heap.size w W → Calls Tryz.prog 17 #[.int .i64 v] W fun e w' => e = .returned (.string (strOf s)) ∧ Below W.heap.size W w') := Lib.hid fun W hW => by
            have k := KI.out W (HA.out _ hW).tabs
            rw [he] at k
            exact k
          clear KI KA HCASE hv hv64 he hnz
          obtain ⟨SS, hSS⟩ : ∃ SS, strOf s = SS := ⟨_, rfl⟩
          rw [hSS] at c0 KA2 KI2
          clear hSS
          go_wp2_with (first | (go_at_call 80; refine KA2.out.mono ?_; rintro _ w1 ⟨rfl, hb1⟩; have HB1 := Lib.hid (grow_to HBR.out hb1); have HR1 := Lib.hid (HRR.out.keep hb1); clear hb1) | (go_at_call 17; refine (KI2.out _ HB1.out).mono ?_; rintro _ w2 ⟨rfl, hb2⟩; have HB2 := Lib.hid (grow_to HB1.out hb2); have HR2 := Lib.hid (HR1.out.keep hb2); clear hb2) | (at_builtin; go_loud (refine wpList_append_elem' rfl _ _ _ rfl w.heap.size 3 i0 _ 1 8 Tryz.underlying50 hi0 hz0 hz1 hz2 rfl (by decide) (.slice A acc.length c2) acc.length (acc.map fun n => Value.int .i64 n) rfl HR2.out #[.int .i64 v] rfl (by simp [Value.oneCell']) _ rfl rfl HAL.out (by decide) HB2.out.size ?_); intro v' w9 hown hgrow hat; obtain ⟨g', cap', rfl⟩ := ownsRow_succ hown; have HW9 : Hid (RowN w9 w.heap.size (.slice (some ⟨g', 0, none⟩) (acc.length + 1) cap') (acc ++ [v])) := Lib.hid (rowN_snoc hown); have HB9 := Lib.hid (HB2.out.grown hgrow HB2.out.size (fun k hk => (World.ownsRow.lt HR2.out k hk).1)); clear hown hgrow hat))
          refine ⟨⟨i + 1, some ⟨g', 0, none⟩, cap', acc ++ [v], HLT.out, by first | exact up_val HWI.out | rfl, by simp, by have := HAI.out; simp; omega, HN.out, by simpa using HW9.out, HB9.out⟩, by first | exact up_end HLT.out HWI.out | (have hh := HLT.out; simp [intOf]; omega)⟩
        · have HB := Lib.hid (numsZ_bad HZ.out HS.out hnz)
          have hd : ((strOf (Lib.itoa v)).toList == (strOf s).toList) = false := by rw [str_toList, str_toList, beq_eq_false_iff_ne]; exact he
          have KI2 : Hid (∀ W, Below w.heap.size w W → Calls Tryz.prog 17 #[.int .i64 v] W fun e w' => e = .returned (.string (strOf (Lib.itoa v))) ∧ Below W.heap.size W w') := Lib.hid fun W hW => KI.out W (HA.out _ hW).tabs
          clear KI KA HCASE hv hv64 he hnz
          obtain ⟨SS, hSS⟩ : ∃ SS, strOf s = SS := ⟨_, rfl⟩
          obtain ⟨IT, hIT⟩ : ∃ IT, strOf (Lib.itoa v) = IT := ⟨_, rfl⟩
          rw [hSS] at c0 KA2 hd
          rw [hIT] at KI2 hd
          clear hSS hIT
          go_wp2_with (first | (go_at_call 80; refine KA2.out.mono ?_; rintro _ w1 ⟨rfl, hb1⟩; have HB1 := Lib.hid (grow_to HBR.out hb1); clear hb1) | (go_at_call 17; refine (KI2.out _ HB1.out).mono ?_; rintro _ w2 ⟨rfl, hb2⟩; have HB2 := Lib.hid (grow_to HB1.out hb2); clear hb2))
          go_ret2
          exact ⟨⟨none, 0, by rw [HB.out]; rfl, by rw [HB.out]; exact rowN_nil _ _⟩, HB2.out⟩
      · have HB := Lib.hid (numsZ_bad HZ.out HS.out hnz)
        have KA2 : Hid (Calls Tryz.prog 80 #[.string (strOf s)] wr fun e w' => (∃ n v a, e = .returned (.tuple #[.int .i64 n, .iface v (.pointer (some a))])) ∧ Below wr.heap.size wr w') := Lib.hid (KA.out.mono fun e w' h => by
          rcases h.1 with ⟨v', hv', he⟩ | ⟨hn, hh⟩
          · exact absurd hv' (hno v')
          · exact ⟨hh, h.2⟩)
        clear KA HCASE hno hnz
        obtain ⟨SS, hSS⟩ : ∃ SS, strOf s = SS := ⟨_, rfl⟩
        rw [hSS] at c0 KA2
        clear hSS
        go_wp2_with (go_at_call 80; refine KA2.out.mono ?_; rintro _ w1 ⟨⟨n, v, a, rfl⟩, hb1⟩; have HB1 := Lib.hid (grow_to HBR.out hb1); clear hb1)
        go_ret2
        exact ⟨⟨none, 0, by rw [HB.out]; rfl, by rw [HB.out]; exact rowN_nil _ _⟩, HB1.out⟩
    · obtain rfl : i = len := by omega
      have i1 : ¬ (i : Int) < i := by omega
      have HE : Hid (numsZ ws = some acc) := Lib.hid (by have := HZ.out; rwa [List.take_of_length_le (by rw [HLEN.out]; exact Nat.le_refl _)] at this)
      clear hlt hi
      go_wp2
      go_ret2
      exact ⟨⟨A, c2, by rw [HE.out]; rfl, by rw [HE.out]; exact HRR.out⟩, HBR.out⟩
end Go.Proofs.YtdkencepmdfacaaGreatDoor
