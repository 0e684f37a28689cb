/- The document's words and number (contracts). strings.ReplaceAll, TrimSuffix, Join, CutPrefix, strconv.Atoi as package script calls them (contracts). -/
import Derived.RangeFuncBox
import Derived.Test.YtdkencepmdfacaaGreatDoorGr10
import Derived.Test.YtdkencepmdfacaaGreatDoorGr5
import Derived.Test.YtdkencepmdfacaaGreatDoorPp
import Derived.Test.YtdkencepmdfacaaGreatDoorGr8
import Derived.Test.YtdkencepmdfacaaGreatDoorGr3
import Derived.Test.YtdkencepmdfacaaGreatDoorNumParse2
import Derived.Shelf.Strings.Replace
import Derived.Shelf.Strings.OnBuilder
import Derived.Shelf.Strings.Prefix
import Derived.Shelf.Strings.Runes
import Derived.Shelf.Strings.SplitShaped
import Derived.Test.YtdkencepmdfacaaGreatDoorShelf
import Derived.Test.YtdkencepmdfacaaGreatDoorPn
import Derived.Test.YtdkencepmdfacaaGreatDoorPw
set_option maxRecDepth 100000
namespace Go.Proofs.YtdkencepmdfacaaGreatDoor
open Go.RowKit Ieee

/-- a row of texts of the call's own -/
def RowS (w : World) (base : Nat) (v : Value) (ws : List (List UInt8)) : Prop := w.ownsRow base 9 1 v ws.length (ws.map fun p => Value.string (strOf p))
theorem rowS_snoc {w : World} {base : Nat} {v : Value} {ws : List (List UInt8)} {p : List UInt8} (h : w.ownsRow base 9 1 v (ws.length + 1) (ws.map (fun p => Value.string (strOf p)) ++ [Value.string (strOf p)])) : RowS w base v (ws ++ [p]) := by
  unfold RowS
  rw [List.length_append, List.map_append]
  exact h
theorem str_info : (Tryz.prog.info? 9).map (fun i => (i.zero, i.size, i.bytes)) = some (some (.string ⟨#[]⟩), 1, 16) := by kernel_rfl
theorem RowS.word {w : World} {base g cap n : Nat} {ws : List (List UInt8)} (h : RowS w base (.slice (some ⟨g, 0, none⟩) n cap) ws) (j : Nat) (hj : j < ws.length) : w.cell? ⟨g, j, none⟩ = some (.string (strOf (ws.getD j []))) := by
  have h2 := World.ownsRow.cells h (g := g) rfl j (.string (strOf (ws.getD j []))) (by rw [List.getElem?_map, List.getElem?_eq_getElem hj, List.getD_eq_getElem?_getD, List.getElem?_eq_getElem hj]; rfl)
  rw [add_plain, Nat.zero_add] at h2
  exact h2

end Go.Proofs.YtdkencepmdfacaaGreatDoor

set_option maxRecDepth 100000
namespace Go.Proofs.YtdkencepmdfacaaGreatDoor
open Go.RowKit Ieee

/-- the library's variable that says how long a text the machine seeks at once -/
def MaxAt (w : World) : Prop := ∃ m, w.cell? ⟨0, 0, none⟩ = some (.int .i64 m)
theorem MaxAt.keep {w x : World} (h : MaxAt w) (hb : Below w.heap.size w x) : MaxAt x := by
  obtain ⟨m, h⟩ := h
  exact ⟨m, cell_keeps hb h⟩
theorem bx_lReplaceAll : Builder.Extra Tryz.prog Tryz.lReplaceAll_ren where
  sizeBuilder := by kernel_rfl
  liesBuilder := by kernel_rfl
  t5 := Tryz.underlying5
  a5 := Tryz.isAgg5
  z5 := Tryz.sizeOf5
  v5 := Tryz.zeroValue5
  infoByte := by kernel_rfl
  cellsByte := by kernel_rfl
  sizeByte := by kernel_rfl
  neB5 := by decide
theorem bx_lJoin : Builder.Extra Tryz.prog Tryz.lJoin_ren where
  sizeBuilder := by kernel_rfl
  liesBuilder := by kernel_rfl
  t5 := Tryz.underlying5
  a5 := Tryz.isAgg5
  z5 := Tryz.sizeOf5
  v5 := Tryz.zeroValue5
  infoByte := by kernel_rfl
  cellsByte := by kernel_rfl
  sizeByte := by kernel_rfl
  neB5 := by decide
theorem semi_any {l : List UInt8} (hl : l.length ≤ 1048576) (w : World) (hM : MaxAt w) : Calls Tryz.prog 39 #[.string (strOf l), .string ⟨#[10]⟩, .string ⟨#[59, 32]⟩] w fun e w' => e = .returned (.string (strOf (semi l))) ∧ Below w.heap.size w w' := by
  obtain ⟨m, hm⟩ := hM
  have k := Any.strings_ReplaceAll Tryz.lReplaceAll bx_lReplaceAll (strOf l) ⟨#[10]⟩ ⟨#[59, 32]⟩ m w (by rw [ba_size]; omega) hm (by decide) (by
    have e : Lib.countB (strOf l) ⟨#[10]⟩ = Lib.count l [10] := by show Lib.count (strOf l).data.toList [10] = _; rw [list_str]
    have h2 := count_semi l
    rw [e, ba_size]
    show l.length + Lib.count l [10] * 2 ≤ _
    omega)
  rw [list_str] at k
  refine Calls.mono (show Calls Tryz.prog 39 _ _ _ from k) ?_
  rintro e w' ⟨rfl, hb⟩
  exact ⟨by rw [← repl_semi], hb⟩
theorem unsemi_any {l : List UInt8} (hl : l.length ≤ 1048576) (w : World) (hM : MaxAt w) : Calls Tryz.prog 39 #[.string (strOf l), .string ⟨#[59, 32]⟩, .string ⟨#[10]⟩] w fun e w' => e = .returned (.string (strOf (unsemi l))) ∧ Below w.heap.size w w' := by
  obtain ⟨m, hm⟩ := hM
  have k := Any.strings_ReplaceAll Tryz.lReplaceAll bx_lReplaceAll (strOf l) ⟨#[59, 32]⟩ ⟨#[10]⟩ m w (by rw [ba_size]; omega) hm (by decide) (by
    have e : Lib.countB (strOf l) ⟨#[59, 32]⟩ = Lib.count l [59, 32] := by show Lib.count (strOf l).data.toList [59, 32] = _; rw [list_str]
    have h2 := count_unsemi l
    rw [e, ba_size]
    show l.length + Lib.count l [59, 32] * 1 ≤ _
    omega)
  rw [list_str] at k
  refine Calls.mono (show Calls Tryz.prog 39 _ _ _ from k) ?_
  rintro e w' ⟨rfl, hb⟩
  exact ⟨by rw [← repl_unsemi], hb⟩
theorem trim_any (m : List UInt8) (hl : m.length ≤ 1048576) (w : World) : Calls Tryz.prog 40 #[.string (strOf (m ++ [10])), .string ⟨#[10]⟩] w fun e w' => e = .returned (.string (strOf m)) ∧ w' = w := by
  have k := Any.strings_TrimSuffix Tryz.lTrimSuffix (strOf (m ++ [10])) ⟨#[10]⟩ w (by rw [ba_size, List.length_append]; simp; omega)
  rw [list_str] at k
  refine Calls.mono (show Calls Tryz.prog 40 _ _ _ from k) ?_
  rintro e w' ⟨rfl, hw⟩
  exact ⟨show Ending.returned (Value.string ⟨(Lib.trimSuffix (m ++ [10]) [10]).toArray⟩) = _ from by rw [trim_end], hw⟩
theorem joinw_any {w : World} {base g n cap : Nat} {ws : List (List UInt8)} (h : RowS w base (.slice (some ⟨g, 0, none⟩) n cap) ws) (hn : n = ws.length) (h0 : ws ≠ []) (hl : (joinW 32 ws).length ≤ 1048576) (hk : ws.length ≤ 1048576) :
    Calls Tryz.prog 42 #[.slice (some ⟨g, 0, none⟩) n cap, .string ⟨#[32]⟩] w fun e w' => e = .returned (.string (strOf (joinW 32 ws))) ∧ Below w.heap.size w w' := by
  subst hn
  have hc : ∀ (j : Nat) x, (ws.map strOf)[j]? = some x → w.cell? ⟨g, 0 + j, none⟩ = some (.string x) := fun j x hx => by
    rw [List.getElem?_map] at hx
    obtain ⟨p, hp, rfl⟩ := Option.map_eq_some_iff.1 hx
    have hj := (List.getElem?_eq_some_iff.1 hp).1
    have := h.word j hj
    rw [List.getD_eq_getElem?_getD, hp] at this
    rw [Nat.zero_add]
    exact this
  have hcap : (ws.map strOf).length ≤ cap := by
    rw [List.length_map]
    rcases h.2 with ⟨h1, _⟩ | ⟨g', cap', cur, h1, _, _, h2, _⟩
    · simp at h1
    · injection h1 with _ _ h3
      omega
  have e : (ws.map strOf).map (fun x => x.data.toList) = ws := by rw [List.map_map]; conv => rhs; rw [← List.map_id ws]
                                                                  apply List.map_congr_left; intro p _; exact list_str p
  have k := Any.strings_Join Tryz.lJoin bx_lJoin g 0 cap (ws.map strOf) ⟨#[32]⟩ w hc (World.ownsRow.lt h g rfl).2 (by rw [List.length_map]; omega) hcap (by
    rw [e]
    show (Lib.join ws [32]).length ≤ _
    rw [join_is]; omega)
  rw [e, List.length_map] at k
  refine Calls.mono (show Calls Tryz.prog 42 _ _ _ from k) ?_
  rintro e w' ⟨rfl, hb⟩
  exact ⟨by rw [← join_is], hb⟩
theorem cutsub_any (l : List UInt8) (w : World) : Calls Tryz.prog 51 #[.string (strOf l), .string (strOf subW)] w fun e w' => e = .returned (.tuple #[.string (strOf (Lib.trimPrefix l subW)), .bool (Lib.hasPrefix l subW)]) ∧ w' = w := by
  have h := Any.strings_CutPrefix Tryz.lCutPrefix (strOf l) (strOf subW) w
  rw [list_str, list_str] at h
  exact h
theorem atoiZ_any (t : List UInt8) (hmax : t.length < 1073741824) (w : World) (hA : AllAt w) :
    Calls Tryz.prog 80 #[.string (strOf t)] w fun e w' => ((∃ v, Lib.atoiAll t = .ok v ∧ e = .returned (.tuple #[.int .i64 v, .nilIface])) ∨ ((∀ v, Lib.atoiAll t ≠ .ok v) ∧ ∃ n v a, e = .returned (.tuple #[.int .i64 n, .iface v (.pointer (some a))]))) ∧ Below w.heap.size w w' := by
  rcases end_cases (Lib.atoiAll t) with ⟨v, h⟩ | h | h
  · refine (atoi_fits t hmax h w).mono ?_
    rintro e w' hh
    exact ⟨.inl ⟨v, h, hh.1⟩, hh.2⟩
  · refine (atoi_far t hmax h w hA.rng).mono ?_
    rintro e w' hh
    exact ⟨.inr ⟨fun v e2 => (by rw [h] at e2; first | cases e2 | simp [Lib.atoiAll] at e2), hh.1⟩, hh.2⟩
  · refine (atoi_bad t hmax h w hA.syn).mono ?_
    rintro e w' hh
    exact ⟨.inr ⟨fun v e2 => (by rw [h] at e2; first | cases e2 | simp [Lib.atoiAll] at e2), hh.1⟩, hh.2⟩
end Go.Proofs.YtdkencepmdfacaaGreatDoor
