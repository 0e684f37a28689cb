/- strings.Builder's writers and strings.Split at one byte (contracts, out of the shelf's). -/
import Derived.Test.YtdkencepmdfacaaGreatDoorGr4
import Derived.Test.YtdkencepmdfacaaGreatDoorShelf
import Derived.Test.YtdkencepmdfacaaGreatDoorQa
import Derived.Test.YtdkencepmdfacaaGreatDoorGr8
import Derived.Shelf.Strings.BuilderK
import Derived.Shelf.Strings.SplitCore
import Derived.Shelf.Strings.Count
import Derived.Shelf.Strings.Search3
import Derived.Lib.SplitLaws
set_option maxRecDepth 100000
namespace Go.Proofs.YtdkencepmdfacaaGreatDoor
open Go.RowKit Go.Shelf Ieee

def wsLayRen : Ren := ⟨fun | 166 => 16 | 240 => 35 | 276 => 58 | n => n, fun | 70 => 42 | 72 => 45 | 37 => 43 | 75 => 47 | 80 => 55 | 164 => 94 | n => n, fun | n => n⟩
theorem wsLay : Lays.n166 Tryz.prog wsLayRen := {
  mixed := by kernel_rfl
  f166 := Tryz.func16.trans (congrArg some (by kernel_rfl))
  f240 := Tryz.func35.trans (congrArg some (by kernel_rfl))
  f276 := Tryz.func58.trans (congrArg some (by kernel_rfl))
  t0 := Tryz.underlying0
  a0 := Tryz.isAgg0
  z0 := Tryz.sizeOf0
  v0 := Tryz.zeroValue0
  t3 := Tryz.underlying3
  a3 := Tryz.isAgg3
  z3 := Tryz.sizeOf3
  v3 := Tryz.zeroValue3
  t4 := Tryz.underlying4
  a4 := Tryz.isAgg4
  z4 := Tryz.sizeOf4
  v4 := Tryz.zeroValue4
  t9 := Tryz.underlying9
  a9 := Tryz.isAgg9
  z9 := Tryz.sizeOf9
  v9 := Tryz.zeroValue9
  t20 := Tryz.underlying20
  a20 := Tryz.isAgg20
  z20 := Tryz.sizeOf20
  v20 := Tryz.zeroValue20
  t37 := Tryz.underlying43
  a37 := Tryz.isAgg43
  z37 := Tryz.sizeOf43
  v37 := Tryz.zeroValue43
  t70 := Tryz.underlying42
  a70 := Tryz.isAgg42
  z70 := Tryz.sizeOf42
  v70 := Tryz.zeroValue42
  t72 := Tryz.underlying45
  a72 := Tryz.isAgg45
  z72 := Tryz.sizeOf45
  v72 := Tryz.zeroValue45
  t75 := Tryz.underlying47
  a75 := Tryz.isAgg47
  z75 := Tryz.sizeOf47
  v75 := Tryz.zeroValue47
  t164 := Tryz.underlying94
  a164 := Tryz.isAgg94
  z164 := Tryz.sizeOf94
  v164 := Tryz.zeroValue94 }
def wbLayRen : Ren := ⟨fun | 167 => 18 | 240 => 35 | 276 => 58 | n => n, fun | 70 => 42 | 72 => 45 | 37 => 43 | 75 => 47 | 80 => 55 | 164 => 94 | n => n, fun | n => n⟩
theorem wbLay : Lays.n167 Tryz.prog wbLayRen := {
  mixed := by kernel_rfl
  f167 := Tryz.func18.trans (congrArg some (by kernel_rfl))
  f240 := Tryz.func35.trans (congrArg some (by kernel_rfl))
  f276 := Tryz.func58.trans (congrArg some (by kernel_rfl))
  t0 := Tryz.underlying0
  a0 := Tryz.isAgg0
  z0 := Tryz.sizeOf0
  v0 := Tryz.zeroValue0
  t4 := Tryz.underlying4
  a4 := Tryz.isAgg4
  z4 := Tryz.sizeOf4
  v4 := Tryz.zeroValue4
  t5 := Tryz.underlying5
  a5 := Tryz.isAgg5
  z5 := Tryz.sizeOf5
  v5 := Tryz.zeroValue5
  t9 := Tryz.underlying9
  a9 := Tryz.isAgg9
  z9 := Tryz.sizeOf9
  v9 := Tryz.zeroValue9
  t20 := Tryz.underlying20
  a20 := Tryz.isAgg20
  z20 := Tryz.sizeOf20
  v20 := Tryz.zeroValue20
  t37 := Tryz.underlying43
  a37 := Tryz.isAgg43
  z37 := Tryz.sizeOf43
  v37 := Tryz.zeroValue43
  t70 := Tryz.underlying42
  a70 := Tryz.isAgg42
  z70 := Tryz.sizeOf42
  v70 := Tryz.zeroValue42
  t72 := Tryz.underlying45
  a72 := Tryz.isAgg45
  z72 := Tryz.sizeOf45
  v72 := Tryz.zeroValue45
  t75 := Tryz.underlying47
  a75 := Tryz.isAgg47
  z75 := Tryz.sizeOf47
  v75 := Tryz.zeroValue47
  t164 := Tryz.underlying94
  a164 := Tryz.isAgg94
  z164 := Tryz.sizeOf94
  v164 := Tryz.zeroValue94 }
theorem bx1 : Builder.Extra Tryz.prog wsLayRen where
  sizeBuilder := by kernel_rfl
  liesBuilder := by kernel_rfl
  t5 := Tryz.underlying5
  a5 := Tryz.isAgg5
  z5 := Tryz.sizeOf5
  v5 := Tryz.zeroValue5
  infoByte := by kernel_rfl
  cellsByte := by kernel_rfl
  sizeByte := by kernel_rfl
  neB5 := by decide
theorem bx2 : Builder.Extra Tryz.prog wbLayRen where
  sizeBuilder := by kernel_rfl
  liesBuilder := by kernel_rfl
  t5 := Tryz.underlying5
  a5 := Tryz.isAgg5
  z5 := Tryz.sizeOf5
  v5 := Tryz.zeroValue5
  infoByte := by kernel_rfl
  cellsByte := by kernel_rfl
  sizeByte := by kernel_rfl
  neB5 := by decide
theorem bx3 : Builder.Extra Tryz.prog Tryz.lBString_ren where
  sizeBuilder := by kernel_rfl
  liesBuilder := by kernel_rfl
  t5 := Tryz.underlying5
  a5 := Tryz.isAgg5
  z5 := Tryz.sizeOf5
  v5 := Tryz.zeroValue5
  infoByte := by kernel_rfl
  cellsByte := by kernel_rfl
  sizeByte := by kernel_rfl
  neB5 := by decide
/-- a builder in its own block that holds these bytes -/
def Bd (w : World) (b : Nat) (l : List UInt8) : Prop := Lib.IsBuilderF 45 5 b b (Lib.byteCells l) w
/-- what a builder's writers leave -/
structure BK (b : Nat) (w w' : World) : Prop where
  below : Below b w w'
  others : Lib.OthersKept 5 (some b) w w'
theorem BK.refl (b : Nat) (w : World) : BK b w w := ⟨Below.refl _ _, Lib.OthersKept.refl _ _ _⟩
theorem BK.trans {b : Nat} {x y z : World} (h : BK b x y) (k : BK b y z) : BK b x z := ⟨h.below.trans k.below, h.others.trans k.others⟩
theorem BK.alloc {b : Nat} {x y : World} (h : BK b x y) (hb : b ≤ y.heap.size) (o : Obj) : BK b x (y.alloc o) := ⟨h.below.alloc hb o, h.others.alloc o⟩
theorem BK.of {b : Nat} {x y : World} (h : Below x.heap.size x y) (hb : b ≤ x.heap.size) : BK b x y :=
  ⟨Below.mono h hb, fun k _ hk _ _ => (h.block k (lt_of_block hk)).trans hk⟩
theorem Cells.bk {w w' : World} {b g : Nat} {t : TypeId} {c : Array Value} (h : Cells w g t c) (hb : BK b w w') (hg : g ≠ b) (ht : t ≠ 5) : Cells w' g t c :=
  hb.others g _ h (fun e => hg (Option.some.inj e)) (fun c' fz e => ht (by injection e))
theorem Bd.lt {w : World} {b : Nat} {l : List UInt8} (h : Bd w b l) : b < w.heap.size := h.elim (fun h => h.lt) (fun h => h.lt)
theorem Bd.new (w : World) : Bd (w.alloc (.cells #[.pointer none, .slice none 0 0] 45)) w.heap.size [] :=
  .inl ⟨Nat.le_refl _, .slice none 0 0, heap_alloc_new w _, ⟨by simp [Lib.byteCells], .inl ⟨rfl, rfl⟩⟩, by simp [Value.ownBlock]⟩
theorem Bd.keep {w w' : World} {b : Nat} {l : List UInt8} (h : Bd w b l) (hb : Below w.heap.size w w') : Bd w' b l := by
  have key : ∀ p, Lib.BuilderAtF 45 5 b b p (Lib.byteCells l) w → Lib.BuilderAtF 45 5 b b p (Lib.byteCells l) w' := by
    rintro p ⟨h1, v, h2, h3, h4⟩
    refine ⟨h1, v, (hb.block _ (lt_of_block h2)).trans h2, h3.kept (row := none) (only_of_below hb none) ?_, h4⟩
    cases hv : v.ownBlock with
    | none => exact .inl rfl
    | some _ => exact .inr (by simp)
  exact h.elim (fun h => .inl (key _ h)) (fun h => .inr (key _ h))
theorem byteCells_app (a b : List UInt8) : Lib.byteCells (a ++ b) = Lib.byteCells a ++ Lib.byteCells b := by simp [Lib.byteCells]
theorem wstr_any {w : World} {b : Nat} {l : List UInt8} (h : Bd w b l) (s : List UInt8) (hs : l.length + s.length ≤ 140737488355328) :
    Calls Tryz.prog 16 #[.pointer (some ⟨b, 0, none⟩), .string (strOf s)] w fun e w' => e = .returned (.tuple #[.int .i64 (s.length : Nat), .nilIface]) ∧ Bd w' b (l ++ s) ∧ BK b w w' := by
  have hsz : (strOf s).size = s.length := ba_size s
  have k := Any.Builder_WriteString_k wsLay bx1 b b (Lib.byteCells l) (strOf s) w h (by rw [hsz, Lib.byteCells_length]; exact hs) (Nat.le_of_lt h.lt)
  rw [hsz] at k
  refine Calls.mono (show Calls Tryz.prog 16 _ _ _ from k) ?_
  rintro e w' ⟨rfl, h1, h2, h3⟩
  rw [show Lib.strCells (strOf s) = Lib.byteCells s from rfl, ← byteCells_app] at h1
  exact ⟨rfl, .inr h1, h2, h3⟩
theorem wbyte_any {w : World} {b : Nat} {l : List UInt8} (h : Bd w b l) (c : UInt8) (hs : l.length + 1 ≤ 140737488355328) :
    Calls Tryz.prog 18 #[.pointer (some ⟨b, 0, none⟩), .int .u8 (c.toNat : Int)] w fun e w' => e = .returned .nilIface ∧ Bd w' b (l ++ [c]) ∧ BK b w w' := by
  have k := Any.Builder_WriteByte_k wbLay bx2 b b (Lib.byteCells l) (c.toNat : Int) w h (by rw [Lib.byteCells_length]; exact hs) (Nat.le_of_lt h.lt)
  refine Calls.mono (show Calls Tryz.prog 18 _ _ _ from k) ?_
  rintro e w' ⟨rfl, h1, h2, h3⟩
  exact ⟨rfl, .inr (by rw [byteCells_app]; exact h1), h2, h3⟩
theorem bstr_any {w : World} {b : Nat} {l : List UInt8} (h : Bd w b l) :
    Calls Tryz.prog 21 #[.pointer (some ⟨b, 0, none⟩)] w fun e w' => e = .returned (.string (strOf l)) ∧ BK b w w' := by
  have k := Any.Builder_String_any_k Tryz.lBString bx3 b b l w h (Nat.le_of_lt h.lt)
  refine Calls.mono (show Calls Tryz.prog 21 _ _ _ from k) ?_
  rintro e w' ⟨rfl, _, h2, h3⟩
  exact ⟨rfl, h2, h3⟩

/-! ### strings.Split at one byte -/
theorem spl_count (c : UInt8) : ∀ l : List UInt8, (spl c l).length = l.count c + 1
  | [] => rfl
  | x :: l => by
    have ih := spl_count c l
    obtain ⟨w, ws, e⟩ := spl_cons c l
    unfold spl
    split
    · rename_i h
      rw [h, List.count_cons_self, List.length_cons, ih]
    · rename_i h
      rw [List.count_cons_of_ne (by simpa using h), ← ih, e]
      rfl
theorem spl_one {c : UInt8} {l : List UInt8} (h : (spl c l).length = 1) : spl c l = [l] := by
  obtain ⟨w, ws, e⟩ := spl_cons c l
  have hj := spl_join c l
  rw [e] at h hj ⊢
  have hw : ws = [] := by simpa using h
  rw [hw] at hj ⊢
  have : w = l := hj
  rw [this]
theorem ext_take (l : List UInt8) (i : Nat) : (strOf l).extract 0 i = strOf (l.take i) := by
  apply ByteArray.ext
  simp [strOf]
theorem ext_drop (l : List UInt8) (i : Nat) : (strOf l).extract i (strOf l).size = strOf (l.drop i) := by
  apply ByteArray.ext
  rw [ba_size]
  simp
  rw [List.take_of_length_le (by simp)]
theorem splitB_spl (c : UInt8) : ∀ (k : Nat) (l : List UInt8), (spl c l).length = k + 1 → Lib.splitB (strOf [c]) 0 k (strOf l) = (spl c l).map strOf
  | 0, l, h => by rw [spl_one h]; rfl
  | k + 1, l, h => by
    rcases index_split l c with ⟨h1, h2⟩ | ⟨i, h1, h2, h3, h4⟩
    · rw [spl_none h2] at h
      simp at h
    · have e : spl c l = l.take i :: spl c (l.drop (i + 1)) := by conv => lhs; rw [h3, spl_app _ h4]
      have hi : Lib.indexB (strOf l) (strOf [c]) = (i : Int) := by
        show Lib.index (strOf l).data.toList (strOf [c]).data.toList = _
        rw [list_str, list_str, Lib.index_one, h1]
      rw [e] at h ⊢
      rw [Lib.splitB_hit _ _ _ _ _ hi, Nat.add_zero, ext_take, show (strOf [c]).size = 1 from rfl, ext_drop, splitB_spl c k _ (by simpa using h)]
      rfl
theorem split_any (c : UInt8) (l : List UInt8) (hs : l.length < 1073741824) (w : World) :
    Calls Tryz.prog 49 #[.string (strOf l), .string (strOf [c])] w fun e w' => e = .returned (.slice (some ⟨w.heap.size, 0, none⟩) (spl c l).length (spl c l).length) ∧ w' = w.alloc (.cells ((spl c l).map fun p => Value.string (strOf p)).toArray 9) := by
  have hsz : (strOf l).size = l.length := ba_size l
  have hcn : Lib.countB (strOf l) (strOf [c]) + 1 = (spl c l).length := by
    show Lib.count (strOf l).data.toList (strOf [c]).data.toList + 1 = _
    rw [list_str, list_str, Lib.count_one, spl_count]
  have hC : Calls Tryz.prog (Tryz.lGenSplit_ren.f 138) #[.string (strOf l), .string (strOf [c])] w fun e w' => e = .returned (.int .i64 (Lib.countB (strOf l) (strOf [c]))) ∧ w' = w := by
    refine (Any.strings_Count_one { Tryz.lGenSplit with } (strOf l) c w).mono fun e w' ⟨he, hw⟩ => ⟨?_, hw⟩
    rw [he]
    show _ = Ending.returned (Value.int .i64 ((Lib.count (strOf l).data.toList [c] : Nat) : Int))
    rw [Lib.count_one]
    rfl
  have hI : ∀ (x : ByteArray) (cc : Array Value), x.size ≤ (strOf l).size → Calls Tryz.prog (Tryz.lGenSplit_ren.f 143) #[.string x, .string (strOf [c])] (w.alloc (.cells cc (Tryz.lGenSplit_ren.t 9))) fun e w' => e = .returned (.int .i64 (Lib.indexB x (strOf [c]))) ∧ w' = w.alloc (.cells cc (Tryz.lGenSplit_ren.t 9)) := fun x cc _ => by
    refine (Any.strings_Index_one { Tryz.lGenSplit with } x c _).mono fun e w' ⟨he, hw⟩ => ⟨?_, hw⟩
    rw [he]
    show _ = Ending.returned (Value.int .i64 (Lib.index x.data.toList [c]))
    rw [Lib.index_one]
  have k := Any.strings_genSplit_core Tryz.lGenSplit (by kernel_rfl) (strOf l) (strOf [c]) 0 (-1) (Lib.countB (strOf l) (strOf [c]) + 1) w (by omega) (by show 1 ≤ 1; omega) (Nat.zero_le _) hI hC (by decide) (by decide) (by
    rw [if_pos (by decide)]
    have hle : l.count c ≤ l.length := List.count_le_length
    have := spl_count c l
    omega)
  rw [Nat.add_sub_cancel, splitB_spl c _ _ hcn.symm, hcn] at k
  have e2 : Lib.cellsOf ((spl c l).map strOf) (spl c l).length = ((spl c l).map fun p => Value.string (strOf p)).toArray := by
    have := Lib.cellsOf_full ((spl c l).map strOf)
    rw [List.length_map, List.map_map] at this
    exact this
  rw [e2, List.length_map] at k
  have k2 : Calls Tryz.prog 79 #[.string (strOf l), .string (strOf [c]), .int .i64 0, .int .i64 (-1)] w fun e w' => e = .returned (.slice (some ⟨w.heap.size, 0, none⟩) (spl c l).length (spl c l).length) ∧ w' = w.alloc (.cells ((spl c l).map fun p => Value.string (strOf p)).toArray 9) := k
  clear k hI hC hcn e2 hsz hs
  obtain ⟨S, hS⟩ : ∃ S, S = strOf l := ⟨_, rfl⟩
  obtain ⟨PB, hPB⟩ : ∃ S, S = strOf [c] := ⟨_, rfl⟩
  rw [← hS, ← hPB] at k2 ⊢
  generalize (spl c l).length = n at *
  generalize ((spl c l).map fun p => Value.string (strOf p)).toArray = cs at *
  clear hS hPB
  go_enter Tryz.func49, Tryz.ntmps49
  go_wp2_with (go_at_call 79; refine k2.mono ?_; rintro e w' ⟨rfl, rfl⟩)
  go_ret
  exact ⟨rfl, rfl⟩
end Go.Proofs.YtdkencepmdfacaaGreatDoor
