/- slices.SortFunc at a row of artefacts. -/
import Derived.Shelf.SlSortCmp.NoneTotal
import Derived.Sort.OwnSorted
import Derived.Test.YtpnfdmglhonkmaaShelf
import Derived.Test.YtpnfdmglhonkmaaSnk
set_option maxRecDepth 100000
namespace Go.Proofs.Ytpnfdmglhonkmaa
open Go.RowKit Go.Maps Go.Sort Go.Shelf

/-- an artefact in a row: its job, its badge, its pieces' slice -/
abbrev AE := Fin 9 × Int × (Option Addr × Nat × Nat)
def encA (x : AE) : List Value := [.int .i64 (x.1.val : Int), .int .i64 x.2.1, .slice x.2.2.1 x.2.2.2.1 x.2.2.2.2]
def cfA (x y : AE) : Int := (x.1.val : Int) - (y.1.val : Int)

theorem swoA : SWO (ltOf cfA) where
  irrefl x := by simp [ltOf, cfA]
  trans x y z h1 h2 := by
    have a1 : cfA x y < 0 := of_decide_eq_true h1
    have a2 : cfA y z < 0 := of_decide_eq_true h2
    refine decide_eq_true (p := cfA x z < 0) ?_
    unfold cfA at *
    omega
  ntrans x y z h1 h2 := by
    have a1 : ¬ cfA x y < 0 := of_decide_eq_false h1
    have a2 : ¬ cfA y z < 0 := of_decide_eq_false h2
    refine decide_eq_false (p := cfA x z < 0) ?_
    unfold cfA at *
    omega

theorem closure_any (x y : AE) (W : World) : Calls Try.prog 20 #[.agg (encA x).toArray, .agg (encA y).toArray] W fun e w' => e = .returned (.int .i64 (cfA x y)) ∧ ∃ q os', w' = grow (W.drewN q) os' := by
  have hw : IntKind.i64.wrap ((x.1.val : Int) - (y.1.val : Int)) = (x.1.val : Int) - (y.1.val : Int) := IntWalk.i64_in _ (by omega)
  unfold cfA encA
  go_enter Try.func20, Try.ntmps20
  go_wp2
  go_ret
  exact ⟨rfl, 0, _, by rw [alloc_eq_grow, alloc_eq_grow, grow_grow]; rfl⟩

theorem flatMap_len (L : List AE) : (L.flatMap encA).length = L.length * 3 := by
  induction L with
  | nil => rfl
  | cons a r ih => rw [List.flatMap_cons, List.length_append, ih]; simp [encA]; omega

theorem flatMap_get : ∀ (L : List AE) (t : Nat), t < L.length * 3 → (L.flatMap encA)[t]? = (encA L.toArray[t / 3]!)[t % 3]?
  | [], t, h => by simp at h
  | a :: r, t, h => by
    by_cases h3 : t < 3
    · rw [List.flatMap_cons, List.getElem?_append_left (by simpa [encA] using h3)]
      have e1 : t / 3 = 0 := by omega
      have e2 : t % 3 = t := by omega
      rw [e1, e2]
      simp
    · rw [List.flatMap_cons, List.getElem?_append_right (by simp [encA]; omega)]
      have e0 : (encA a).length = 3 := rfl
      rw [e0, flatMap_get r (t - 3) (by simp at h; omega)]
      have e1 : t / 3 = (t - 3) / 3 + 1 := by omega
      have e2 : t % 3 = (t - 3) % 3 := by omega
      rw [e1, e2]
      simp

theorem flatK_list (L : List AE) : flatK encA 3 L.toArray = (L.flatMap encA).toArray := by
  apply Array.ext_getElem?
  intro t
  by_cases ht : t < L.length * 3
  · have h1 := get_flatK encA 3 L.toArray t (by simpa using ht)
    have hs : t < (flatK encA 3 L.toArray).size := by simpa using ht
    rw [getElem!_pos (flatK encA 3 L.toArray) t hs] at h1
    rw [Array.getElem?_eq_getElem hs, h1, List.getElem?_toArray, flatMap_get L t ht]
    have hl : t % 3 < (encA L.toArray[t / 3]!).length := by
      have : (encA L.toArray[t / 3]!).length = 3 := rfl
      omega
    rw [List.getElem?_eq_getElem hl, getElem!_pos (encA L.toArray[t / 3]!) (t % 3) hl]
  · rw [Array.getElem?_eq_none (by simp; omega), List.getElem?_toArray, List.getElem?_eq_none (by rw [flatMap_len]; omega)]

/-- a row of artefacts -/
abbrev ARow (w : World) (base : Nat) (v : Value) (L : List AE) : Prop := w.ownsRow base 49 3 v L.length (L.flatMap encA)

theorem holds_row {w : World} {base g cap : Nat} {L : List AE} (h : ARow w base (.slice (some ⟨g, 0, none⟩) L.length cap) L) : HoldsK encA 3 w g 0 L.toArray := by
  intro j hj
  rw [flatK_list] at hj ⊢
  have hj' : j < L.length * 3 := by rw [← flatMap_len]; simpa using hj
  refine ⟨?_, by rw [Nat.zero_add]; exact h.frozenAt j⟩
  rw [Nat.zero_add, h.cellAt j hj', getElem!_pos _ j hj]
  simp

theorem row_sorted {w : World} {base g cap n : Nat} {L L' : List AE} {os : Array Obj} (h : ARow w base (.slice (some ⟨g, 0, none⟩) L.length cap) L) (hl : L'.length = L.length) :
    ARow (sortWorldK encA 3 w g 0 n L'.toArray os) base (.slice (some ⟨g, 0, none⟩) L.length cap) L' ∧ w.grownBy (sortWorldK encA 3 w g 0 n L'.toArray os) (some g) := by
  rcases h.2 with ⟨h0, _⟩ | ⟨g', cap', cur, hv, hb, hg, hc, hcm, hcs, htake⟩
  · cases h0
  cases hv
  have hgl := lt_of_block hg
  have hheap : (sortWorldK encA 3 w g 0 n L'.toArray os).heap[g]? = some (.cells (putCells id 0 (flatK encA 3 L'.toArray) cur) 49 (0, 0)) := by
    unfold sortWorldK
    rw [heap_grow_old _ _ (by simpa [putRowK, putRow, mapBlock, Sort.ahead] using hgl)]
    simp [putRowK, putRow, mapBlock, Sort.ahead, Array.getElem?_modify, hg, onCells]
  refine ⟨⟨by rw [flatMap_len], .inr ⟨g, cap, _, by rw [hl], hb, hheap, by rw [hl]; exact hc, hcm, by simp [putCells, hcs], ?_⟩⟩, ⟨rfl, rfl, rfl, by simp [sortWorldK, grow, putRowK, putRow, mapBlock, Sort.ahead], fun k hk hne => ?_⟩⟩
  · rw [flatK_list]
    apply List.ext_getElem?
    intro j
    by_cases hj : j < L'.length * 3
    · have hjc : j < cur.size := by
        rw [hcs]
        have := Nat.mul_le_mul_right 3 hc
        omega
      rw [List.getElem?_take_of_lt hj, Array.getElem?_toList]
      have hj2 : j < (L'.flatMap encA).length := by rw [flatMap_len]; exact hj
      simp only [putCells, Array.getElem?_mapIdx, Array.getElem?_eq_getElem hjc, Option.map_some, Nat.zero_le, true_and, Nat.zero_add, List.size_toArray, if_pos hj2, Nat.sub_zero, id]
      rw [getElem!_pos _ j (by simpa using hj2)]
      simp [hj2]
    · rw [List.getElem?_take_eq_none (by omega), List.getElem?_eq_none (by rw [flatMap_len]; omega)]
  · unfold sortWorldK
    rw [heap_grow_old _ _ (by simpa [putRowK, putRow, mapBlock, Sort.ahead] using hk)]
    have : g ≠ k := fun e => hne (by rw [e])
    simp [putRowK, putRow, mapBlock, Sort.ahead, Array.getElem?_modify, this]

theorem len_any (n : Nat) (W : World) (h : n ≤ 12) : Calls Try.prog 28 #[.int .u64 n] W fun e w' => (∃ l : Int, e = .returned (.int .i64 l)) ∧ w' = W :=
  (Any.bits_Len Try.bitsLen n W (by omega) (by omega)).mono fun _ _ ⟨he, hw⟩ => ⟨⟨_, he⟩, hw⟩

theorem sort_any {w : World} {base : Nat} {v : Value} {L : List AE} (h : ARow w base v L) (hne : L ≠ []) (hl : L.length ≤ 12) :
    Calls Try.prog 19 #[v, .func (.func 20) #[] #[]] w fun e w' => e = .returned (.tuple #[]) ∧ ∃ L', L'.Perm L ∧ L'.Pairwise (fun a b => a.1.val ≤ b.1.val) ∧ ARow w' base v L' ∧ w.grownBy w' v.ownBlock := by
  have eg : ∀ args w, (callFunc 20 args).run Try.prog w = .ok (.enter 20 args) w := enters_of Try.func20 (by kernel_rfl) rfl
  rcases own_shape h with ⟨rfl, hn⟩ | ⟨g, cap, rfl, _⟩
  · exact absurd (List.eq_nil_of_length_eq_zero hn) hne
  have hcon := AnyQ.slices_SortFunc_small_sorted Try.sortArt 3 Try.isAgg49 Try.sizeOf49 encA (fun _ => rfl) (fun x v hv => by simp [encA] at hv; rcases hv with rfl | rfl | rfl <;> rfl) cfA 20 #[] swoA g 0 cap L.toArray w eg (fun _ _ _ _ x y => closure_any x y _) (holds_row h) (h.lt g rfl).2 (by simpa using hl) len_any
  refine Calls.mono (hcon) ?_
  rintro e w' ⟨rfl, d', n, os, hp, hs, rfl⟩
  have hsz : d'.size = L.length := by simpa using hp.1
  have hd : d' = d'.toList.toArray := by simp
  refine ⟨rfl, d'.toList, ?_, ?_, ?_, ?_⟩
  · have := hp.2.2
    rw [List.size_toArray] at this
    rw [show (d'.extract 0 L.length) = d' by rw [← hsz]; exact Array.extract_size] at this
    simpa using this
  · rw [List.pairwise_iff_getElem]
    intro i j hi hj hij
    have h1 := hs i j (Nat.zero_le _) hij (by simpa [hsz] using hj)
    rw [getElem!_pos _ _ (by simpa using hj), getElem!_pos _ _ (by simpa using hi)] at h1
    have a1 : ¬ cfA _ _ < 0 := of_decide_eq_false h1
    unfold cfA at a1
    rw [Array.getElem_toList, Array.getElem_toList]
    omega
  · rw [hd]
    have := (row_sorted (n := n) (os := os) (L' := d'.toList) h (by simpa using hsz)).1
    simpa [hsz] using this
  · rw [hd]
    exact (row_sorted (n := n) (os := os) (L' := d'.toList) h (by simpa using hsz)).2

theorem sort_all {w : World} {base : Nat} {v : Value} {L : List AE} (h : ARow w base v L) (hl : L.length ≤ 12) :
    Calls Try.prog 19 #[v, .func (.func 20) #[] #[]] w fun e w' => e = .returned (.tuple #[]) ∧ ∃ L', L'.Perm L ∧ L'.Pairwise (fun a b => a.1.val ≤ b.1.val) ∧ ARow w' base v L' ∧ w.grownBy w' v.ownBlock := by
  by_cases hne : L = []
  · subst hne
    have hcon : ∀ p cap, Calls Try.prog 19 #[.slice p 0 cap, .func (.func 20) #[] #[]] w fun e w' => e = .returned (.tuple #[]) ∧ w' = w := fun p cap => AnyF.slices_SortFunc_none Try.sortArt p cap _ w
    rcases own_shape h with ⟨rfl, _⟩ | ⟨k, cap, rfl, _⟩
    all_goals
      refine (hcon _ _).mono ?_
      rintro e w' ⟨rfl, rfl⟩
      exact ⟨rfl, [], List.Perm.refl _, List.Pairwise.nil, h, only_refl _ _⟩
  · exact sort_any h hne hl
end Go.Proofs.Ytpnfdmglhonkmaa
