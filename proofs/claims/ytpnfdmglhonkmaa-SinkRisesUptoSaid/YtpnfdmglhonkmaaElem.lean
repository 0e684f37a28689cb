/- Rows of elements of several cells; maps whose elements are told as they are. -/
import Derived.Maps.OwnSet
import Derived.Maps.RangeWalk
import Derived.Deep.Onto
import Derived.Laws.OwnMore
import Derived.Maps.AppendAt
import Derived.Test.YtpnfdmglhonkmaaMb
set_option maxRecDepth 100000
namespace Go.Proofs.Ytpnfdmglhonkmaa
open Go.RowKit Go.Maps

theorem info_split {o : Option TypeInfo} {z : Value} {s b : Nat} (h : (o.map fun i => (i.zero, i.size, i.bytes)) = some (some z, s, b)) : ∃ i, o = some i ∧ i.zero = some z ∧ i.size = s ∧ i.bytes = b := by
  cases o with
  | none => simp at h
  | some i =>
    simp at h
    exact ⟨i, rfl, h.1, h.2.1, h.2.2⟩

theorem own_block_type {w : World} {base : Nat} {t : TypeId} {size : Nat} {v : Value} {n : Nat} {xs : List Value} {g : Nat} (h : w.ownsRow base t size v n xs) (hv : v.ownBlock = some g) : ∃ cur, w.heap[g]? = some (.cells cur t (0, 0)) := by
  rcases h.2 with ⟨rfl, _⟩ | ⟨g', cap, cur, rfl, _, hh, _⟩
  · simp [Value.ownBlock] at hv
  · simp [Value.ownBlock] at hv
    subst hv
    exact ⟨cur, hh⟩

theorem block_ne {w : World} {t t' : TypeId} {c c' : Array Value} {g g' : Nat} (h : w.heap[g]? = some (.cells c t (0, 0))) (h' : w.heap[g']? = some (.cells c' t' (0, 0))) (hne : t ≠ t') : g ≠ g' := by
  rintro rfl
  rw [h] at h'
  injection h' with h'
  injection h' with _ ht
  exact hne ht

theorem block_ne_map {w : World} {t : TypeId} {c : Array Value} {g g' : Nat} {es : Array MapEntry} {n : Nat} (h : w.heap[g]? = some (.cells c t (0, 0))) (h' : w.heap[g']? = some (.map es n)) : g ≠ g' := by
  rintro rfl
  rw [h] at h'
  cases h'

/-- append(s, u): u, of so many cells, lies in the newest block -/
theorem wpList_append_elem {P : Program} {w : World} {ops : Array Oper} {rest : List Oper} {o : Oper} {a : Act} {Q : Exit → Act → World → Prop} (hgd : o.guard = none) (s x : Operand) (t : TypeId)
    (ho : o.op = .call { callee := .builtin .append, args := #[s, x], argTypes := #[t, t] })
    (base : Nat) (e : TypeId) (i : TypeInfo) (z : Value) (size bytes : Nat) (ht : P.underlying t = some (.slice e)) (hi : P.info? e = some i) (hz : i.zero = some z)
    (hsize : i.size = size) (hby : i.bytes = bytes) (hzs : z.cells.size = size) (hsz : 0 < size)
    (v : Value) (n : Nat) (xs : List Value) (hs : a.eval s = v) (hown : w.ownsRow base e size v n xs) (us : Array Value) (hus : us.size = size) (h1 : ∀ u ∈ us.toList, u.oneCell' = true)
    (hx : a.eval x = .slice (some ⟨w.heap.size, 0, none⟩) 1 1) (hn : n < 1073741824) (hbytes : bytes ≤ 4096) (hbase : base ≤ w.heap.size)
    (h : ∀ v' w', w'.ownsRow base e size v' (n + 1) (xs ++ us.toList) → w.grownBy w' v.ownBlock → (v'.ownBlock = v.ownBlock ∨ ∃ k, v'.ownBlock = some k ∧ w.heap.size ≤ k) → wpList P ops Q rest (a.put o.dst v') w') :
    wpList P ops Q (o :: rest) a (w.alloc (.cells us e)) := by
  refine wpList_append_own_at (w := w.alloc (.cells us e)) hgd s x t ho base e i z size bytes ht hi hz hsize hby hzs hsz v n xs hs (hown.alloc _) ⟨w.heap.size, 0, none⟩ 1 1 us.toList hx (by simp [hus]) ?_ h1 ?_ ?_ ?_ ?_
  · intro j u hj
    have := World.cell?_alloc_mark w us e (0, 0) j
    rw [Array.getElem?_toList] at hj
    rw [← hj, ← this]
    by_cases hj0 : j = 0
    · subst hj0
      rfl
    · simp [Addr.add, hj0]
  · unfold maxLen; omega
  · calc (n + 1) * bytes ≤ 1073741824 * 4096 := Nat.mul_le_mul (by omega) hbytes
      _ ≤ _ := by decide
  · simp; omega
  · intro v' w' ho' hg _ hat
    have hg0 : w.grownBy w' v.ownBlock := by
      have ha := World.grownBy_alloc w (.cells us e) v.ownBlock
      exact ⟨hg.os.trans ha.os, hg.tape.trans ha.tape, hg.output.trans ha.output, Nat.le_trans ha.size hg.size, fun k hk hne => (hg.block k (Nat.lt_of_lt_of_le hk ha.size) hne).trans (ha.block k hk hne)⟩
    refine h v' w' ho' hg0 ?_
    rcases hat with hat | hat
    · exact .inl hat
    · exact .inr ⟨_, hat, by simp⟩

/-- .. where the newest block's number is written otherwise -/
theorem wpList_append_elem' {P : Program} {w : World} {ops : Array Oper} {rest : List Oper} {o : Oper} {a : Act} {Q : Exit → Act → World → Prop} (hgd : o.guard = none) (s x : Operand) (t : TypeId)
    (ho : o.op = .call { callee := .builtin .append, args := #[s, x], argTypes := #[t, t] })
    (base : Nat) (e : TypeId) (i : TypeInfo) (z : Value) (size bytes : Nat) (ht : P.underlying t = some (.slice e)) (hi : P.info? e = some i) (hz : i.zero = some z)
    (hsize : i.size = size) (hby : i.bytes = bytes) (hzs : z.cells.size = size) (hsz : 0 < size)
    (v : Value) (n : Nat) (xs : List Value) (hs : a.eval s = v) (hown : w.ownsRow base e size v n xs) (us : Array Value) (hus : us.size = size) (h1 : ∀ u ∈ us.toList, u.oneCell' = true)
    (k : Nat) (hx : a.eval x = .slice (some ⟨k, 0, none⟩) 1 1) (hk : k = w.heap.size) (hn : n < 1073741824) (hbytes : bytes ≤ 4096) (hbase : base ≤ w.heap.size)
    (h : ∀ v' w', w'.ownsRow base e size v' (n + 1) (xs ++ us.toList) → w.grownBy w' v.ownBlock → (v'.ownBlock = v.ownBlock ∨ ∃ k, v'.ownBlock = some k ∧ w.heap.size ≤ k) → wpList P ops Q rest (a.put o.dst v') w') :
    wpList P ops Q (o :: rest) a (w.alloc (.cells us e)) := by
  subst hk
  exact wpList_append_elem hgd s x t ho base e i z size bytes ht hi hz hsize hby hzs hsz v n xs hs hown us hus h1 hx hn hbytes hbase h

/-- slices.Clip -/
def clipV : Value → Value
  | .slice a n _ => .slice a n n
  | v => v

/-- append(slices.Clip(s), u) lays a row anew -/
theorem wpList_append_clip {P : Program} {w : World} {ops : Array Oper} {rest : List Oper} {o : Oper} {a : Act} {Q : Exit → Act → World → Prop} (hgd : o.guard = none) (s x : Operand) (t : TypeId)
    (ho : o.op = .call { callee := .builtin .append, args := #[s, x], argTypes := #[t, t] })
    (e : TypeId) (i : TypeInfo) (z : Value) (size bytes : Nat) (ht : P.underlying t = some (.slice e)) (hi : P.info? e = some i) (hz : i.zero = some z)
    (hsize : i.size = size) (hby : i.bytes = bytes) (hzs : z.cells.size = size) (hsz : 0 < size)
    (base : Nat) (v : Value) (n : Nat) (xs : List Value) (hs : a.eval s = clipV v) (hown : w.ownsRow base e size v n xs) (us : Array Value) (hus : us.size = size) (h1 : ∀ u ∈ us.toList, u.oneCell' = true)
    (hx : a.eval x = .slice (some ⟨w.heap.size, 0, none⟩) 1 1) (hn : n < 1073741824) (hbytes : bytes ≤ 4096)
    (h : ∀ v' w', w'.ownsRow w.heap.size e size v' (n + 1) (xs ++ us.toList) → Below w.heap.size w w' → wpList P ops Q rest (a.put o.dst v') w') :
    wpList P ops Q (o :: rest) a (w.alloc (.cells us e)) := by
  subst hsize
  subst hby
  have hb2 : (n + 1) * i.bytes ≤ 140737488355328 := by
    calc (n + 1) * i.bytes ≤ 1073741824 * 4096 := Nat.mul_le_mul (by omega) hbytes
      _ ≤ _ := by decide
  have hnews : ∀ j u, us.toList[j]? = some u → (w.alloc (.cells us e)).cell? ((⟨w.heap.size, 0, none⟩ : Addr).add j) = some u := by
    intro j u hj
    have := World.cell?_alloc_mark w us e (0, 0) j
    rw [Array.getElem?_toList] at hj
    rw [← hj, ← this]
    by_cases hj0 : j = 0
    · subst hj0
      rfl
    · simp [Addr.add, hj0]
  refine wpList_plain hgd fun K hK => ?_
  unfold Oper.wp execOp
  have hlen : (xs ++ us.toList).length = (n + 1) * i.size := by rw [List.length_append, hown.1, Array.length_toList, hus, Nat.add_mul, Nat.one_mul]
  rcases hown.2 with ⟨rfl, rfl⟩ | ⟨g, cap, cur, rfl, hbg, hg, hnc, hcm, hcs, htake⟩
  · have hx0 : xs = [] := List.eq_nil_of_length_eq_zero (by simpa using hown.1)
    subst hx0
    have hr := run_append_nil (P := P) (w.alloc (.cells us e)) t o.type e i z ht hi hz ⟨w.heap.size, 0, none⟩ 1 1 us.toList (by simp [hus]) hnews (by omega) (by omega) (by omega)
    simp only [ho, resolve, invoke, builtin, Sem.run_bind, Sem.run_pure, Result.andThen_ok, List.map_toArray, List.map_cons, List.map_nil, hs, hx, clipV, hr]
    have hge := grownCap_ge (w.alloc (.cells us e)) 1 0 e
    have hcm : grownCap (w.alloc (.cells us e)) 1 0 e ≤ maxLen := grownCap_le_maxLen _ 1 0 e (by decide)
    refine hK _ _ (h _ _ ⟨hlen, .inr ⟨_, _, _, rfl, by simp, heap_alloc_new _ _, by simpa using hge, hcm, ?_, ?_⟩⟩ ?_)
    · simp only [Array.size_append, size_zeroCells, hzs, hus]
      rw [← Nat.succ_sub_one (grownCap _ _ _ _), Nat.add_comm, Nat.succ_sub_one, ← Nat.succ_mul]
      congr 1
      omega
    · simp only [Array.toList_append]
      rw [← hlen]
      simp
    · exact (((Below.refl _ _).alloc (Nat.le_refl _) _).drew).alloc (by simp) _
  · have holds : ∀ j u, xs[j]? = some u → (w.alloc (.cells us e)).cell? ((⟨g, 0, none⟩ : Addr).add j) = some u := (hown.alloc _).cells (g := g) rfl
    have hr := run_append_grow (P := P) (w.alloc (.cells us e)) t o.type e i z ht hi hz ⟨g, 0, none⟩ n n xs hown.1 holds ⟨w.heap.size, 0, none⟩ 1 1 us.toList (by simp [hus]) hnews (by omega) (by omega) (growslice_fits (by omega) hb2)
    simp only [ho, resolve, invoke, builtin, Sem.run_bind, Sem.run_pure, Result.andThen_ok, List.map_toArray, List.map_cons, List.map_nil, hs, hx, clipV, hr]
    have hge := grownCap_ge (w.alloc (.cells us e)) (n + 1) n e
    have hcm : grownCap (w.alloc (.cells us e)) (n + 1) n e ≤ maxLen := grownCap_le_maxLen _ _ n e (by unfold maxLen; omega)
    refine hK _ _ (h _ _ ⟨hlen, .inr ⟨_, _, _, rfl, by simp, heap_alloc_new _ _, hge, hcm, ?_, ?_⟩⟩ ?_)
    · simp only [Array.size_append, List.size_toArray, size_zeroCells, hzs, hus, hown.1]
      rw [← Nat.succ_mul, ← Nat.add_mul]
      congr 1
      omega
    · simp only [Array.toList_append, List.append_assoc]
      rw [← List.append_assoc, ← hlen]
      exact List.take_left
    · exact (((Below.refl _ _).alloc (Nat.le_refl _) _).drew).alloc (by simp) _

/-- the elements of a map, told as they are -/
abbrev RH : Value → Option (DataW Value × List MemPlace) := fun v => some (.held v, [])

theorem few_ints : ∀ (n : Nat) (l : List Int), l.Nodup → (∀ x ∈ l, 1 ≤ x ∧ x ≤ (n : Int)) → l.length ≤ n
  | 0, l, _, h => by
    cases l with
    | nil => simp
    | cons a r =>
      have := h a (by simp)
      omega
  | n + 1, l, hn, h => by
    by_cases hm : ((n + 1 : Nat) : Int) ∈ l
    · have h1 := few_ints n (l.erase ((n + 1 : Nat) : Int)) (hn.erase _) (fun x hx => by
        have hx2 := (hn.mem_erase_iff).1 hx
        have := h x hx2.2
        have hne := hx2.1
        omega)
      rw [List.length_erase_of_mem hm] at h1
      omega
    · have h1 := few_ints n l hn (fun x hx => by
        have := h x hx
        have hne : x ≠ ((n + 1 : Nat) : Int) := fun e => hm (e ▸ hx)
        omega)
      omega
def litInt : Lit → Int
  | .int _ x => x
  | _ => 0
theorem few_keys (l : List (Lit × DataW Value)) (ha : l.Pairwise (fun p q => p.1 ≠ q.1)) (hk : ∀ p ∈ l, ∃ x : Int, p.1 = .int .i64 x ∧ 1 ≤ x ∧ x ≤ 8) : l.length ≤ 8 := by
  have := few_ints 8 (l.map fun p => litInt p.1) ?_ ?_
  · simpa using this
  · refine List.pairwise_map.2 (ha.imp_of_mem fun {p q} hp hq hne e => hne ?_)
    obtain ⟨x, hx, _⟩ := hk p hp
    obtain ⟨y, hy, _⟩ := hk q hq
    rw [hx, hy] at e ⊢
    rw [show x = y from e]
  · intro x hx
    obtain ⟨p, hp, rfl⟩ := List.mem_map.1 hx
    obtain ⟨x, hx, h1, h2⟩ := hk p hp
    rw [hx]
    exact ⟨h1, h2⟩

/-- block b is a map over ints: f -/
def MapAt (P : Program) (k : TypeId) (w : World) (b : Nat) (f : Int → Option Value) : Prop :=
  ∃ n D, w.ownsMap P k RH b n D ∧ (∀ j, (Lit.int .i64 j).wf = true → Maps.has D (.int .i64 j) = (f j).isSome) ∧ ∀ j v z, (Lit.int .i64 j).wf = true → f j = some v → D.atKey (.int .i64 j) z = .held v

section
variable {P : Program} {k : TypeId} {w w' : World} {b : Nat} {f : Int → Option Value}

theorem MapAt.made (w : World) (P : Program) (k : TypeId) : MapAt P k (w.alloc (.map #[] 0)) w.heap.size (fun _ => none) :=
  ⟨0, .map [], World.ownsMap_made w P k RH, fun _ _ => rfl, fun _ _ _ _ h => by cases h⟩

theorem MapAt.lt (h : MapAt P k w b f) : b < w.heap.size := by
  obtain ⟨n, D, h, _⟩ := h
  exact h.lt
theorem MapAt.isMap (h : MapAt P k w b f) : ∃ es n, w.heap[b]? = some (.map es n) := by
  obtain ⟨n, D, ⟨es, clock, h, _⟩, _⟩ := h
  exact ⟨es, clock, h⟩
theorem MapAt.kept {row : Option Nat} (h : MapAt P k w b f) (hg : w.grownBy w' row) (hne : some b ≠ row) : MapAt P k w' b f := by
  obtain ⟨n, D, h, h1, h2⟩ := h
  exact ⟨n, D, h.kept hg hne, h1, h2⟩
theorem MapAt.block (h : MapAt P k w b f) (hb : w'.heap[b]? = w.heap[b]?) : MapAt P k w' b f := by
  obtain ⟨n, D, ⟨es, clock, hh, rest⟩, h1, h2⟩ := h
  exact ⟨n, D, ⟨es, clock, hb.trans hh, rest⟩, h1, h2⟩

/-- m[j] -/
theorem MapAt.look {t e : TypeId} {z : Value} (h : MapAt P k w b f) (hk : P.underlying k = some (.int .i64)) (ht : P.underlying t = some (.map k e)) (hz : (zeroValue e).run P w = .ok z w) {j : Int} (hj : (Lit.int .i64 j).wf = true) :
    (Instr.lookup t (.map (some b)) (.int .i64 j) false).run P w = .ok ((f j).getD z) w ∧ (Instr.lookup t (.map (some b)) (.int .i64 j) true).run P w = .ok (.tuple #[(f j).getD z, .bool (f j).isSome]) w := by
  obtain ⟨n, D, h, h1, h2⟩ := h
  have K := int_keyed hk
  have hkey := keyOf_int_mk hk hj
  obtain ⟨v, ps, hrun, hv⟩ := h.lookup K ht hz (zd := .held z) (zp := []) rfl hkey
  obtain ⟨v', ps', hrun', hv'⟩ := h.look_ok K ht hz (zd := .held z) (zp := []) rfl hkey
  rw [h1 j hj] at hrun'
  have e0 : ∀ u qs, RH u = some (D.atKey (.int .i64 j) (.held z), qs) → u = (f j).getD z := by
    intro u qs hu
    simp only [RH, Option.some.injEq, Prod.mk.injEq] at hu
    cases hf : f j with
    | none =>
      have hh := h1 j hj
      rw [hf] at hh
      rw [Maps.atKey_of_not_has hh] at hu
      injection hu.1
    | some x =>
      rw [h2 j x _ hj hf] at hu
      injection hu.1
  rw [e0 v ps hv] at hrun
  rw [e0 v' ps' hv'] at hrun'
  exact ⟨hrun, hrun'⟩

/-- m[j] = v -/
theorem MapAt.store {t e : TypeId} (h : MapAt P k w b f) (hk : P.underlying k = some (.int .i64)) (ht : P.underlying t = some (.map k e)) (hf : ∀ j v, f j = some v → 1 ≤ j ∧ j ≤ 8) {j : Int} (hj : (Lit.int .i64 j).wf = true) (v : Value) :
    ∃ w', (Instr.mapUpdate t (.map (some b)) (.int .i64 j) v).run P w = .ok () w' ∧ MapAt P k w' b (fun i => if i = j then some v else f i) ∧ w.grownBy w' (some b) ∧ w'.heap.size = w.heap.size := by
  obtain ⟨n, D, h, h1, h2⟩ := h
  have K := int_keyed hk
  have hkey := keyOf_int_mk hk hj
  have hsize : Maps.size D ≤ 8 := by
    obtain ⟨es, clock, hh, F, hn, rfl⟩ := h
    have hap := Maps.fit_apart K F
    have hkeys : ∀ p ∈ es.toList.map (Go.WideElems.rg P k RH), ∃ x : Int, p.1 = .int .i64 x ∧ 1 ≤ x ∧ x ≤ 8 := by
      intro p hp
      obtain ⟨x, hx, rfl⟩ := List.mem_map.1 hp
      obtain ⟨y, hy⟩ := F.reads x hx
      obtain ⟨u, _, hu, hwf⟩ := Maps.keyOf_int_inv hk (Go.WideElems.rd_key hy)
      have hr := Go.WideElems.rg_of hy
      have hhas : Maps.has (DataW.map ((es.toList.map (Go.WideElems.rg P k RH)).foldr DataW.insert [])) (.int .i64 u) = true := by
        refine List.any_eq_true.2 ⟨Go.WideElems.rg P k RH x, mem_sorted.2 (List.mem_map.2 ⟨x, hx, rfl⟩), ?_⟩
        rw [hr, hu]
        simp [Lit.sameKey]
      rw [h1 u hwf] at hhas
      obtain ⟨v, hv⟩ := Option.isSome_iff_exists.1 hhas
      exact ⟨u, by rw [hr, hu], hf u v hv⟩
    have : Maps.size (DataW.map ((es.toList.map (Go.WideElems.rg P k RH)).foldr DataW.insert [])) = (es.toList.map (Go.WideElems.rg P k RH)).length := by
      simp [Maps.size, length_sorted]
    rw [this]
    have hl := few_keys (es.toList.map (Go.WideElems.rg P k RH)) hap hkeys
    simpa using hl
  have h' : w.ownsMap P k RH b (Maps.size D) D := by
    obtain ⟨es, clock, hh, F, hn, rfl⟩ := h
    exact ⟨es, clock, hh, F, by simp [Maps.size, length_sorted], rfl⟩
  obtain ⟨w', hrun, ho, hm⟩ := h'.store K ht (by unfold maxLen; omega) (val := v) hkey rfl
  have hD := h.isMap
  have hkl := K.key hkey
  refine ⟨w', hrun, ⟨_, _, ho, ?_, ?_⟩, hm.grown, ?_⟩
  · intro i hi
    by_cases e1 : i = j
    · subst e1
      rw [Maps.has_put_same hD hkl]
      simp
    · rw [Maps.has_put_other (fun e2 => e1 (by injection e2)), h1 i hi]
      simp [e1]
  · intro i v' z hi hv'
    by_cases e1 : i = j
    · subst e1
      rw [Maps.atKey_put_same hD hkl]
      simp at hv'
      rw [hv']
    · simp only [if_neg e1] at hv'
      rw [Maps.atKey_put_other (fun e2 => e1 (by injection e2)), h2 i v' z hi hv']
  · obtain ⟨es, clock, es', clock', hb, rfl⟩ := hm
    simp [ChangeMaps.setBlock]
end
end Go.Proofs.Ytpnfdmglhonkmaa
