/- slices.Clip, slices.Clone at []string. -/
import Derived.Test.YtpnfdmglhonkmaaSnk
set_option maxRecDepth 100000
namespace Go.Proofs.Ytpnfdmglhonkmaa
open Go.RowKit Go.Maps

theorem info_strs : ∃ i, Try.prog.info? 9 = some i ∧ i.zero = some (.string ⟨#[]⟩) ∧ i.size = 1 ∧ i.bytes = 16 := info_split (by kernel_rfl)

theorem strsClip_any {v : Value} {l : List ByteArray} (w : World) (h : Strs w v l) :
    Calls Try.prog 17 #[v] w fun e w' => e = .returned (clipV v) ∧ w' = w := by
  rcases own_shape h with ⟨rfl, hn⟩ | ⟨k, cap, rfl, hc⟩
  · go_enter Try.func17, Try.ntmps17
    go_wp2
    go_ret
    exact ⟨rfl, rfl⟩
  · have hc1 : (l.length : Int) ≤ (cap : Int) := by omega
    generalize l.length = n at hc hc1
    clear h
    go_enter Try.func17, Try.ntmps17
    go_wp2
    go_ret
    exact ⟨rfl, rfl⟩

set_option maxHeartbeats 1000000 in
theorem strsClone_any {v : Value} {l : List ByteArray} (w : World) (h : Strs w v l) (hl : l.length < 1073741824) :
    Calls Try.prog 18 #[v] w fun e w' => ∃ v', e = .returned v' ∧ w'.ownsRow w.heap.size 9 1 v' l.length (l.map Value.string) ∧ Below w.heap.size w w' := by
  have hnil := fun (w : World) (a : Option Addr) (n c n' c' : Nat) => Lib.run_eql_slice_nil (P := Try.prog) w 26 9 a n c n' c' Try.underlying26
  rcases h.2 with ⟨rfl, hn⟩ | ⟨k, cap, cur, rfl, hb, hg, hc, hcm, hcs, htake⟩
  · have HN := Lib.hid hn
    clear h hl hn
    go_enter Try.func18, Try.ntmps18
    go_wp2
    go_ret
    have hl : l = [] := List.eq_nil_of_length_eq_zero HN.out
    subst hl
    exact ⟨_, rfl, World.ownsRow_nil _ _ _ _, Below.refl _ _⟩
  · obtain ⟨i, hi, hz, hsz, hby⟩ := info_strs
    have hown : (w.alloc (.cells #[] 9)).ownsRow w.heap.size 9 1 (.slice (some ⟨w.heap.size, 0, none⟩) 0 0) 0 [] :=
      ⟨rfl, .inr ⟨_, _, _, rfl, Nat.le_refl _, heap_alloc_new w _, Nat.le_refl _, Nat.zero_le _, rfl, rfl⟩⟩
    have hnews : ∀ j u, (l.map Value.string)[j]? = some u → (w.alloc (.cells #[] 9)).cell? ((⟨k, 0, none⟩ : Addr).add j) = some u := (h.alloc _).cells (g := k) rfl
    have HO := Lib.hid hown
    have HNW := Lib.hid hnews
    have HLEN := Lib.hid hl
    clear h hown hnews htake hcs hg hb hc hcm hl
    generalize hn : l.length = n at *
    have HL := Lib.hid hn
    clear hn
    go_enter Try.func18, Try.ntmps18
    go_wp2_with (first
      | (at_builtin; refine wpList_append_own_at (w := w.alloc (.cells #[] 9)) rfl _ _ _ rfl w.heap.size 9 i _ 1 16 Try.underlying26 hi hz hsz hby rfl (by decide) _ 0 [] rfl HO.out ⟨k, 0, none⟩ n cap (l.map Value.string) rfl (by simp [HL.out]) HNW.out (by intro u hu; obtain ⟨x, _, rfl⟩ := List.mem_map.1 hu; rfl) (by have := HLEN.out; unfold maxLen; omega) (by have := HLEN.out; omega) (by simp) ?_; intro v' w' ho hgr hnil hat)
      | fail)
    go_ret
    refine ⟨v', rfl, by simpa using ho, ?_⟩
    exact ((Below.refl _ w).alloc (Nat.le_refl _) _).grown hgr (by simp) fun j hj => by
      injection hj with hj
      exact Nat.le_of_eq hj
end Go.Proofs.Ytpnfdmglhonkmaa
