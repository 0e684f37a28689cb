/- prog.lines: the iterator over a text's lines (contracts). -/
import Derived.RangeFuncNested
import Derived.RangeFuncBound
import Derived.RangeFuncCalls
import Derived.RangeFuncLeaves
import Derived.Shelf.Abstract
import Derived.Shelf.RegionOpen
import Derived.WalkKit
import Derived.OwnWalkIn
import Derived.TacticsInMore
import Derived.LoopNIn
import Derived.LoopIn
import Derived.Test.YtiidkgdlngcpgaaGreatDoorKb
import Derived.Test.YtiidkgdlngcpgaaGreatDoorPn
import Derived.Test.YtiidkgdlngcpgaaGreatDoorQc
import Derived.Test.YtiidkgdlngcpgaaGreatDoorRfc
set_option maxRecDepth 100000
namespace Go.Proofs.YtiidkgdlngcpgaaGreatDoor
open Go.RowKit Go.Shelf Ieee
attribute [local go_sem] Oper.semAt_some

def encL (x : List UInt8 × Bool) : Array Value := #[.string (strOf x.1), .bool x.2]
def leftT (B0 : Nat) (w : World) : Nat := match w.cell? ⟨B0, 0, none⟩ with | some (.string b) => b.size | _ => 0
def flagN : Value → Nat | .bool true => 1 | _ => 0
theorem leftT_eq {w : World} {B0 : Nat} {l : List UInt8} {t : TypeId} (h : Cells w B0 t #[.string (strOf l)]) : leftT B0 w = l.length := by
  unfold leftT
  rw [h.cell (j := 0) rfl]
  exact ba_size l
theorem str_ne {l : List UInt8} (h : l ≠ []) : (strOf l).toList.isEmpty = false := by
  rw [str_toList]
  cases l with
  | nil => exact absurd rfl h
  | cons _ _ => rfl

theorem lines_any (S : ByteArray) (w : World) : Calls Tryz.prog 37 #[.string S] w fun e w' => e = .returned (.func (.func 74) #[] #[.pointer (some ⟨w.heap.size, 0, none⟩)]) ∧ w' = w.alloc (.cells #[.string S] 9) := by
  go_enter Tryz.func37, Tryz.ntmps37
  go_wp2
  go_ret
  exact ⟨rfl, rfl⟩

set_option maxHeartbeats 2000000 in
set_option maxRecDepth 100000 in
theorem lines1_seq (n : Nat) (hn : 1 ≤ n) (B0 : Nat) (text : List UInt8) (hl : text.length < 1073741824) (w : World) (hC : Cells w B0 9 #[.string (strOf text)]) :
    SeqC Fence.wide n Tryz.prog 74 #[.pointer (some ⟨B0, 0, none⟩)] encL B0 (fun xs => xs = yl true (spl 10 text)) (fun pre => pre <+: yl true (spl 10 text)) (yl true (spl 10 text)).length (fun x => x.1.length < 1073741824) w := fun l J Jx W hW hJ hJx hF hFx hY h0 => by
  refine callsIn_of_wp Tryz.func74 rfl trivial ?_ rfl
  simp only [Tryz.ntmps74, List.size_toArray, List.length_cons, List.length_nil, Nat.reduceAdd, Nat.reduceSub, Array.replicate_succ, Array.replicate_zero, List.push_toArray, List.append_toArray, List.nil_append, List.cons_append]
  have hC0 : Cells W B0 9 #[.string (strOf text)] := hC.keep hW
  gi_wp2
  gi_loopw [3] (fun p wr => ∃ (pre : List (List UInt8 × Bool)) (rest : List UInt8) (f : Bool), p = .bool f ∧ yl true (spl 10 text) = pre ++ yl f (spl 10 rest) ∧ rest.length ≤ text.length ∧ Cells wr B0 9 #[.string (strOf rest)] ∧ J pre wr) (fun p wr => leftT B0 wr + flagN p)
  case atStart => exact ⟨[], text, true, rfl, rfl, Nat.le_refl _, hC0, h0⟩
  case round =>
    obtain ⟨pre, rest, f, rfl, hy, hlen, hcell, hJs⟩ := hrel
    have HY := Lib.hid hY
    have HC := Lib.hid hcell
    have c0 : wr.cell? ⟨B0, 0, none⟩ = some (.string (strOf rest)) := hcell.cell (j := 0) rfl
    have HL0 := Lib.hid (leftT_eq hcell)
    by_cases hgo : f = true ∨ rest ≠ []
    · -- the line, what is left, whether it is ended
      obtain ⟨a, b, en, hc, hstep, hab, hal⟩ : ∃ a b en, cutT 10 rest = (a, b, en) ∧ yl f (spl 10 rest) = (a, en) :: yl false (spl 10 b) ∧ (b.length < rest.length ∨ (b = [] ∧ rest = [] ∧ f = true)) ∧ a.length ≤ rest.length := by
        rcases cutT_cases 10 rest with ⟨hc, hs⟩ | ⟨a, b, hc, hs, hab⟩
        · refine ⟨rest, [], false, hc, (yl_step f rest hgo).1 hs, ?_, Nat.le_refl _⟩
          by_cases hr : rest = []
          · exact .inr ⟨rfl, hr, hgo.elim id fun h => absurd hr h⟩
          · exact .inl (by have := List.length_pos_iff.2 hr; simpa using this)
        · exact ⟨a, b, true, hc, (yl_step f rest hgo).2 a b hs, .inl (by omega), by omega⟩
      have k := fun W => cutT_any 10 rest (by omega) W
      rw [hc] at k
      have HREL : Hid (yl true (spl 10 text) = (pre ++ [(a, en)]) ++ yl false (spl 10 b) ∧ b.length ≤ text.length ∧ pre.length < (yl true (spl 10 text)).length) := Lib.hid ⟨by rw [hy, hstep]; simp, by rcases hab with h | h; omega; rw [h.1]; simp, by rw [hy, hstep]; simp⟩
      have HAL := Lib.hid (show a.length < 1073741824 from by omega)
      have HPRE : Hid ((pre ++ [(a, en)]) <+: yl true (spl 10 text)) := Lib.hid ⟨_, HREL.out.1.symm⟩
      have HM : Hid (b.length + flagN (.bool false) < leftT B0 wr + flagN (.bool f)) := Lib.hid (by
        rw [HL0.out]
        rcases hab with h | ⟨h1, h2, h3⟩
        · show b.length + 0 < _; omega
        · rw [h1, h2, h3]; decide)
      have HY2 : Hid (∀ k, J pre (wr.drewN k)) := Lib.hid fun k => hJ pre wr (wr.drewN k) none hJs (only_drewN (only_refl wr none) k) (fun r e => by cases e)
      have t1 : f = false → (strOf rest).toList.isEmpty = false := fun h => str_ne (hgo.elim (fun h2 => by rw [h] at h2; cases h2) id)
      have HB : Hid (∀ W' v, Cells W' B0 9 #[.string (strOf rest)] → Cells (W'.setCell ⟨B0, 0, none⟩ v) B0 9 #[v]) := Lib.hid fun W' v h => h.set 0 v
      clear hgo hc hstep hab hal hy hlen hJs hcell hC0 h0
      generalize hSr : strOf rest = Sr at *
      clear hSr
      cases f
      all_goals (try have t2 := t1 rfl)
      all_goals clear t1
      all_goals gi_wp2_with (refine ⟨trivial, ?_⟩; gi_at_call 75; refine (callsIn_wide.2 (k _)).mono ?_; rintro _ _ ⟨rfl, kk, rfl⟩; obtain ⟨f1, tm1, a1, b1, hy1, hR1⟩ := HY.out pre (a, en) (wr.drewN kk) HAL.out (HY2.out kk) HREL.out.2.2; dsimp only [encL] at hy1)
      all_goals refine hR1.mono ?_
      all_goals rintro e W' (⟨rfl, hJ', hk⟩ | ⟨rfl, hJx'⟩)
      · have hc' : Cells W' B0 9 #[.string Sr] := hk.trans HC.out
        have c1 := hc'.cell (j := 0) rfl
        have z1 := hc'.fz 0
        gi_wp2
        go_roundw
        case rel => exact ⟨pre ++ [(a, en)], b, false, rfl, HREL.out.1, HREL.out.2.1, hc'.set 0 _, hF _ _ _ hJ'⟩
        case measure => rw [leftT_eq (hc'.set 0 _)]; exact HM.out
      · gi_wp2
        refine bodyPost_ret (results_none rfl _ _ _) rfl ?_
        exact ⟨⟨_, rfl⟩, .inr ⟨pre ++ [(a, en)], HPRE.out, hJx'⟩⟩
      · have hc' : Cells W' B0 9 #[.string Sr] := hk.trans HC.out
        have c1 := hc'.cell (j := 0) rfl
        have z1 := hc'.fz 0
        gi_wp2
        go_roundw
        case rel => exact ⟨pre ++ [(a, en)], b, false, rfl, HREL.out.1, HREL.out.2.1, hc'.set 0 _, hF _ _ _ hJ'⟩
        case measure => rw [leftT_eq (hc'.set 0 _)]; exact HM.out
      · gi_wp2
        refine bodyPost_ret (results_none rfl _ _ _) rfl ?_
        exact ⟨⟨_, rfl⟩, .inr ⟨pre ++ [(a, en)], HPRE.out, hJx'⟩⟩
    · obtain rfl : f = false := by cases f; rfl; exact absurd (.inl rfl) hgo
      obtain rfl : rest = [] := Classical.byContradiction fun h => hgo (.inr h)
      have he : yl true (spl 10 text) = pre := by rw [hy, yl_end, List.append_nil]
      gi_wp2
      go_end0
      exact ⟨⟨_, rfl⟩, .inl ⟨pre, he.symm, hJs⟩⟩
end Go.Proofs.YtiidkgdlngcpgaaGreatDoor
