/- Messages compared. -/
import Derived.Test.YtpnfdmglhonkmaaNamed
import Derived.WalkLawsBesides
set_option maxRecDepth 100000
namespace Go.Proofs.Ytpnfdmglhonkmaa
open Go.RowKit

theorem bytes_inj {a b : ByteArray} (h : a.toList = b.toList) : a = b := by
  rw [ByteArray.toList_eq, ByteArray.toList_eq] at h
  exact ByteArray.ext (Array.toList_inj.1 h)

theorem empty_list : (⟨#[]⟩ : ByteArray).toList = [] := by rw [ByteArray.toList_eq]

theorem msg_eql (m n : Mg) (w : World) : (binOp .eql 61 m.val n.val).run Try.prog w = .ok (.bool (decide (m = n))) w := by
  simp [go_sem]
  by_cases h : m = n
  · subst h
    simp
  · rw [decide_eq_false h]
    repeat' split
    all_goals first | rfl | skip
    exfalso
    apply h
    cases m
    cases n
    simp only at *
    simp only [Mg.mk.injEq]
    refine ⟨?_, ?_, ?_, ?_, ?_, ?_, ?_, ?_, ?_, bytes_inj ?_, bytes_inj ?_⟩ <;> assumption
end Go.Proofs.Ytpnfdmglhonkmaa
