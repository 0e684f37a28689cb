/- awake of gafferlaw16: the calls whose answers the document fixes. -/
import Derived.Deep.DeepCutAuto
import Derived.Test.YtpnfdmglhonkmaaHear
import Derived.Test.YtpnfdmglhonkmaaArtefacts
set_option maxRecDepth 100000
namespace Go.Proofs.Ytpnfdmglhonkmaa
open Go.RowKit Go.Maps

def txA : ByteArray := ⟨#[97]⟩
def sk1 : Snk := Snk.none.put 1 5 0 ⟨#[]⟩
def sk2 : Snk := sk1.put 1 5 1 ⟨#[97]⟩
def hm6 : Mg := ⟨6, 0, 0, 1, 4, 0, 0, 0, 0, ⟨#[]⟩, ⟨#[]⟩⟩

theorem sk_a : Snk.none.said 1 5 0 ⟨#[]⟩ = 1 ∧ Snk.none.new 1 5 0 ⟨#[]⟩ = true ∧ Snk.none.err 1 5 0 ⟨#[]⟩ = 0 := by decide
theorem sk_b : sk1.said 1 5 1 ⟨#[97]⟩ = 2 ∧ sk1.new 1 5 1 ⟨#[97]⟩ = true ∧ sk1.err 1 5 1 ⟨#[97]⟩ = 0 := by decide
theorem sk_c : sk2.said 1 4 0 ⟨#[]⟩ = 0 ∧ sk2.new 1 4 0 ⟨#[]⟩ = false ∧ sk2.err 1 4 0 ⟨#[]⟩ = 161 := by decide
theorem sk_d : sk2.said 0 5 0 ⟨#[]⟩ = 0 ∧ sk2.new 0 5 0 ⟨#[]⟩ = false ∧ sk2.err 0 5 0 ⟨#[]⟩ = 160 := by decide
theorem sk_e : sk2.said 1 5 3 ⟨#[]⟩ = 0 ∧ sk2.new 1 5 3 ⟨#[]⟩ = false ∧ sk2.err 1 5 3 ⟨#[]⟩ = 162 := by decide
theorem sk_f : sk2.said 1 5 0 ⟨#[120]⟩ = 0 ∧ sk2.new 1 5 0 ⟨#[120]⟩ = false ∧ sk2.err 1 5 0 ⟨#[120]⟩ = 163 := by decide
theorem put_not {s : Snk} {j b i : Int} {t : ByteArray} (h : s.new j b i t = false) : s.put j b i t = s := by unfold Snk.put; rw [h]; rfl
theorem sk_jobs : sk2.jobs = [1] := by decide
theorem sk_art : sk2.art 1 = some ⟨5, [⟨#[97]⟩]⟩ := by rfl
theorem sk_news : sk2.news.length = 2 := by decide

theorem hm_check : hm6.check = 0 := by decide
theorem hm_fit : hm6.Fit := by constructor <;> decide
theorem hm_bytes : str hm6.bytes = ⟨#[6, 1, 4, 0, 0]⟩ := by
  have h : hm6.bytes = vb 6 ++ ((vb 1) ++ ((vb 4) ++ ((vb 0) ++ ((vb 0 ++ []) ++ [])))) := rfl
  rw [h, vb_lt (by decide), vb_lt (by decide), vb_lt (by decide), vb_lt (by decide)]
  rfl
theorem hm_decode : decode ⟨#[6, 1, 4, 0, 0]⟩ = (hm6, 0) := by
  rw [← hm_bytes]
  exact decode_bytes hm_fit hm_check
theorem hm_heard : sk2.heard ⟨#[6, 1, 4, 0, 0]⟩ = sk2 := by
  unfold Snk.heard
  rw [hm_decode, if_pos (by decide)]
  exact put_not sk_c.2.1
def hmR : Mg := ⟨16, 0, 0, 1, 4, 0, 0, 0, 0, ⟨#[]⟩, ⟨#[]⟩⟩
theorem hm_reply : sk2.reply ⟨#[6, 1, 4, 0, 0]⟩ = some hmR := by
  unfold Snk.reply
  rw [hm_decode, if_pos (by decide)]
  unfold Snk.answer
  rw [if_pos (show sk2.err (hm6, (0 : Int)).1.job (hm6, (0 : Int)).1.badge (hm6, (0 : Int)).1.idx (hm6, (0 : Int)).1.text = 161 from sk_c.2.2)]
  rfl
theorem hm_out : hmR.out = ⟨#[16, 1, 4]⟩ := by
  unfold Mg.out
  rw [if_pos (by decide)]
  have h : hmR.bytes = vb 16 ++ ((vb 1) ++ ((vb 4) ++ [])) := rfl
  rw [h, vb_lt (by decide), vb_lt (by decide), vb_lt (by decide)]
  rfl

/-- a sink of the call's own has s -/
def AwS (w w' : World) (g bm : Nat) (nv : Value) (s : Snk) : Prop := SnkAt w' g bm nv s ∧ (Below w.heap.size w w' ∧ w.heap.size ≤ g ∧ w.heap.size ≤ bm ∧ ∀ k, nv.ownBlock = some k → w.heap.size ≤ k) ∧ s.news.length ≤ 2

theorem own_base {w : World} {base g bm : Nat} {nv : Value} (hg : base ≤ g) (hb : base ≤ bm) (hn : ∀ k, nv.ownBlock = some k → base ≤ k) : ∀ x ∈ ownBlocks g bm nv, base ≤ x := by
  intro x hx
  simp only [ownBlocks, List.mem_cons] at hx
  rcases hx with rfl | rfl | hx
  · exact hg
  · exact hb
  · cases hk : nv.ownBlock with
    | none => rw [hk] at hx; simp at hx
    | some k =>
      rw [hk] at hx
      simp at hx
      subst hx
      exact hn _ hk

theorem aw_step {w w1 w2 : World} {g bm : Nat} {nv nv' : Value} {s s' : Snk} (h : AwS w w1 g bm nv s) (hs : SnkAt w2 g bm nv' s') (hl : nv'.ownBlock = nv.ownBlock ∨ ∃ k, nv'.ownBlock = some k ∧ w1.heap.size ≤ k) (ht : Turns (ownBlocks g bm nv) w1 w2) (hn : s'.news.length ≤ 2) : AwS w w2 g bm nv' s' := by
  obtain ⟨h1, ⟨h2, h3, h4, h5⟩, h6⟩ := h
  refine ⟨hs, ⟨h2.trans (ht.below h2.size (own_base (w := w) h3 h4 h5)), h3, h4, fun k hk => ?_⟩, hn⟩
  rcases hl with hl | ⟨j, hj, hj2⟩
  · exact h5 k (hl ▸ hk)
  · rw [hj] at hk
    injection hk with hk
    have := h2.size
    omega

theorem cell_turns {w w' : World} {S : List Nat} {k i : Nat} {v : Value} (ht : Turns S w w') (h : w.cell? ⟨k, i, none⟩ = some v) (hk : k ∉ S) : w'.cell? ⟨k, i, none⟩ = some v := by
  have hb := ht.block k (World.block_lt_of_cell? w _ h) hk
  unfold World.cell? at h ⊢
  rw [hb]
  exact h

theorem aw_arts {w : World} {base : Nat} {v : Value} {L : List AE} (h : ArtsOut w base v L sk2) : ∃ gl cl gp cp, v = .slice (some ⟨gl, 0, none⟩) 1 cl ∧ w.cell? ⟨gl, 1, none⟩ = some (.int .i64 5) ∧ w.cell? ⟨gl, 2, none⟩ = some (.slice (some ⟨gp, 0, none⟩) 1 cp) ∧ w.cell? ⟨gp, 0, none⟩ = some (.string ⟨#[97]⟩) ∧ base ≤ gl ∧ base ≤ gp := by
  have hj := h.jobs
  rw [sk_jobs] at hj
  obtain ⟨x, rfl⟩ : ∃ x, L = [x] := List.length_eq_one_iff.1 (by simpa using congrArg List.length hj)
  have hx : x.1 = 1 := by simpa using hj
  obtain ⟨a, e1, e2, e3⟩ := h.each x (by simp)
  rw [hx] at e1
  have e1' : sk2.art 1 = some a := e1
  rw [sk_art] at e1'
  injection e1' with e1'
  subst e1'
  have hr := h.row
  rcases hr.2 with ⟨_, hn⟩ | ⟨gl, cl, cur, rfl, hb, hg, _⟩
  · simp at hn
  rcases e3.2 with ⟨_, hn⟩ | ⟨gp, cp, cur', hv, hb', hg', _⟩
  · simp at hn
  injection hv with hv1 hv2 hv3
  refine ⟨gl, cl, gp, x.2.2.2.2, rfl, ?_, ?_, ?_, hb, hb'⟩
  · have := hr.cellAt 1 (by simp)
    rw [this]
    simp [encA, e2]
  · have := hr.cellAt 2 (by simp)
    rw [this]
    simp [encA, hv1, hv2]
  · have hrow := e3
    rw [hv1, hv2] at hrow
    exact hrow.cellAt 0 (by decide)

set_option maxHeartbeats 8000000 in
theorem awake_any (w : World) : Calls Try.prog 7 #[] w fun e w' => e = .returned (.bool true) ∧ Below w.heap.size w w' := by
  go_enter Try.func7, Try.ntmps7
  go_wp2_with fail
  refine (snkNew_any _).mono ?_
  rintro x w0 ⟨bm, g, rfl, hs, hb, hg, hbm⟩
  have HS0 := Lib.hid (show AwS w w0 g bm (.slice none 0 0) Snk.none from ⟨hs, ⟨hb, hg, hbm, fun k hk => by cases hk⟩, by decide⟩)
  clear hs hb hg hbm
  go_wp2_with fail
  refine (snkPut_any _ HS0.out.1 1 5 0 ⟨#[]⟩ (by decide) (by have := HS0.out.2.2; omega) (by decide)).mono ?_
  rintro x w1 ⟨rfl, nv1, hs, hl, ht⟩
  rw [sk_a.1, sk_a.2.1, sk_a.2.2]
  have HS1 := Lib.hid (show AwS w w1 g bm nv1 sk1 from aw_step HS0.out hs hl ht (by decide))
  clear hs hl ht
  go_wp2_with fail
  refine (snkPut_any (s := sk1) _ HS1.out.1 1 5 1 ⟨#[97]⟩ (by decide) (by have := HS1.out.2.2; omega) (by decide)).mono ?_
  rintro x w2 ⟨rfl, nv2, hs, hl, ht⟩
  rw [sk_b.1, sk_b.2.1, sk_b.2.2]
  have HS2 := Lib.hid (show AwS w w2 g bm nv2 sk2 from aw_step HS1.out hs hl ht (by decide))
  clear hs hl ht
  go_wp2_with fail
  refine (snkPut_any (s := sk2) _ HS2.out.1 1 4 0 ⟨#[]⟩ (by decide) (by have := HS2.out.2.2; omega) (by decide)).mono ?_
  rintro x w3 ⟨rfl, nv3, hs, hl, ht⟩
  rw [sk_c.1, sk_c.2.1, sk_c.2.2]
  rw [put_not sk_c.2.1] at hs
  have HS3 := Lib.hid (show AwS w w3 g bm nv3 sk2 from aw_step HS2.out hs hl ht (by decide))
  clear hs hl ht
  go_wp2_with fail
  refine (snkPut_any (s := sk2) _ HS3.out.1 0 5 0 ⟨#[]⟩ (by decide) (by have := HS3.out.2.2; omega) (by decide)).mono ?_
  rintro x w4 ⟨rfl, nv4, hs, hl, ht⟩
  rw [sk_d.1, sk_d.2.1, sk_d.2.2]
  rw [put_not sk_d.2.1] at hs
  have HS4 := Lib.hid (show AwS w w4 g bm nv4 sk2 from aw_step HS3.out hs hl ht (by decide))
  clear hs hl ht
  go_wp2_with fail
  refine (snkPut_any (s := sk2) _ HS4.out.1 1 5 3 ⟨#[]⟩ (by decide) (by have := HS4.out.2.2; omega) (by decide)).mono ?_
  rintro x w5 ⟨rfl, nv5, hs, hl, ht⟩
  rw [sk_e.1, sk_e.2.1, sk_e.2.2]
  rw [put_not sk_e.2.1] at hs
  have HS5 := Lib.hid (show AwS w w5 g bm nv5 sk2 from aw_step HS4.out hs hl ht (by decide))
  clear hs hl ht
  go_wp2_with fail
  refine (snkPut_any (s := sk2) _ HS5.out.1 1 5 0 ⟨#[120]⟩ (by decide) (by have := HS5.out.2.2; omega) (by decide)).mono ?_
  rintro x w6 ⟨rfl, nv6, hs, hl, ht⟩
  rw [sk_f.1, sk_f.2.1, sk_f.2.2]
  rw [put_not sk_f.2.1] at hs
  have HS6 := Lib.hid (show AwS w w6 g bm nv6 sk2 from aw_step HS5.out hs hl ht (by decide))
  clear hs hl ht
  go_wp2_with fail
  refine (artefacts_any _ HS6.out.1).mono ?_
  rintro x w7 ⟨v7, L, rfl, hao, hb7⟩
  obtain ⟨gl, cl, gp, cp, rfl, e1, e2, e3, e4, e5⟩ := aw_arts hao
  have hlt : ∀ x ∈ ownBlocks g bm nv6, x < w6.heap.size := own_lt HS6.out.1
  have HS7 := Lib.hid (show AwS w w7 g bm nv6 sk2 from ⟨HS6.out.1.below hb7, ⟨HS6.out.2.1.1.trans (hb7.mono HS6.out.2.1.1.size), HS6.out.2.1.2⟩, by decide⟩)
  clear hao hb7
  go_wp2_with fail
  refine (hear_any _ HS7.out.1 2 1 ⟨#[6, 1, 4, 0, 0]⟩ (by decide) (by decide)).mono ?_
  rintro x w8 ⟨v8, nv8, rfl, hs, hl, ht, hh⟩
  rw [hm_heard] at hs
  rw [hm_reply] at hh
  obtain ⟨k8, rfl, _, hc8⟩ := hh
  have f1 := cell_turns ht e1 (fun hm => by have := hlt _ hm; omega)
  have f2 := cell_turns ht e2 (fun hm => by have := hlt _ hm; omega)
  have f3 := cell_turns ht e3 (fun hm => by have := hlt _ hm; omega)
  have f4 := hc8.cell (j := 5) rfl
  rw [hm_out] at f4
  have HS8 := Lib.hid (show AwS w w8 g bm nv8 sk2 from aw_step HS7.out hs hl ht (by decide))
  clear hs hl ht hc8 e1 e2 e3 e4 e5 hlt
  go_wp2_with fail
  refine (snkTold_any _ HS8.out.1).mono ?_
  rintro x w9 ⟨rfl, hs9, he9, hg9⟩
  have h2 : sk2.news.length = 1 + 1 := by decide
  obtain ⟨k9, c9, rfl⟩ : ∃ k c, nv8 = .slice (some ⟨k, 0, none⟩) 2 c := by
    unfold Evts at he9
    rw [h2] at he9
    exact own_some he9
  have HB := Lib.hid (HS8.out.2.1.1.grown hg9 HS8.out.2.1.1.size fun k hk => by cases hk; exact HS8.out.2.1.2.1)
  clear hs9 he9 hg9 h2 f1 f2 f3 f4
  go_wp2
  go_ret
  exact ⟨rfl, HB.out⟩
end Go.Proofs.Ytpnfdmglhonkmaa
