/-
  The sanity check of layer 28: it answers true.
-/
import Derived.LoopTactic
import Derived.Test.YtjlmgjpnfppkoaaFr2
namespace Go.Proofs.Ytjlmgjpnfppkoaa
open Go.RowKit
attribute [local go_sem ↓] Go.wp_at_zero Go.wp_at_succ

set_option maxHeartbeats 2000000 in
theorem fawake_any (w : World) : Calls Try.prog 51 #[] w fun e w' => e = .returned (.bool true) ∧ Below w.heap.size w w' := by
  have hE : takeE [⟨2, 0⟩, ⟨0, 0⟩, ⟨0, 0⟩] 1 3 = 0 := by decide
  have hI : takeI [⟨2, 0⟩, ⟨0, 0⟩, ⟨0, 0⟩] 1 3 = 1 := by decide
  have hL : takeL [⟨2, 0⟩, ⟨0, 0⟩, ⟨0, 0⟩] 1 3 = [⟨2, 0⟩, ⟨1, 3⟩, ⟨0, 0⟩] := by decide
  have hV : validF [⟨2, 0⟩, ⟨1, 3⟩, ⟨0, 0⟩] = true := by decide
  have hF : freeF [⟨2, 0⟩, ⟨1, 3⟩, ⟨0, 0⟩] = 2 := by decide
  have HE := Lib.hid hE
  have HI := Lib.hid hI
  have HL := Lib.hid hL
  have HV := Lib.hid hV
  have HF := Lib.hid hF
  clear hE hI hL hV hF
  go_enter Try.func51, Try.ntmps51
  go_wp2_with fail
  refine (take_any _ 3 3 1 3 [⟨2, 0⟩, ⟨0, 0⟩, ⟨0, 0⟩] _ (Has.lit_at _ _ _ 3 2 _ _ rfl (by simp) rfl)).mono ?_
  rewrite [HE.out, HI.out, HL.out]
  rintro e w1 ⟨v, rfl, ⟨A, c, rfl, hown⟩, hb1⟩
  have hs1 := hb1.size
  simp only [World.size_alloc] at hs1
  have hB1 := (show Below w.heap.size w _ by (repeat' (first | (with_reducible exact Below.refl _ _) | (with_reducible assumption) | (with_reducible refine Below.alloc ?_ ?_ _) | (with_reducible refine Below.drew ?_) | (with_reducible refine below_drewN ?_ _) | (with_reducible refine Below.setCell ?_ ?_ _) | (with_reducible exact Nat.le_refl _) | omega | (simp <;> omega)))).trans (hb1.mono (show w.heap.size ≤ _ by (first | (with_reducible exact Nat.le_refl _) | (with_reducible assumption) | omega | (simp <;> omega))))
  obtain ⟨g, rfl, hg1, hg2⟩ := own_some hown (by decide)
  have hH := Has.of_own hown
  obtain ⟨g', off', e', -, c0, c1⟩ := hH.frame_at (k := 1) (by decide)
  injection e' with e'
  injection e' with e1 e2
  subst e1 e2
  simp at c0 c1
  have HH := Lib.hid hH
  clear hown hb1 hH
  go_wp2_with fail
  refine (fvalid_any _ 3 c [⟨2, 0⟩, ⟨1, 3⟩, ⟨0, 0⟩] _ HH.out).mono ?_
  rewrite [HV.out]
  rintro e w2 ⟨rfl, hb2⟩
  have H2 := Lib.hid (HH.out.below hb2)
  have hB2 := hB1.trans (hb2.mono hB1.size)
  clear hb2
  go_wp2_with fail
  refine (dfree_any _ 3 c [⟨2, 0⟩, ⟨1, 3⟩, ⟨0, 0⟩] _ H2.out (by omega)).mono ?_
  rewrite [HF.out]
  rintro e w3 ⟨rfl, hb3⟩
  have hB3 := hB2.trans (hb3.mono hB2.size)
  clear hb3
  go_wp2_with fail
  go_ret
  exact ⟨rfl, hB3⟩
end Go.Proofs.Ytjlmgjpnfppkoaa
