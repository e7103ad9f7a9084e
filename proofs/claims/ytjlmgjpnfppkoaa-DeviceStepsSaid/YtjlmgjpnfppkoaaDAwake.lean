/-
  The sanity check of layer 32 returns true: walked.
-/
import Derived.Test.YtjlmgjpnfppkoaaDev4
namespace Go.Proofs.Ytjlmgjpnfppkoaa
open Go.RowKit
attribute [local go_sem ↓] Go.wp_at_zero Go.wp_at_succ

set_option maxRecDepth 100000 in
set_option maxHeartbeats 4000000 in
theorem dawake_any (w : World) :
    Calls Try.prog 39 #[] w fun e w' => e = .returned (.bool true) ∧ Below w.heap.size w w' := by
  go_enter Try.func39, Try.ntmps39
  go_wp2_with fail
  refine (dbegin_any 0 8 2 true _ (by omega)).mono ?_
  simp only [show beginT 0 8 2 true = ⟨0, 8, 2, 0, true, false⟩ from rfl, show checkF 0 8 2 = 0 from rfl]
  rintro e w1 ⟨rfl, hb1⟩
  have hs1 := hb1.size
  go_wp2_with fail
  refine (dstep_any 0 8 2 0 true false _ ⟨0, [5], false, false⟩ _ (by omega) ⟨_, _, rfl, Has.lit_at _ _ _ _ _ _ _ rfl (by simp) rfl⟩ (by decide)).mono ?_
  simp only [show stepT ⟨0, 8, 2, 0, true, false⟩ ⟨0, [5], false, false⟩ = ⟨0, 8, 2, 1, true, false⟩ from rfl, show stepL ⟨0, 8, 2, 0, true, false⟩ ⟨0, [5], false, false⟩ = ⟨8, [5], true, false⟩ from rfl, show stepE ⟨0, 8, 2, 0, true, false⟩ ⟨0, [5], false, false⟩ = 0 from rfl, TrV]
  rintro e w2 ⟨v2, rfl, ⟨A2, c2, rfl, -⟩, hb2⟩
  simp only [List.length_cons, List.length_nil, Nat.reduceAdd]
  have hs2 := hb2.size
  simp only [World.size_alloc] at hs2
  have hB2 := (show Below w.heap.size w _ by (repeat' (first | (with_reducible exact Below.refl _ _) | (with_reducible assumption) | (with_reducible refine Below.alloc ?_ ?_ _) | (with_reducible refine Below.drew ?_) | (with_reducible refine below_drewN ?_ _) | (with_reducible refine Below.setCell ?_ ?_ _) | (with_reducible exact Nat.le_refl _) | omega | (simp <;> omega)))).trans (hb2.mono (show w.heap.size ≤ _ by (first | (with_reducible exact Nat.le_refl _) | (with_reducible assumption) | omega | (simp <;> omega))))
  have naf0 := frozK (g := w1.heap.size) (i := 0) hb2 (by (first | (with_reducible exact Nat.le_refl _) | (with_reducible assumption) | omega | (simp <;> omega))) (by simp [go_sem, *])
  have naf1 := frozK (g := w1.heap.size) (i := 1) hb2 (by (first | (with_reducible exact Nat.le_refl _) | (with_reducible assumption) | omega | (simp <;> omega))) (by simp [go_sem, *])
  have naf2 := frozK (g := w1.heap.size) (i := 2) hb2 (by (first | (with_reducible exact Nat.le_refl _) | (with_reducible assumption) | omega | (simp <;> omega))) (by simp [go_sem, *])
  have naf3 := frozK (g := w1.heap.size) (i := 3) hb2 (by (first | (with_reducible exact Nat.le_refl _) | (with_reducible assumption) | omega | (simp <;> omega))) (by simp [go_sem, *])
  have naf4 := frozK (g := w1.heap.size) (i := 4) hb2 (by (first | (with_reducible exact Nat.le_refl _) | (with_reducible assumption) | omega | (simp <;> omega))) (by simp [go_sem, *])
  have naf5 := frozK (g := w1.heap.size) (i := 5) hb2 (by (first | (with_reducible exact Nat.le_refl _) | (with_reducible assumption) | omega | (simp <;> omega))) (by simp [go_sem, *])
  have na0 := cellK (g := w1.heap.size) (i := 0) (v := .int .i64 0) hb2 (by (first | (with_reducible exact Nat.le_refl _) | (with_reducible assumption) | omega | (simp <;> omega))) (by simp [go_sem, *])
  have na1 := cellK (g := w1.heap.size) (i := 1) (v := .int .i64 8) hb2 (by (first | (with_reducible exact Nat.le_refl _) | (with_reducible assumption) | omega | (simp <;> omega))) (by simp [go_sem, *])
  have na2 := cellK (g := w1.heap.size) (i := 2) (v := .int .i64 2) hb2 (by (first | (with_reducible exact Nat.le_refl _) | (with_reducible assumption) | omega | (simp <;> omega))) (by simp [go_sem, *])
  have na3 := cellK (g := w1.heap.size) (i := 3) (v := .int .i64 0) hb2 (by (first | (with_reducible exact Nat.le_refl _) | (with_reducible assumption) | omega | (simp <;> omega))) (by simp [go_sem, *])
  have na4 := cellK (g := w1.heap.size) (i := 4) (v := .bool true) hb2 (by (first | (with_reducible exact Nat.le_refl _) | (with_reducible assumption) | omega | (simp <;> omega))) (by simp [go_sem, *])
  have na5 := cellK (g := w1.heap.size) (i := 5) (v := .bool false) hb2 (by (first | (with_reducible exact Nat.le_refl _) | (with_reducible assumption) | omega | (simp <;> omega))) (by simp [go_sem, *])
  have ka0 := na0
  have ka1 := na1
  have ka2 := na2
  have ka3 := na3
  have ka4 := na4
  have ka5 := na5
  have kaf0 := naf0
  have kaf1 := naf1
  have kaf2 := naf2
  have kaf3 := naf3
  have kaf4 := naf4
  have kaf5 := naf5
  clear na0 na1 na2 na3 na4 na5 naf0 naf1 naf2 naf3 naf4 naf5
  have l1 : w1.heap.size < w2.heap.size := by omega
  clear hb1 hb2
  have hz2 := hB2.size
  go_wp2_with fail
  refine (dstep_any 0 8 2 1 true false _ ⟨1, [0], false, true⟩ _ (by omega) ⟨_, _, rfl, Has.lit_at _ _ _ _ _ _ _ rfl (by simp) rfl⟩ (by decide)).mono ?_
  simp only [show stepT ⟨0, 8, 2, 1, true, false⟩ ⟨1, [0], false, true⟩ = ⟨0, 8, 2, 1, true, true⟩ from rfl, show stepL ⟨0, 8, 2, 1, true, false⟩ ⟨1, [0], false, true⟩ = LineD.zero from rfl, show stepE ⟨0, 8, 2, 1, true, false⟩ ⟨1, [0], false, true⟩ = 48 from rfl, TrV, LineD.zero]
  rintro e w3 ⟨v3, rfl, ⟨A3, c3, rfl, -⟩, hb3⟩
  simp only [List.length_nil]
  have hs3 := hb3.size
  simp only [World.size_alloc, World.size_setCell] at hs3
  have hB3 := (show Below w.heap.size w _ by (repeat' (first | (with_reducible exact Below.refl _ _) | (with_reducible assumption) | (with_reducible refine Below.alloc ?_ ?_ _) | (with_reducible refine Below.drew ?_) | (with_reducible refine below_drewN ?_ _) | (with_reducible refine Below.setCell ?_ ?_ _) | (with_reducible exact Nat.le_refl _) | omega | (simp <;> omega)))).trans (hb3.mono (show w.heap.size ≤ _ by (first | (with_reducible exact Nat.le_refl _) | (with_reducible assumption) | omega | (simp <;> omega))))
  have nbf0 := frozK (g := w1.heap.size) (i := 0) hb3 (by (first | (with_reducible exact Nat.le_refl _) | (with_reducible assumption) | omega | (simp <;> omega))) (by simp [go_sem, *])
  have nbf1 := frozK (g := w1.heap.size) (i := 1) hb3 (by (first | (with_reducible exact Nat.le_refl _) | (with_reducible assumption) | omega | (simp <;> omega))) (by simp [go_sem, *])
  have nbf2 := frozK (g := w1.heap.size) (i := 2) hb3 (by (first | (with_reducible exact Nat.le_refl _) | (with_reducible assumption) | omega | (simp <;> omega))) (by simp [go_sem, *])
  have nbf3 := frozK (g := w1.heap.size) (i := 3) hb3 (by (first | (with_reducible exact Nat.le_refl _) | (with_reducible assumption) | omega | (simp <;> omega))) (by simp [go_sem, *])
  have nbf4 := frozK (g := w1.heap.size) (i := 4) hb3 (by (first | (with_reducible exact Nat.le_refl _) | (with_reducible assumption) | omega | (simp <;> omega))) (by simp [go_sem, *])
  have nbf5 := frozK (g := w1.heap.size) (i := 5) hb3 (by (first | (with_reducible exact Nat.le_refl _) | (with_reducible assumption) | omega | (simp <;> omega))) (by simp [go_sem, *])
  have nb0 := cellK (g := w1.heap.size) (i := 0) (v := .int .i64 0) hb3 (by (first | (with_reducible exact Nat.le_refl _) | (with_reducible assumption) | omega | (simp <;> omega))) (by simp [go_sem, *])
  have nb1 := cellK (g := w1.heap.size) (i := 1) (v := .int .i64 8) hb3 (by (first | (with_reducible exact Nat.le_refl _) | (with_reducible assumption) | omega | (simp <;> omega))) (by simp [go_sem, *])
  have nb2 := cellK (g := w1.heap.size) (i := 2) (v := .int .i64 2) hb3 (by (first | (with_reducible exact Nat.le_refl _) | (with_reducible assumption) | omega | (simp <;> omega))) (by simp [go_sem, *])
  have nb3 := cellK (g := w1.heap.size) (i := 3) (v := .int .i64 1) hb3 (by (first | (with_reducible exact Nat.le_refl _) | (with_reducible assumption) | omega | (simp <;> omega))) (by simp [go_sem, *])
  have nb4 := cellK (g := w1.heap.size) (i := 4) (v := .bool true) hb3 (by (first | (with_reducible exact Nat.le_refl _) | (with_reducible assumption) | omega | (simp <;> omega))) (by simp [go_sem, *])
  have nb5 := cellK (g := w1.heap.size) (i := 5) (v := .bool false) hb3 (by (first | (with_reducible exact Nat.le_refl _) | (with_reducible assumption) | omega | (simp <;> omega))) (by simp [go_sem, *])
  have nx0 := cellK (g := w2.heap.size) (i := 0) (v := .int .i64 8) hb3 (by (first | (with_reducible exact Nat.le_refl _) | (with_reducible assumption) | omega | (simp <;> omega))) (by simp [go_sem, *])
  have nx1 := cellK (g := w2.heap.size) (i := 1) (v := .slice A2 1 c2) hb3 (by (first | (with_reducible exact Nat.le_refl _) | (with_reducible assumption) | omega | (simp <;> omega))) (by simp [go_sem, *])
  have nx2 := cellK (g := w2.heap.size) (i := 2) (v := .bool true) hb3 (by (first | (with_reducible exact Nat.le_refl _) | (with_reducible assumption) | omega | (simp <;> omega))) (by simp [go_sem, *])
  have nx3 := cellK (g := w2.heap.size) (i := 3) (v := .bool false) hb3 (by (first | (with_reducible exact Nat.le_refl _) | (with_reducible assumption) | omega | (simp <;> omega))) (by simp [go_sem, *])
  clear ka0 ka1 ka2 ka3 ka4 ka5 kaf0 kaf1 kaf2 kaf3 kaf4 kaf5
  have kb0 := nb0
  have kb1 := nb1
  have kb2 := nb2
  have kb3 := nb3
  have kb4 := nb4
  have kb5 := nb5
  have kx0 := nx0
  have kx1 := nx1
  have kx2 := nx2
  have kx3 := nx3
  have kbf0 := nbf0
  have kbf1 := nbf1
  have kbf2 := nbf2
  have kbf3 := nbf3
  have kbf4 := nbf4
  have kbf5 := nbf5
  clear nb0 nb1 nb2 nb3 nb4 nb5 nx0 nx1 nx2 nx3 nbf0 nbf1 nbf2 nbf3 nbf4 nbf5
  have l3 : w1.heap.size < w3.heap.size := by omega
  have l4 : w2.heap.size < w3.heap.size := by omega
  have hz3 := hB3.size
  clear hb3 hB2
  go_wp2_with fail
  go_ret
  exact ⟨rfl, by (repeat' (first | (with_reducible exact Below.refl _ _) | (with_reducible assumption) | (with_reducible refine Below.alloc ?_ ?_ _) | (with_reducible refine Below.drew ?_) | (with_reducible refine below_drewN ?_ _) | (with_reducible refine Below.setCell ?_ ?_ _) | (with_reducible exact Nat.le_refl _) | omega | (simp <;> omega)))⟩
end Go.Proofs.Ytjlmgjpnfppkoaa
