/-
  The sanity check of layer 30 returns true: walked.
-/
import Derived.Test.YtofngakjpdplaaaLClone
import Derived.Test.YtofngakjpdplaaaLStore
import Derived.Test.YtofngakjpdplaaaLLoad
import Derived.Test.YtofngakjpdplaaaLDamage
import Derived.Test.YtofngakjpdplaaaLPatch
import Derived.Test.YtofngakjpdplaaaLSame
namespace Go.Proofs.Ytofngakjpdplaaa
open Go.RowKit
attribute [local go_sem ↓] Go.wp_at_zero Go.wp_at_succ

set_option maxHeartbeats 2000000 in
theorem awake_any (w : World) :
    Calls Try.prog 6 #[] w fun e w' => e = .returned (.bool true) ∧ Below w.heap.size w w' := by
  go_enter Try.func6, Try.ntmps6
  go_wp2_with fail
  refine (ldamage_any _ ⟨4, [1, 2], false, false⟩ _ ⟨_, _, rfl, Has.lit_at _ _ _ _ _ _ _ rfl rfl rfl⟩ (by decide)).mono ?_
  rintro e w1 ⟨v1, rfl, ⟨A1, c1, rfl, hown1⟩, hb1⟩
  have hs1 := hb1.size
  simp only [World.size_alloc] at hs1
  have hB1 := (show Below w.heap.size w _ by (repeat' (first | (with_reducible exact Below.refl _ _) | (with_reducible assumption) | (with_reducible refine Below.alloc ?_ ?_ _) | (with_reducible refine Below.drew ?_) | (with_reducible refine below_drewN ?_ _) | (with_reducible refine Below.setCell ?_ ?_ _) | (with_reducible exact Nat.le_refl _) | omega | (simp <;> omega)))).trans (hb1.mono (show w.heap.size ≤ _ by (first | (with_reducible exact Nat.le_refl _) | (with_reducible assumption) | omega | (simp <;> omega))))
  simp only [show damageF ⟨4, [1, 2], false, false⟩ = ⟨4, [0, 0], false, true⟩ from rfl, List.length_cons, List.length_nil, Nat.reduceAdd] at hown1 ⊢
  have Hi := Lib.hid (Has.of_own hown1)
  clear hb1 hown1
  go_wp2_with fail
  refine (lpatch_any _ ⟨4, [0, 0], false, true⟩ 0 9 _ ⟨_, _, rfl, Hi.out.alloc _⟩ (by decide)).mono ?_
  rintro e w2 ⟨v2, rfl, ⟨A2, c2, rfl, hown2⟩, hb2⟩
  have hs2 := hb2.size
  simp only [World.size_alloc] at hs2
  have hz1 := hB1.size
  have hB2 := (show Below w.heap.size w _ by (repeat' (first | (with_reducible exact Below.refl _ _) | (with_reducible assumption) | (with_reducible refine Below.alloc ?_ ?_ _) | (with_reducible refine Below.drew ?_) | (with_reducible refine below_drewN ?_ _) | (with_reducible refine Below.setCell ?_ ?_ _) | (with_reducible exact Nat.le_refl _) | omega | (simp <;> omega)))).trans (hb2.mono (show w.heap.size ≤ _ by (first | (with_reducible exact Nat.le_refl _) | (with_reducible assumption) | omega | (simp <;> omega))))
  simp only [show patchF ⟨4, [0, 0], false, true⟩ 0 9 = ⟨4, [9, 0], true, true⟩ from rfl, show patchE ⟨4, [0, 0], false, true⟩ 0 = 0 from rfl, List.length_cons, List.length_nil, Nat.reduceAdd] at hown2 ⊢
  clear Hi hs1 hB1 hb2
  have Hi := Lib.hid (Has.of_own hown2)
  clear hown2
  go_wp2_with fail
  refine (lload_any _ ⟨4, [9, 0], true, true⟩ _ ⟨_, _, rfl, Hi.out.alloc _⟩ (by decide)).mono ?_
  rintro e w3 ⟨A3, c3, rfl, -, hb3⟩
  have hs3 := hb3.size
  simp only [World.size_alloc] at hs3
  have hz2 := hB2.size
  have hB3 := (show Below w.heap.size w _ by (repeat' (first | (with_reducible exact Below.refl _ _) | (with_reducible assumption) | (with_reducible refine Below.alloc ?_ ?_ _) | (with_reducible refine Below.drew ?_) | (with_reducible refine below_drewN ?_ _) | (with_reducible refine Below.setCell ?_ ?_ _) | (with_reducible exact Nat.le_refl _) | omega | (simp <;> omega)))).trans (hb3.mono (show w.heap.size ≤ _ by (first | (with_reducible exact Nat.le_refl _) | (with_reducible assumption) | omega | (simp <;> omega))))
  have l2 : w2.heap.size < w3.heap.size := by omega
  have k0 := cellK (g := w2.heap.size) (i := 0) (v := .int .i64 4) hb3 (by (first | (with_reducible exact Nat.le_refl _) | (with_reducible assumption) | omega | (simp <;> omega))) (by simp [go_sem])
  have k1 := cellK (g := w2.heap.size) (i := 1) (v := .slice A2 2 c2) hb3 (by (first | (with_reducible exact Nat.le_refl _) | (with_reducible assumption) | omega | (simp <;> omega))) (by simp [go_sem])
  have k2 := cellK (g := w2.heap.size) (i := 2) (v := .bool true) hb3 (by (first | (with_reducible exact Nat.le_refl _) | (with_reducible assumption) | omega | (simp <;> omega))) (by simp [go_sem])
  have k3 := cellK (g := w2.heap.size) (i := 3) (v := .bool true) hb3 (by (first | (with_reducible exact Nat.le_refl _) | (with_reducible assumption) | omega | (simp <;> omega))) (by simp [go_sem])
  simp only [show loadF ⟨4, [9, 0], true, true⟩ = [] from rfl, show loadE ⟨4, [9, 0], true, true⟩ = 48 from rfl, List.length_nil] at ⊢
  have Hj := Lib.hid ((Hi.out.alloc (.cells #[Value.int .i64 4, Value.slice A2 2 c2, Value.bool true, Value.bool true] 24)).below hb3)
  clear Hi hs2 hB2 hb3 hs3
  go_wp2_with fail
  refine (lstore_any _ ⟨4, [9, 0], true, true⟩ _ _ _ [3, 4] _ ⟨_, _, rfl, Hj.out.alloc _⟩ (Has.lit_at _ _ _ _ _ _ _ rfl rfl rfl) (by decide)).mono ?_
  rintro e w4 ⟨v4, rfl, ⟨A4, c4, rfl, hown4⟩, hb4⟩
  have hs4 := hb4.size
  simp only [World.size_alloc] at hs4
  have hz3 := hB3.size
  have hB4 := (show Below w.heap.size w _ by (repeat' (first | (with_reducible exact Below.refl _ _) | (with_reducible assumption) | (with_reducible refine Below.alloc ?_ ?_ _) | (with_reducible refine Below.drew ?_) | (with_reducible refine below_drewN ?_ _) | (with_reducible refine Below.setCell ?_ ?_ _) | (with_reducible exact Nat.le_refl _) | omega | (simp <;> omega)))).trans (hb4.mono (show w.heap.size ≤ _ by (first | (with_reducible exact Nat.le_refl _) | (with_reducible assumption) | omega | (simp <;> omega))))
  simp only [show storeF ⟨4, [9, 0], true, true⟩ [3, 4] = ⟨4, [3, 4], true, false⟩ from rfl, show storeE ⟨4, [9, 0], true, true⟩ [3, 4] = 0 from rfl, List.length_cons, List.length_nil, Nat.reduceAdd] at hown4 ⊢
  clear k0 k1 k2 k3 l2 Hj hB3 hb4
  have Hi := Lib.hid (Has.of_own hown4)
  clear hown4 hs4
  go_wp2_with fail
  refine (lload_any _ ⟨4, [3, 4], true, false⟩ _ ⟨_, _, rfl, Hi.out.alloc _⟩ (by decide)).mono ?_
  rintro e w5 ⟨A5, c5, rfl, hown5, hb5⟩
  have hs5 := hb5.size
  simp only [World.size_alloc] at hs5
  have hz4 := hB4.size
  have hB5 := (show Below w.heap.size w _ by (repeat' (first | (with_reducible exact Below.refl _ _) | (with_reducible assumption) | (with_reducible refine Below.alloc ?_ ?_ _) | (with_reducible refine Below.drew ?_) | (with_reducible refine below_drewN ?_ _) | (with_reducible refine Below.setCell ?_ ?_ _) | (with_reducible exact Nat.le_refl _) | omega | (simp <;> omega)))).trans (hb5.mono (show w.heap.size ≤ _ by (first | (with_reducible exact Nat.le_refl _) | (with_reducible assumption) | omega | (simp <;> omega))))
  have l4 : w4.heap.size < w5.heap.size := by omega
  have k0 := cellK (g := w4.heap.size) (i := 0) (v := .int .i64 4) hb5 (by (first | (with_reducible exact Nat.le_refl _) | (with_reducible assumption) | omega | (simp <;> omega))) (by simp [go_sem])
  have k1 := cellK (g := w4.heap.size) (i := 1) (v := .slice A4 2 c4) hb5 (by (first | (with_reducible exact Nat.le_refl _) | (with_reducible assumption) | omega | (simp <;> omega))) (by simp [go_sem])
  have k2 := cellK (g := w4.heap.size) (i := 2) (v := .bool true) hb5 (by (first | (with_reducible exact Nat.le_refl _) | (with_reducible assumption) | omega | (simp <;> omega))) (by simp [go_sem])
  have k3 := cellK (g := w4.heap.size) (i := 3) (v := .bool false) hb5 (by (first | (with_reducible exact Nat.le_refl _) | (with_reducible assumption) | omega | (simp <;> omega))) (by simp [go_sem])
  simp only [show loadF ⟨4, [3, 4], true, false⟩ = [3, 4] from rfl, show loadE ⟨4, [3, 4], true, false⟩ = 0 from rfl, List.length_cons, List.length_nil, Nat.reduceAdd] at hown5 ⊢
  have Hj := Lib.hid ((Hi.out.alloc (.cells #[Value.int .i64 4, Value.slice A4 2 c4, Value.bool true, Value.bool false] 24)).below hb5)
  have hq := run_string_has (P := Try.prog) 22 9 5 Try.underlying22 (by kernel_rfl) (by kernel_rfl) w5 A5 2 c5 [3, 4] (Has.of_own hown5)
  clear Hi hB4 hb5 hs5 hown5
  go_wp2_with fail
  refine (lvalid_any 2 _ ⟨4, [3, 4], true, false⟩ _ ⟨_, _, rfl, Hj.out⟩).mono ?_
  rintro e w6 ⟨rfl, hb6⟩
  have hB6 := hB5.trans (hb6.mono hB5.size)
  simp only [show vldB 2 ⟨4, [3, 4], true, false⟩ = true from rfl]
  clear Hj hB5 hb6
  go_wp2_with fail
  go_ret
  exact ⟨rfl, hB6⟩
end Go.Proofs.Ytofngakjpdplaaa
