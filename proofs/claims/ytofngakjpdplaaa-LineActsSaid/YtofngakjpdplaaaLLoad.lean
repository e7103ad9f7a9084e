/-
  Contracts of functions of the given program (layer 30), walked.
-/
import Derived.Test.YtofngakjpdplaaaLClone
namespace Go.Proofs.Ytofngakjpdplaaa
open Go.RowKit
attribute [local go_sem ↓] Go.wp_at_zero Go.wp_at_succ

def loadF (L : LineD) : List UInt8 := if L.poison = true then [] else L.data
def loadE (L : LineD) : Int := if L.poison = true then 48 else 0

set_option maxHeartbeats 1000000 in
theorem lload_any (v : Value) (L : LineD) (w : World) (h : IsLine w v L) (hn : L.data.length ≤ 1048576) :
    Calls Try.prog 15 #[v] w fun e w' => ∃ A' c', e = .returned (.tuple #[.slice A' (loadF L).length c', .int .i64 (loadE L)]) ∧ w'.ownsRow w.heap.size 5 1 (.slice A' (loadF L).length c') (loadF L).length (byteVals (loadF L)) ∧ Below w.heap.size w w' := by
  obtain ⟨A, c, rfl, h⟩ := h
  obtain ⟨a, bs, d, p⟩ := L
  have Hh := Lib.hid h
  clear h
  cases p
  · go_enter Try.func15, Try.ntmps15
    go_wp2_with fail
    refine (clone_any _ _ _ bs _ (Hh.out.alloc _) hn).mono ?_
    rintro e w1 ⟨A', c', rfl, hown, hb1⟩
    have hs1 := hb1.size
    simp only [World.size_alloc] at hown hs1
    have hb1' := (show Below w.heap.size w _ by (repeat' (first | (with_reducible exact Below.refl _ _) | (with_reducible assumption) | (with_reducible refine Below.alloc ?_ ?_ _) | (with_reducible refine Below.drew ?_) | (with_reducible refine below_drewN ?_ _) | (with_reducible refine Below.setCell ?_ ?_ _) | (with_reducible exact Nat.le_refl _) | omega | (simp <;> omega)))).trans (hb1.mono (show w.heap.size ≤ _ by (first | (with_reducible exact Nat.le_refl _) | (with_reducible assumption) | omega | (simp <;> omega))))
    go_wp2_with fail
    go_ret2
    exact ⟨A', c', rfl, ownsRow_base hown (by omega), by (repeat' (first | (with_reducible exact Below.refl _ _) | (with_reducible assumption) | (with_reducible refine Below.alloc ?_ ?_ _) | (with_reducible refine Below.drew ?_) | (with_reducible refine below_drewN ?_ _) | (with_reducible refine Below.setCell ?_ ?_ _) | (with_reducible exact Nat.le_refl _) | omega | (simp <;> omega)))⟩
  · go_enter Try.func15, Try.ntmps15
    go_wp2_with fail
    go_ret2
    exact ⟨none, 0, rfl, World.ownsRow_nil _ _ _ _, by (repeat' (first | (with_reducible exact Below.refl _ _) | (with_reducible assumption) | (with_reducible refine Below.alloc ?_ ?_ _) | (with_reducible refine Below.drew ?_) | (with_reducible refine below_drewN ?_ _) | (with_reducible refine Below.setCell ?_ ?_ _) | (with_reducible exact Nat.le_refl _) | omega | (simp <;> omega)))⟩

set_option maxHeartbeats 1000000 in
theorem rload_any (v : Value) (L : LineD) (w : World) (h : IsLine w v L) (hn : L.data.length ≤ 1048576) :
    Calls Try.prog 16 #[v] w fun e w' => ∃ A' c', e = .returned (.tuple #[.slice A' (loadF L).length c', .int .i64 (loadE L)]) ∧ w'.ownsRow w.heap.size 5 1 (.slice A' (loadF L).length c') (loadF L).length (byteVals (loadF L)) ∧ Below w.heap.size w w' := by
  obtain ⟨A, c, rfl, h⟩ := h
  obtain ⟨a, bs, d, p⟩ := L
  have Hh := Lib.hid h
  clear h
  cases p
  · go_enter Try.func16, Try.ntmps16
    go_wp2_with (first
      | (at_builtin; refine wpList_copy_has _ rfl (.const (.slice none 0 0)) (.tmp 7) 22 rfl (w.heap.size + 1) 5 _ 1 1 info5 Try.underlying22 rfl (by decide) (.slice none 0 0) rfl (World.ownsRow_nil _ _ _ _) _ _ _ (byteVals bs) rfl (Hh.out.alloc _) (byteVals_one _) (by simp at hn; omega) (by omega) (by simp) ?_; intro A' c' w1 hown hb1; have hs1 := hb1.size; have hb1' := (show Below w.heap.size w _ by (repeat' (first | (with_reducible exact Below.refl _ _) | (with_reducible assumption) | (with_reducible refine Below.alloc ?_ ?_ _) | (with_reducible refine Below.drew ?_) | (with_reducible refine below_drewN ?_ _) | (with_reducible refine Below.setCell ?_ ?_ _) | (with_reducible exact Nat.le_refl _) | omega | (simp <;> omega)))).trans (hb1.mono (show w.heap.size ≤ _ by (first | (with_reducible exact Nat.le_refl _) | (with_reducible assumption) | omega | (simp <;> omega))))))
    go_ret2
    exact ⟨A', c', rfl, ownsRow_base hown (by omega), by (repeat' (first | (with_reducible exact Below.refl _ _) | (with_reducible assumption) | (with_reducible refine Below.alloc ?_ ?_ _) | (with_reducible refine Below.drew ?_) | (with_reducible refine below_drewN ?_ _) | (with_reducible refine Below.setCell ?_ ?_ _) | (with_reducible exact Nat.le_refl _) | omega | (simp <;> omega)))⟩
  · go_enter Try.func16, Try.ntmps16
    go_wp2_with fail
    go_ret2
    exact ⟨none, 0, rfl, World.ownsRow_nil _ _ _ _, by (repeat' (first | (with_reducible exact Below.refl _ _) | (with_reducible assumption) | (with_reducible refine Below.alloc ?_ ?_ _) | (with_reducible refine Below.drew ?_) | (with_reducible refine below_drewN ?_ _) | (with_reducible refine Below.setCell ?_ ?_ _) | (with_reducible exact Nat.le_refl _) | omega | (simp <;> omega)))⟩
end Go.Proofs.Ytofngakjpdplaaa
