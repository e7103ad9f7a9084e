/-
  Contracts of functions of the given program (layer 30), walked: comparing, validity, remainders.
-/
import Derived.Test.YtofngakjpdplaaaLClone
namespace Go.Proofs.Ytofngakjpdplaaa
open Go.RowKit

def vldB (s : Int) (L : LineD) : Bool := decide (1 ≤ s ∧ s ≤ 32 ∧ (L.data.length : Int) = s ∧ 0 ≤ L.addr ∧ L.addr < 1048576)

set_option maxHeartbeats 400000 in
theorem lvalid_any (s : Int) (v : Value) (L : LineD) (w : World) (h : IsLine w v L) :
    Calls Try.prog 8 #[.int .i64 s, v] w fun e w' => e = .returned (.bool (vldB s L)) ∧ Below w.heap.size w w' := by
  obtain ⟨A, c, rfl, h⟩ := h
  clear h
  obtain ⟨a, bs, d, p⟩ := L
  go_enter Try.func8, Try.ntmps8
  go_wp2
  all_goals (go_ret; exact ⟨ret_bool (by simp [vldB, *] <;> omega), by (repeat' (first | (with_reducible exact Below.refl _ _) | (with_reducible assumption) | (with_reducible refine Below.alloc ?_ ?_ _) | (with_reducible refine Below.drew ?_) | (with_reducible refine below_drewN ?_ _) | (with_reducible refine Below.setCell ?_ ?_ _) | (with_reducible exact Nat.le_refl _) | omega | (simp <;> omega)))⟩)

set_option maxHeartbeats 400000 in
theorem rvalid_any (s : Int) (v : Value) (L : LineD) (w : World) (h : IsLine w v L) :
    Calls Try.prog 9 #[.int .i64 s, v] w fun e w' => e = .returned (.bool (vldB s L)) ∧ Below w.heap.size w w' := by
  obtain ⟨A, c, rfl, h⟩ := h
  clear h
  obtain ⟨a, bs, d, p⟩ := L
  go_enter Try.func9, Try.ntmps9
  go_wp2
  all_goals (go_ret; exact ⟨ret_bool (by simp [vldB, *] <;> omega), by (repeat' (first | (with_reducible exact Below.refl _ _) | (with_reducible assumption) | (with_reducible refine Below.alloc ?_ ?_ _) | (with_reducible refine Below.drew ?_) | (with_reducible refine below_drewN ?_ _) | (with_reducible refine Below.setCell ?_ ?_ _) | (with_reducible exact Nat.le_refl _) | omega | (simp <;> omega)))⟩)

def mod (n m : Int) : Int := if m < 1 then 0 else n % m

theorem emod_tmod (n m : Int) : n % m = (n.tmod m) % m := by
  have h := Int.mul_tdiv_add_tmod n m
  have h2 : (m * n.tdiv m + n.tmod m) % m = (n.tmod m) % m := Int.mul_add_emod_self_left _ _ _
  rw [h] at h2
  exact h2
theorem mod_range (n m : Int) (h : 1 ≤ m) : 0 ≤ mod n m ∧ mod n m < m := by
  rw [mod, if_neg (by omega)]
  exact ⟨Int.emod_nonneg _ (by omega), Int.emod_lt_of_pos _ (by omega)⟩
theorem mod_of_neg (n m : Int) (h : 1 ≤ m) (h2 : n.tmod m < 0) : n.tmod m + m = mod n m := by
  have hlt := Int.lt_tmod_of_pos n (show 0 < m by omega)
  rw [mod, if_neg (by omega), emod_tmod, ← Int.add_emod_right]
  exact (Int.emod_eq_of_lt (by omega) (by omega)).symm
theorem mod_of_nonneg (n m : Int) (h : 1 ≤ m) (h2 : 0 ≤ n.tmod m) : n.tmod m = mod n m := by
  have hlt := Int.tmod_lt_of_pos n (show 0 < m by omega)
  rw [mod, if_neg (by omega), emod_tmod]
  exact (Int.emod_eq_of_lt (by omega) (by omega)).symm

set_option maxHeartbeats 400000 in
theorem mod_any (n m : Int) (w : World) (hm : m ≤ 9223372036854775807) :
    Calls Try.prog 7 #[.int .i64 n, .int .i64 m] w fun e w' => e = .returned (.int .i64 (mod n m)) ∧ w = w' := by
  by_cases h : m < 1
  · go_enter Try.func7, Try.ntmps7
    go_wp2
    go_ret
    exact ⟨ret_int (by simp [mod, h]), rfl⟩
  · by_cases h2 : n.tmod m < 0
    · have hlt := Int.lt_tmod_of_pos n (show 0 < m by omega)
      go_enter Try.func7, Try.ntmps7
      go_wp2
      go_ret
      exact ⟨ret_int (mod_of_neg n m (by omega) h2), rfl⟩
    · go_enter Try.func7, Try.ntmps7
      go_wp2
      go_ret
      exact ⟨ret_int (mod_of_nonneg n m (by omega) (by omega)), rfl⟩

def sameB (a b : LineD) : Bool := decide (a = b)
set_option maxHeartbeats 1000000 in
theorem same_any (v1 v2 : Value) (L1 L2 : LineD) (w : World) (h1 : IsLine w v1 L1) (h2 : IsLine w v2 L2) :
    Calls Try.prog 12 #[v1, v2] w fun e w' => e = .returned (.bool (sameB L1 L2)) ∧ Below w.heap.size w w' := by
  obtain ⟨A1, c1, rfl, h1⟩ := h1
  obtain ⟨A2, c2, rfl, h2⟩ := h2
  obtain ⟨a1, bs1, d1, p1⟩ := L1
  obtain ⟨a2, bs2, d2, p2⟩ := L2
  have q1 := fun o o' => run_string_has (P := Try.prog) 22 9 5 Try.underlying22 (by kernel_rfl) (by kernel_rfl) ((w.alloc o).alloc o') A1 bs1.length c1 bs1 ((h1.alloc _).alloc _)
  have q2 := fun o o' => run_string_has (P := Try.prog) 22 9 5 Try.underlying22 (by kernel_rfl) (by kernel_rfl) ((w.alloc o).alloc o') A2 bs2.length c2 bs2 ((h2.alloc _).alloc _)
  clear h1 h2
  go_enter Try.func12, Try.ntmps12
  go_wp2
  all_goals (go_ret; exact ⟨ret_bool (by simp [sameB, *] <;> (cases p1 <;> cases p2 <;> rfl)), by (repeat' (first | (with_reducible exact Below.refl _ _) | (with_reducible assumption) | (with_reducible refine Below.alloc ?_ ?_ _) | (with_reducible refine Below.drew ?_) | (with_reducible refine below_drewN ?_ _) | (with_reducible refine Below.setCell ?_ ?_ _) | (with_reducible exact Nat.le_refl _) | omega | (simp <;> omega)))⟩)
end Go.Proofs.Ytofngakjpdplaaa
