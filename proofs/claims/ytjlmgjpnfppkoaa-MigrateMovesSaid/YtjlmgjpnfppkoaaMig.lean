/-
  Contracts of functions of the given program (layer 35), walked: the first address of a frame, the frame of an address.
-/
import Derived.LoopTactic
import Derived.Test.YtjlmgjpnfppkoaaLeaf
namespace Go.Proofs.Ytjlmgjpnfppkoaa
open Go.RowKit
attribute [local go_sem ↓] Go.wp_at_zero Go.wp_at_succ

theorem first_any (f : Int) (w : World) (h : -1000000000000 ≤ f ∧ f ≤ 1000000000000) :
    Calls Try.prog 29 #[.int .i64 f] w fun e w' => e = .returned (.int .i64 (4 * f)) ∧ w = w' := by
  have hw : IntKind.i64.wrap (4 * f) = 4 * f := IntWalk.i64_in _ (by omega)
  go_enter Try.func29, Try.ntmps29
  go_wp2
  go_ret
  exact ⟨rfl, rfl⟩

theorem frame_neg (a : Int) (w : World) (h : a < 0) :
    Calls Try.prog 27 #[.int .i64 a] w fun e w' => e = .returned (.int .i64 (-1)) ∧ w = w' := by
  go_enter Try.func27, Try.ntmps27
  go_wp2
  go_ret
  exact ⟨rfl, rfl⟩

theorem frame_pos (a : Int) (w : World) (h : 0 ≤ a) (h2 : a ≤ 9223372036854775807) :
    Calls Try.prog 27 #[.int .i64 a] w fun e w' => e = .returned (.int .i64 (a / 4)) ∧ w = w' := by
  have hd : a.tdiv 4 = a / 4 := Int.tdiv_eq_ediv_of_nonneg h
  have hw : IntKind.i64.wrap (a / 4) = a / 4 := IntWalk.i64_in _ (by omega)
  go_enter Try.func27, Try.ntmps27
  go_wp2
  go_ret
  exact ⟨ret_int (by first | rfl | omega), rfl⟩

theorem framesB_any (f : Int) (w : World) : Calls Try.prog 66 #[.int .i64 f] w fun e w' => e = .returned (.bool (decide (0 ≤ f ∧ f < 64))) ∧ w = w' := by
  go_enter Try.func66, Try.ntmps66
  go_wp2
  all_goals (go_ret; exact ⟨ret_bool (by simp <;> omega), rfl⟩)
end Go.Proofs.Ytjlmgjpnfppkoaa
