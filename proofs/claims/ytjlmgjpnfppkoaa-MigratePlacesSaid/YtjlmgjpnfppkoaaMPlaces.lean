/-
  The walk of MigratePlaces: it returns true, and what was there before is as it was.
-/
import Derived.LoopTactic
import Derived.Test.YtjlmgjpnfppkoaaMAwake
namespace Go.Proofs.Ytjlmgjpnfppkoaa
open Go.RowKit
attribute [local go_sem ↓] Go.wp_at_zero Go.wp_at_succ

set_option maxRecDepth 100000 in
set_option maxHeartbeats 4000000 in
theorem places_any (a : Int) (w : World) : Calls Try.prog 9 #[.int .i64 a] w fun e w' => e = .returned (.bool true) ∧ Below w.heap.size w w' := by
  obtain ⟨r1, r1'⟩ := mod_range a 1048576 (by omega)
  obtain ⟨M, hM⟩ : ∃ M, mod a 1048576 = M := ⟨_, rfl⟩
  rw [hM] at r1 r1'
  obtain ⟨F, hF⟩ : ∃ F, M / 4 = F := ⟨_, rfl⟩
  have F1 : 0 ≤ F := by omega
  have F2 : 4 * F ≤ M := by omega
  have F3 : M < 4 * F + 4 := by omega
  have F4 : 4 * F / 4 = F := by omega
  have w1 : IntKind.i64.wrap (4 * F + 4) = 4 * F + 4 := IntWalk.i64_in _ (by omega)
  have w2 : IntKind.i64.wrap (F + 1) = F + 1 := IntWalk.i64_in _ (by omega)
  have w3 : IntKind.i64.wrap (-1 - M) = -1 - M := IntWalk.i64_in _ (by omega)
  have w4 : 4 * (F + 1) = 4 * F + 4 := by omega
  go_enter Try.func9, Try.ntmps9
  go_wp2_with (first
    | (go_at_call 20; refine (mod_any _ _ _ (by omega)).mono ?_; rintro e w' ⟨rfl, rfl⟩)
    | (go_at_call 29; refine (first_any _ _ (by omega)).mono ?_; rintro e w' ⟨rfl, rfl⟩)
    | (go_at_call 27; refine (frame_pos _ _ (by omega) (by omega)).mono ?_; rintro e w' ⟨rfl, rfl⟩)
    | (go_at_call 27; refine (frame_neg _ _ (by omega)).mono ?_; rintro e w' ⟨rfl, rfl⟩)
    | (go_at_call 16; refine (mawake_any _).mono ?_; rintro e w' ⟨rfl, hb⟩))
  go_ret
  exact ⟨rfl, hb⟩
end Go.Proofs.Ytjlmgjpnfppkoaa
