/-
  Programs, walked: clones and copies (the program).
-/
import Derived.LoopTactic
import Derived.Test.YtjlmgjpnfppkoaaPgCopy
import Derived.Test.YtjlmgjpnfppkoaaFr2
namespace Go.Proofs.Ytjlmgjpnfppkoaa
open Go.RowKit
attribute [local go_sem ↓] Go.wp_at_zero Go.wp_at_succ


set_option maxHeartbeats 400000 in
theorem cloneprogs_any (A : Option Addr) (n c : Nat) (vs : List Value) (w : World) (h : Has w A n 5 vs) (h1 : ∀ u ∈ vs, u.oneCell' = true) (hn : n ≤ 1048576) :
    Calls Try.prog 108 #[.slice A n c] w fun e w' => ∃ A' c', e = .returned (.slice A' n c') ∧ w'.ownsRow w.heap.size 96 5 (.slice A' n c') n vs ∧ Below w.heap.size w w' := by
  have hq := fun (w : World) => Lib.run_eql_slice_nil (P := Try.prog) w 41 96 A n c 0 0 Try.underlying41
  rcases A with _ | ad
  · have hn0 : n = 0 := by
      rcases Nat.eq_zero_or_pos n with h0 | h0
      · exact h0
      · obtain ⟨b, off, h', _⟩ := h.2 (by omega)
        cases h'
    subst hn0
    have hb : vs = [] := List.eq_nil_of_length_eq_zero (by simpa using h.1)
    subst hb
    go_enter Try.func108, Try.ntmps108
    go_wp2
    go_ret
    exact ⟨none, 0, rfl, World.ownsRow_nil _ _ _ _, Below.refl _ _⟩
  · have Hh := Lib.hid h
    have H1 := Lib.hid h1
    clear h h1
    go_enter Try.func108, Try.ntmps108
    go_wp2_with (first
      | (at_builtin; refine wpList_copy_has _ rfl (.tmp 5) (.tmp 6) 41 rfl w.heap.size 96 _ 5 64 info96 Try.underlying41 rfl (by decide) _ rfl (World.ownsRow_made _ #[] 0 (Nat.le_refl _) (by decide) rfl) _ _ _ vs rfl (Hh.out.alloc _) H1.out (by omega) (by omega) (by simp) ?_; intro A' c' w1 hown hb))
    go_ret
    exact ⟨A', c', rfl, hown, ((Below.refl _ _).alloc (Nat.le_refl _) _).trans hb⟩


set_option maxHeartbeats 400000 in
theorem clonepages_any (A : Option Addr) (n c : Nat) (vs : List Value) (w : World) (h : Has w A n 3 vs) (h1 : ∀ u ∈ vs, u.oneCell' = true) (hn : n ≤ 1048576) :
    Calls Try.prog 109 #[.slice A n c] w fun e w' => ∃ A' c', e = .returned (.slice A' n c') ∧ w'.ownsRow w.heap.size 98 3 (.slice A' n c') n vs ∧ Below w.heap.size w w' := by
  have hq := fun (w : World) => Lib.run_eql_slice_nil (P := Try.prog) w 94 98 A n c 0 0 Try.underlying94
  rcases A with _ | ad
  · have hn0 : n = 0 := by
      rcases Nat.eq_zero_or_pos n with h0 | h0
      · exact h0
      · obtain ⟨b, off, h', _⟩ := h.2 (by omega)
        cases h'
    subst hn0
    have hb : vs = [] := List.eq_nil_of_length_eq_zero (by simpa using h.1)
    subst hb
    go_enter Try.func109, Try.ntmps109
    go_wp2
    go_ret
    exact ⟨none, 0, rfl, World.ownsRow_nil _ _ _ _, Below.refl _ _⟩
  · have Hh := Lib.hid h
    have H1 := Lib.hid h1
    clear h h1
    go_enter Try.func109, Try.ntmps109
    go_wp2_with (first
      | (at_builtin; refine wpList_copy_has _ rfl (.tmp 5) (.tmp 6) 94 rfl w.heap.size 98 _ 3 24 info98 Try.underlying94 rfl (by decide) _ rfl (World.ownsRow_made _ #[] 0 (Nat.le_refl _) (by decide) rfl) _ _ _ vs rfl (Hh.out.alloc _) H1.out (by omega) (by omega) (by simp) ?_; intro A' c' w1 hown hb))
    go_ret
    exact ⟨A', c', rfl, hown, ((Below.refl _ _).alloc (Nat.le_refl _) _).trans hb⟩


set_option maxHeartbeats 400000 in
theorem clonenums_any (A : Option Addr) (n c : Nat) (vs : List Value) (w : World) (h : Has w A n 1 vs) (h1 : ∀ u ∈ vs, u.oneCell' = true) (hn : n ≤ 1048576) :
    Calls Try.prog 110 #[.slice A n c] w fun e w' => ∃ A' c', e = .returned (.slice A' n c') ∧ w'.ownsRow w.heap.size 3 1 (.slice A' n c') n vs ∧ Below w.heap.size w w' := by
  have hq := fun (w : World) => Lib.run_eql_slice_nil (P := Try.prog) w 23 3 A n c 0 0 Try.underlying23
  rcases A with _ | ad
  · have hn0 : n = 0 := by
      rcases Nat.eq_zero_or_pos n with h0 | h0
      · exact h0
      · obtain ⟨b, off, h', _⟩ := h.2 (by omega)
        cases h'
    subst hn0
    have hb : vs = [] := List.eq_nil_of_length_eq_zero (by simpa using h.1)
    subst hb
    go_enter Try.func110, Try.ntmps110
    go_wp2
    go_ret
    exact ⟨none, 0, rfl, World.ownsRow_nil _ _ _ _, Below.refl _ _⟩
  · have Hh := Lib.hid h
    have H1 := Lib.hid h1
    clear h h1
    go_enter Try.func110, Try.ntmps110
    go_wp2_with (first
      | (at_builtin; refine wpList_copy_has _ rfl (.tmp 5) (.tmp 6) 23 rfl w.heap.size 3 _ 1 8 info3p Try.underlying23 rfl (by decide) _ rfl (World.ownsRow_made _ #[] 0 (Nat.le_refl _) (by decide) rfl) _ _ _ vs rfl (Hh.out.alloc _) H1.out (by omega) (by omega) (by simp) ?_; intro A' c' w1 hown hb))
    go_ret
    exact ⟨A', c', rfl, hown, ((Below.refl _ _).alloc (Nat.le_refl _) _).trans hb⟩

end Go.Proofs.Ytjlmgjpnfppkoaa
