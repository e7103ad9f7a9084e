/-
  The walk of FrameFits: it returns true, and what was there before is as it was.
-/
import Derived.LoopTactic
import Derived.Test.YtjlmgjpnfppkoaaFAwake
import Derived.Test.YtjlmgjpnfppkoaaLeaf
namespace Go.Proofs.Ytjlmgjpnfppkoaa
open Go.RowKit
set_option linter.unusedVariables false
attribute [local go_sem ↓] Go.wp_at_zero Go.wp_at_succ

theorem fvalid_lit_t (s b : Int) (A : Option Addr) (c : Nat) (w : World) (h : Has w A 1 2 (frVals [⟨s, b⟩])) (hf : s = 1 ∧ 1 ≤ b ∧ b ≤ 64 ∨ s ≠ 1 ∧ 0 ≤ s ∧ s ≤ 5 ∧ b = 0) :
    Calls Try.prog 50 #[.slice A 1 c] w fun e w' => e = .returned (.bool true) ∧ Below w.heap.size w w' := by
  have : validF [⟨s, b⟩] = true := by simp [validF, fitB]; split <;> omega
  rw [← this]
  exact fvalid_any A 1 c [⟨s, b⟩] w h
theorem fvalid_lit_f (s b : Int) (A : Option Addr) (c : Nat) (w : World) (h : Has w A 1 2 (frVals [⟨s, b⟩])) (hf : ¬ (s = 1 ∧ 1 ≤ b ∧ b ≤ 64 ∨ s ≠ 1 ∧ 0 ≤ s ∧ s ≤ 5 ∧ b = 0)) :
    Calls Try.prog 50 #[.slice A 1 c] w fun e w' => e = .returned (.bool false) ∧ Below w.heap.size w w' := by
  have : validF [⟨s, b⟩] = false := by
    rw [Bool.eq_false_iff]
    intro hv
    simp [validF, fitB] at hv
    split at hv <;> (try simp at hv) <;> omega
  rw [← this]
  exact fvalid_any A 1 c [⟨s, b⟩] w h
theorem valid_nil : validF [] = false := by decide

set_option maxRecDepth 100000 in
set_option maxHeartbeats 8000000 in
theorem ffits_0 (s b : Int) (w : World) (hb : -9223372036854775808 ≤ b ∧ b ≤ 9223372036854775807) (hM : mod b 6 = 0) :
    Calls Try.prog 10 #[.int .i64 s, .int .i64 b] w fun e w' => e = .returned (.bool true) ∧ Below w.heap.size w w' := by
  obtain ⟨r1, r1'⟩ := mod_range s 9 (by omega)
  obtain ⟨S, hS⟩ : ∃ S, mod s 9 = S := ⟨_, rfl⟩
  rw [hS] at r1 r1'
  have hw1 : IntKind.i64.wrap (S - 1) = S - 1 := IntWalk.i64_in _ (by omega)
  go_enter Try.func10, Try.ntmps10
  go_wp2_with (first | (go_at_call 20; refine (mod_any _ _ _ (by omega)).mono ?_; rintro e w' ⟨rfl, rfl⟩))
  go_region_with (first | (go_at_call 20; refine (mod_any _ _ _ (by omega)).mono ?_; rintro e w' ⟨rfl, rfl⟩))
  all_goals (go_wp2_with fail)
  all_goals (first
    | (refine (fvalid_lit_t _ _ _ _ _ (Has.drew (Has.lit_at _ _ _ 1 2 _ _ rfl ?_ rfl)) ?_).mono ?_
       · simp
       · omega)
    | (refine (fvalid_lit_f _ _ _ _ _ (Has.drew (Has.lit_at _ _ _ 1 2 _ _ rfl ?_ rfl)) ?_).mono ?_
       · simp
       · omega))
  all_goals (
    rintro e w1 ⟨rfl, hb1⟩
    have hB1 := (show Below w.heap.size w _ by (repeat' (first | (with_reducible exact Below.refl _ _) | (with_reducible assumption) | (with_reducible refine Below.alloc ?_ ?_ _) | (with_reducible refine Below.drew ?_) | (with_reducible refine below_drewN ?_ _) | (with_reducible refine Below.setCell ?_ ?_ _) | (with_reducible exact Nat.le_refl _) | omega | (simp <;> omega)))).trans (hb1.mono (show w.heap.size ≤ _ by (first | (with_reducible exact Nat.le_refl _) | (with_reducible assumption) | omega | (simp <;> omega))))
    clear hb1
    go_wp2_with fail
    refine (fvalid_any none 0 0 [] _ (Has.nil_ _ _ _)).mono ?_
    rewrite [valid_nil]
    rintro e w2 ⟨rfl, hb2⟩
    have hB2 := hB1.trans (hb2.mono hB1.size)
    clear hb2
    go_wp2_with fail
    refine (fawake_any _).mono ?_
    rintro e w3 ⟨rfl, hb3⟩
    have hB3 := hB2.trans (hb3.mono hB2.size)
    clear hb3
    go_wp2_with fail
    go_ret
    exact ⟨rfl, hB3⟩)

set_option maxRecDepth 100000 in
set_option maxHeartbeats 8000000 in
theorem ffits_1 (s b : Int) (w : World) (hb : -9223372036854775808 ≤ b ∧ b ≤ 9223372036854775807) (hM : mod b 6 = 1) :
    Calls Try.prog 10 #[.int .i64 s, .int .i64 b] w fun e w' => e = .returned (.bool true) ∧ Below w.heap.size w w' := by
  obtain ⟨r1, r1'⟩ := mod_range s 9 (by omega)
  obtain ⟨S, hS⟩ : ∃ S, mod s 9 = S := ⟨_, rfl⟩
  rw [hS] at r1 r1'
  have hw1 : IntKind.i64.wrap (S - 1) = S - 1 := IntWalk.i64_in _ (by omega)
  go_enter Try.func10, Try.ntmps10
  go_wp2_with (first | (go_at_call 20; refine (mod_any _ _ _ (by omega)).mono ?_; rintro e w' ⟨rfl, rfl⟩))
  go_region_with (first | (go_at_call 20; refine (mod_any _ _ _ (by omega)).mono ?_; rintro e w' ⟨rfl, rfl⟩))
  all_goals (go_wp2_with fail)
  all_goals (first
    | (refine (fvalid_lit_t _ _ _ _ _ (Has.drew (Has.lit_at _ _ _ 1 2 _ _ rfl ?_ rfl)) ?_).mono ?_
       · simp
       · omega)
    | (refine (fvalid_lit_f _ _ _ _ _ (Has.drew (Has.lit_at _ _ _ 1 2 _ _ rfl ?_ rfl)) ?_).mono ?_
       · simp
       · omega))
  all_goals (
    rintro e w1 ⟨rfl, hb1⟩
    have hB1 := (show Below w.heap.size w _ by (repeat' (first | (with_reducible exact Below.refl _ _) | (with_reducible assumption) | (with_reducible refine Below.alloc ?_ ?_ _) | (with_reducible refine Below.drew ?_) | (with_reducible refine below_drewN ?_ _) | (with_reducible refine Below.setCell ?_ ?_ _) | (with_reducible exact Nat.le_refl _) | omega | (simp <;> omega)))).trans (hb1.mono (show w.heap.size ≤ _ by (first | (with_reducible exact Nat.le_refl _) | (with_reducible assumption) | omega | (simp <;> omega))))
    clear hb1
    go_wp2_with fail
    refine (fvalid_any none 0 0 [] _ (Has.nil_ _ _ _)).mono ?_
    rewrite [valid_nil]
    rintro e w2 ⟨rfl, hb2⟩
    have hB2 := hB1.trans (hb2.mono hB1.size)
    clear hb2
    go_wp2_with fail
    refine (fawake_any _).mono ?_
    rintro e w3 ⟨rfl, hb3⟩
    have hB3 := hB2.trans (hb3.mono hB2.size)
    clear hb3
    go_wp2_with fail
    go_ret
    exact ⟨rfl, hB3⟩)

set_option maxRecDepth 100000 in
set_option maxHeartbeats 8000000 in
theorem ffits_2 (s b : Int) (w : World) (hb : -9223372036854775808 ≤ b ∧ b ≤ 9223372036854775807) (hM : mod b 6 = 2) :
    Calls Try.prog 10 #[.int .i64 s, .int .i64 b] w fun e w' => e = .returned (.bool true) ∧ Below w.heap.size w w' := by
  obtain ⟨r1, r1'⟩ := mod_range s 9 (by omega)
  obtain ⟨S, hS⟩ : ∃ S, mod s 9 = S := ⟨_, rfl⟩
  rw [hS] at r1 r1'
  have hw1 : IntKind.i64.wrap (S - 1) = S - 1 := IntWalk.i64_in _ (by omega)
  go_enter Try.func10, Try.ntmps10
  go_wp2_with (first | (go_at_call 20; refine (mod_any _ _ _ (by omega)).mono ?_; rintro e w' ⟨rfl, rfl⟩))
  go_region_with (first | (go_at_call 20; refine (mod_any _ _ _ (by omega)).mono ?_; rintro e w' ⟨rfl, rfl⟩))
  all_goals (go_wp2_with fail)
  all_goals (first
    | (refine (fvalid_lit_t _ _ _ _ _ (Has.drew (Has.lit_at _ _ _ 1 2 _ _ rfl ?_ rfl)) ?_).mono ?_
       · simp
       · omega)
    | (refine (fvalid_lit_f _ _ _ _ _ (Has.drew (Has.lit_at _ _ _ 1 2 _ _ rfl ?_ rfl)) ?_).mono ?_
       · simp
       · omega))
  all_goals (
    rintro e w1 ⟨rfl, hb1⟩
    have hB1 := (show Below w.heap.size w _ by (repeat' (first | (with_reducible exact Below.refl _ _) | (with_reducible assumption) | (with_reducible refine Below.alloc ?_ ?_ _) | (with_reducible refine Below.drew ?_) | (with_reducible refine below_drewN ?_ _) | (with_reducible refine Below.setCell ?_ ?_ _) | (with_reducible exact Nat.le_refl _) | omega | (simp <;> omega)))).trans (hb1.mono (show w.heap.size ≤ _ by (first | (with_reducible exact Nat.le_refl _) | (with_reducible assumption) | omega | (simp <;> omega))))
    clear hb1
    go_wp2_with fail
    refine (fvalid_any none 0 0 [] _ (Has.nil_ _ _ _)).mono ?_
    rewrite [valid_nil]
    rintro e w2 ⟨rfl, hb2⟩
    have hB2 := hB1.trans (hb2.mono hB1.size)
    clear hb2
    go_wp2_with fail
    refine (fawake_any _).mono ?_
    rintro e w3 ⟨rfl, hb3⟩
    have hB3 := hB2.trans (hb3.mono hB2.size)
    clear hb3
    go_wp2_with fail
    go_ret
    exact ⟨rfl, hB3⟩)

set_option maxRecDepth 100000 in
set_option maxHeartbeats 8000000 in
theorem ffits_3 (s b : Int) (w : World) (hb : -9223372036854775808 ≤ b ∧ b ≤ 9223372036854775807) (hM : mod b 6 = 3) :
    Calls Try.prog 10 #[.int .i64 s, .int .i64 b] w fun e w' => e = .returned (.bool true) ∧ Below w.heap.size w w' := by
  obtain ⟨r1, r1'⟩ := mod_range s 9 (by omega)
  obtain ⟨S, hS⟩ : ∃ S, mod s 9 = S := ⟨_, rfl⟩
  rw [hS] at r1 r1'
  have hw1 : IntKind.i64.wrap (S - 1) = S - 1 := IntWalk.i64_in _ (by omega)
  go_enter Try.func10, Try.ntmps10
  go_wp2_with (first | (go_at_call 20; refine (mod_any _ _ _ (by omega)).mono ?_; rintro e w' ⟨rfl, rfl⟩))
  go_region_with (first | (go_at_call 20; refine (mod_any _ _ _ (by omega)).mono ?_; rintro e w' ⟨rfl, rfl⟩))
  all_goals (go_wp2_with fail)
  all_goals (first
    | (refine (fvalid_lit_t _ _ _ _ _ (Has.drew (Has.lit_at _ _ _ 1 2 _ _ rfl ?_ rfl)) ?_).mono ?_
       · simp
       · omega)
    | (refine (fvalid_lit_f _ _ _ _ _ (Has.drew (Has.lit_at _ _ _ 1 2 _ _ rfl ?_ rfl)) ?_).mono ?_
       · simp
       · omega))
  all_goals (
    rintro e w1 ⟨rfl, hb1⟩
    have hB1 := (show Below w.heap.size w _ by (repeat' (first | (with_reducible exact Below.refl _ _) | (with_reducible assumption) | (with_reducible refine Below.alloc ?_ ?_ _) | (with_reducible refine Below.drew ?_) | (with_reducible refine below_drewN ?_ _) | (with_reducible refine Below.setCell ?_ ?_ _) | (with_reducible exact Nat.le_refl _) | omega | (simp <;> omega)))).trans (hb1.mono (show w.heap.size ≤ _ by (first | (with_reducible exact Nat.le_refl _) | (with_reducible assumption) | omega | (simp <;> omega))))
    clear hb1
    go_wp2_with fail
    refine (fvalid_any none 0 0 [] _ (Has.nil_ _ _ _)).mono ?_
    rewrite [valid_nil]
    rintro e w2 ⟨rfl, hb2⟩
    have hB2 := hB1.trans (hb2.mono hB1.size)
    clear hb2
    go_wp2_with fail
    refine (fawake_any _).mono ?_
    rintro e w3 ⟨rfl, hb3⟩
    have hB3 := hB2.trans (hb3.mono hB2.size)
    clear hb3
    go_wp2_with fail
    go_ret
    exact ⟨rfl, hB3⟩)

set_option maxRecDepth 100000 in
set_option maxHeartbeats 8000000 in
theorem ffits_4 (s b : Int) (w : World) (hb : -9223372036854775808 ≤ b ∧ b ≤ 9223372036854775807) (hM : mod b 6 = 4) :
    Calls Try.prog 10 #[.int .i64 s, .int .i64 b] w fun e w' => e = .returned (.bool true) ∧ Below w.heap.size w w' := by
  obtain ⟨r1, r1'⟩ := mod_range s 9 (by omega)
  obtain ⟨S, hS⟩ : ∃ S, mod s 9 = S := ⟨_, rfl⟩
  rw [hS] at r1 r1'
  have hw1 : IntKind.i64.wrap (S - 1) = S - 1 := IntWalk.i64_in _ (by omega)
  go_enter Try.func10, Try.ntmps10
  go_wp2_with (first | (go_at_call 20; refine (mod_any _ _ _ (by omega)).mono ?_; rintro e w' ⟨rfl, rfl⟩))
  go_region_with (first | (go_at_call 20; refine (mod_any _ _ _ (by omega)).mono ?_; rintro e w' ⟨rfl, rfl⟩))
  all_goals (go_wp2_with fail)
  all_goals (first
    | (refine (fvalid_lit_t _ _ _ _ _ (Has.drew (Has.lit_at _ _ _ 1 2 _ _ rfl ?_ rfl)) ?_).mono ?_
       · simp
       · omega)
    | (refine (fvalid_lit_f _ _ _ _ _ (Has.drew (Has.lit_at _ _ _ 1 2 _ _ rfl ?_ rfl)) ?_).mono ?_
       · simp
       · omega))
  all_goals (
    rintro e w1 ⟨rfl, hb1⟩
    have hB1 := (show Below w.heap.size w _ by (repeat' (first | (with_reducible exact Below.refl _ _) | (with_reducible assumption) | (with_reducible refine Below.alloc ?_ ?_ _) | (with_reducible refine Below.drew ?_) | (with_reducible refine below_drewN ?_ _) | (with_reducible refine Below.setCell ?_ ?_ _) | (with_reducible exact Nat.le_refl _) | omega | (simp <;> omega)))).trans (hb1.mono (show w.heap.size ≤ _ by (first | (with_reducible exact Nat.le_refl _) | (with_reducible assumption) | omega | (simp <;> omega))))
    clear hb1
    go_wp2_with fail
    refine (fvalid_any none 0 0 [] _ (Has.nil_ _ _ _)).mono ?_
    rewrite [valid_nil]
    rintro e w2 ⟨rfl, hb2⟩
    have hB2 := hB1.trans (hb2.mono hB1.size)
    clear hb2
    go_wp2_with fail
    refine (fawake_any _).mono ?_
    rintro e w3 ⟨rfl, hb3⟩
    have hB3 := hB2.trans (hb3.mono hB2.size)
    clear hb3
    go_wp2_with fail
    go_ret
    exact ⟨rfl, hB3⟩)

set_option maxRecDepth 100000 in
set_option maxHeartbeats 8000000 in
theorem ffits_5 (s b : Int) (w : World) (hb : -9223372036854775808 ≤ b ∧ b ≤ 9223372036854775807) (hM : mod b 6 = 5) :
    Calls Try.prog 10 #[.int .i64 s, .int .i64 b] w fun e w' => e = .returned (.bool true) ∧ Below w.heap.size w w' := by
  obtain ⟨r1, r1'⟩ := mod_range s 9 (by omega)
  obtain ⟨S, hS⟩ : ∃ S, mod s 9 = S := ⟨_, rfl⟩
  rw [hS] at r1 r1'
  have hw1 : IntKind.i64.wrap (S - 1) = S - 1 := IntWalk.i64_in _ (by omega)
  by_cases h64 : b ≤ 64
  · go_enter Try.func10, Try.ntmps10
    go_wp2_with (first | (go_at_call 20; refine (mod_any _ _ _ (by omega)).mono ?_; rintro e w' ⟨rfl, rfl⟩))
    go_region_with (first | (go_at_call 20; refine (mod_any _ _ _ (by omega)).mono ?_; rintro e w' ⟨rfl, rfl⟩))
    all_goals (go_wp2_with fail)
    all_goals (first
      | (refine (fvalid_lit_t _ _ _ _ _ (Has.drew (Has.lit_at _ _ _ 1 2 _ _ rfl ?_ rfl)) ?_).mono ?_
         · simp
         · omega)
      | (refine (fvalid_lit_f _ _ _ _ _ (Has.drew (Has.lit_at _ _ _ 1 2 _ _ rfl ?_ rfl)) ?_).mono ?_
         · simp
         · omega))
    all_goals (
      rintro e w1 ⟨rfl, hb1⟩
      have hB1 := (show Below w.heap.size w _ by (repeat' (first | (with_reducible exact Below.refl _ _) | (with_reducible assumption) | (with_reducible refine Below.alloc ?_ ?_ _) | (with_reducible refine Below.drew ?_) | (with_reducible refine below_drewN ?_ _) | (with_reducible refine Below.setCell ?_ ?_ _) | (with_reducible exact Nat.le_refl _) | omega | (simp <;> omega)))).trans (hb1.mono (show w.heap.size ≤ _ by (first | (with_reducible exact Nat.le_refl _) | (with_reducible assumption) | omega | (simp <;> omega))))
      clear hb1
      go_wp2_with fail
      refine (fvalid_any none 0 0 [] _ (Has.nil_ _ _ _)).mono ?_
      rewrite [valid_nil]
      rintro e w2 ⟨rfl, hb2⟩
      have hB2 := hB1.trans (hb2.mono hB1.size)
      clear hb2
      go_wp2_with fail
      refine (fawake_any _).mono ?_
      rintro e w3 ⟨rfl, hb3⟩
      have hB3 := hB2.trans (hb3.mono hB2.size)
      clear hb3
      go_wp2_with fail
      go_ret
      exact ⟨rfl, hB3⟩)
  · have h64b : decide (b ≤ 64) = false := by simp; omega
    go_enter Try.func10, Try.ntmps10
    go_wp2_with (first | (go_at_call 20; refine (mod_any _ _ _ (by omega)).mono ?_; rintro e w' ⟨rfl, rfl⟩))
    go_region_with (first | (go_at_call 20; refine (mod_any _ _ _ (by omega)).mono ?_; rintro e w' ⟨rfl, rfl⟩))
    all_goals (go_wp2_with fail)
    all_goals (first
      | (refine (fvalid_lit_t _ _ _ _ _ (Has.drew (Has.lit_at _ _ _ 1 2 _ _ rfl ?_ rfl)) ?_).mono ?_
         · simp
         · omega)
      | (refine (fvalid_lit_f _ _ _ _ _ (Has.drew (Has.lit_at _ _ _ 1 2 _ _ rfl ?_ rfl)) ?_).mono ?_
         · simp
         · omega))
    all_goals (
      rintro e w1 ⟨rfl, hb1⟩
      have hB1 := (show Below w.heap.size w _ by (repeat' (first | (with_reducible exact Below.refl _ _) | (with_reducible assumption) | (with_reducible refine Below.alloc ?_ ?_ _) | (with_reducible refine Below.drew ?_) | (with_reducible refine below_drewN ?_ _) | (with_reducible refine Below.setCell ?_ ?_ _) | (with_reducible exact Nat.le_refl _) | omega | (simp <;> omega)))).trans (hb1.mono (show w.heap.size ≤ _ by (first | (with_reducible exact Nat.le_refl _) | (with_reducible assumption) | omega | (simp <;> omega))))
      clear hb1
      go_wp2_with fail
      refine (fvalid_any none 0 0 [] _ (Has.nil_ _ _ _)).mono ?_
      rewrite [valid_nil]
      rintro e w2 ⟨rfl, hb2⟩
      have hB2 := hB1.trans (hb2.mono hB1.size)
      clear hb2
      go_wp2_with fail
      refine (fawake_any _).mono ?_
      rintro e w3 ⟨rfl, hb3⟩
      have hB3 := hB2.trans (hb3.mono hB2.size)
      clear hb3
      go_wp2_with fail
      go_ret
      exact ⟨rfl, hB3⟩)

theorem ffits_any (s b : Int) (w : World) (hb : -9223372036854775808 ≤ b ∧ b ≤ 9223372036854775807) :
    Calls Try.prog 10 #[.int .i64 s, .int .i64 b] w fun e w' => e = .returned (.bool true) ∧ Below w.heap.size w w' := by
  obtain ⟨r2, r2'⟩ := mod_range b 6 (by omega)
  have MC : mod b 6 = 0 ∨ mod b 6 = 1 ∨ mod b 6 = 2 ∨ mod b 6 = 3 ∨ mod b 6 = 4 ∨ mod b 6 = 5 := by omega
  rcases MC with h | h | h | h | h | h
  · exact ffits_0 s b w hb h
  · exact ffits_1 s b w hb h
  · exact ffits_2 s b w hb h
  · exact ffits_3 s b w hb h
  · exact ffits_4 s b w hb h
  · exact ffits_5 s b w hb h

end Go.Proofs.Ytjlmgjpnfppkoaa
