/-
  Contracts of functions of the given program (layer 32), walked: a transfer begins, is valid, and its next word.
-/
import Derived.Test.YtjlmgjpnfppkoaaDev
namespace Go.Proofs.Ytjlmgjpnfppkoaa
open Go.RowKit
attribute [local go_sem ↓] Go.wp_at_zero Go.wp_at_succ

set_option maxHeartbeats 2000000 in
theorem dvalid_any (f t c n : Int) (s x : Bool) (w : World) (h0 : -9223372036854775808 ≤ c) :
    Calls Try.prog 44 #[.agg #[.int .i64 f, .int .i64 t, .int .i64 c, .int .i64 n, .bool s, .bool x]] w fun e w' => e = .returned (.bool (validT ⟨f, t, c, n, s, x⟩)) ∧ Below w.heap.size w w' := by
  cases hp : placedB f t c
  · go_enter Try.func44, Try.ntmps44
    go_wp2_with (first | (go_at_call 74; refine (placed_any _ _ _ _ h0).mono ?_; rintro e w' ⟨rfl, rfl⟩))
    all_goals (go_ret; exact ⟨ret_bool (by simp [validT, hp]), by (repeat' (first | (with_reducible exact Below.refl _ _) | (with_reducible assumption) | (with_reducible refine Below.alloc ?_ ?_ _) | (with_reducible refine Below.drew ?_) | (with_reducible refine below_drewN ?_ _) | (with_reducible refine Below.setCell ?_ ?_ _) | (with_reducible exact Nat.le_refl _) | omega | (simp <;> omega)))⟩)
  · cases ha : apartB f t c
    · go_enter Try.func44, Try.ntmps44
      go_wp2_with (first | (go_at_call 74; refine (placed_any _ _ _ _ h0).mono ?_; rintro e w' ⟨rfl, rfl⟩) | (go_at_call 75; refine (apart_any _ _ _ _ hp).mono ?_; rintro e w' ⟨rfl, rfl⟩))
      all_goals (go_ret; exact ⟨ret_bool (by simp [validT, hp, ha]), by (repeat' (first | (with_reducible exact Below.refl _ _) | (with_reducible assumption) | (with_reducible refine Below.alloc ?_ ?_ _) | (with_reducible refine Below.drew ?_) | (with_reducible refine below_drewN ?_ _) | (with_reducible refine Below.setCell ?_ ?_ _) | (with_reducible exact Nat.le_refl _) | omega | (simp <;> omega)))⟩)
    · by_cases h1 : 0 ≤ n
      · by_cases h2 : n ≤ c
        · cases x
          · go_enter Try.func44, Try.ntmps44
            go_wp2_with (first | (go_at_call 74; refine (placed_any _ _ _ _ h0).mono ?_; rintro e w' ⟨rfl, rfl⟩) | (go_at_call 75; refine (apart_any _ _ _ _ hp).mono ?_; rintro e w' ⟨rfl, rfl⟩))
            all_goals (go_ret; exact ⟨ret_bool (by simp [validT, hp, ha, h1, h2]), by (repeat' (first | (with_reducible exact Below.refl _ _) | (with_reducible assumption) | (with_reducible refine Below.alloc ?_ ?_ _) | (with_reducible refine Below.drew ?_) | (with_reducible refine below_drewN ?_ _) | (with_reducible refine Below.setCell ?_ ?_ _) | (with_reducible exact Nat.le_refl _) | omega | (simp <;> omega)))⟩)
          · cases s
            · go_enter Try.func44, Try.ntmps44
              go_wp2_with (first | (go_at_call 74; refine (placed_any _ _ _ _ h0).mono ?_; rintro e w' ⟨rfl, rfl⟩) | (go_at_call 75; refine (apart_any _ _ _ _ hp).mono ?_; rintro e w' ⟨rfl, rfl⟩))
              all_goals (go_ret; exact ⟨ret_bool (by simp [validT, hp, ha, h1, h2]), by (repeat' (first | (with_reducible exact Below.refl _ _) | (with_reducible assumption) | (with_reducible refine Below.alloc ?_ ?_ _) | (with_reducible refine Below.drew ?_) | (with_reducible refine below_drewN ?_ _) | (with_reducible refine Below.setCell ?_ ?_ _) | (with_reducible exact Nat.le_refl _) | omega | (simp <;> omega)))⟩)
            · go_enter Try.func44, Try.ntmps44
              go_wp2_with (first | (go_at_call 74; refine (placed_any _ _ _ _ h0).mono ?_; rintro e w' ⟨rfl, rfl⟩) | (go_at_call 75; refine (apart_any _ _ _ _ hp).mono ?_; rintro e w' ⟨rfl, rfl⟩))
              all_goals (go_ret; exact ⟨ret_bool (by simp [validT, hp, ha, h1, h2]), by (repeat' (first | (with_reducible exact Below.refl _ _) | (with_reducible assumption) | (with_reducible refine Below.alloc ?_ ?_ _) | (with_reducible refine Below.drew ?_) | (with_reducible refine below_drewN ?_ _) | (with_reducible refine Below.setCell ?_ ?_ _) | (with_reducible exact Nat.le_refl _) | omega | (simp <;> omega)))⟩)
        · go_enter Try.func44, Try.ntmps44
          go_wp2_with (first | (go_at_call 74; refine (placed_any _ _ _ _ h0).mono ?_; rintro e w' ⟨rfl, rfl⟩) | (go_at_call 75; refine (apart_any _ _ _ _ hp).mono ?_; rintro e w' ⟨rfl, rfl⟩))
          all_goals (go_ret; exact ⟨ret_bool (by simp [validT, hp, ha]; intros; exfalso; omega), by (repeat' (first | (with_reducible exact Below.refl _ _) | (with_reducible assumption) | (with_reducible refine Below.alloc ?_ ?_ _) | (with_reducible refine Below.drew ?_) | (with_reducible refine below_drewN ?_ _) | (with_reducible refine Below.setCell ?_ ?_ _) | (with_reducible exact Nat.le_refl _) | omega | (simp <;> omega)))⟩)
      · go_enter Try.func44, Try.ntmps44
        go_wp2_with (first | (go_at_call 74; refine (placed_any _ _ _ _ h0).mono ?_; rintro e w' ⟨rfl, rfl⟩) | (go_at_call 75; refine (apart_any _ _ _ _ hp).mono ?_; rintro e w' ⟨rfl, rfl⟩))
        all_goals (go_ret; exact ⟨ret_bool (by simp [validT, hp, ha]; intros; exfalso; omega), by (repeat' (first | (with_reducible exact Below.refl _ _) | (with_reducible assumption) | (with_reducible refine Below.alloc ?_ ?_ _) | (with_reducible refine Below.drew ?_) | (with_reducible refine below_drewN ?_ _) | (with_reducible refine Below.setCell ?_ ?_ _) | (with_reducible exact Nat.le_refl _) | omega | (simp <;> omega)))⟩)

theorem check_ok {f t c : Int} : (checkF f t c == 0) = (placedB f t c && apartB f t c) := by
  cases hp : placedB f t c <;> cases ha : apartB f t c <;> simp [checkF, hp, ha]

set_option maxHeartbeats 2000000 in
theorem rvalid_any (f t c n : Int) (s x : Bool) (w : World) (h0 : -9223372036854775808 ≤ c) :
    Calls Try.prog 45 #[.agg #[.int .i64 f, .int .i64 t, .int .i64 c, .int .i64 n, .bool s, .bool x]] w fun e w' => e = .returned (.bool (validT ⟨f, t, c, n, s, x⟩)) ∧ Below w.heap.size w w' := by
  have hck := check_ok (f := f) (t := t) (c := c)
  cases hpa : (placedB f t c && apartB f t c)
  · rw [hpa] at hck
    have hv : validT ⟨f, t, c, n, s, x⟩ = false := by simp only [validT, ← Bool.and_assoc, hpa, Bool.false_and]
    rewrite [hv]
    clear hv hpa
    go_enter Try.func45, Try.ntmps45
    go_wp2_with (first | (go_at_call 76; refine (check_any _ _ _ _ h0).mono ?_; rintro e w' ⟨rfl, rfl⟩))
    all_goals (go_ret; exact ⟨rfl, by (repeat' (first | (with_reducible exact Below.refl _ _) | (with_reducible assumption) | (with_reducible refine Below.alloc ?_ ?_ _) | (with_reducible refine Below.drew ?_) | (with_reducible refine below_drewN ?_ _) | (with_reducible refine Below.setCell ?_ ?_ _) | (with_reducible exact Nat.le_refl _) | omega | (simp <;> omega)))⟩)
  · rw [hpa] at hck
    have hv : validT ⟨f, t, c, n, s, x⟩ = (decide (0 ≤ n) && (decide (n ≤ c) && (!x || (s && decide (n < c))))) := by simp only [validT, ← Bool.and_assoc, hpa, Bool.true_and]
    rewrite [hv]
    clear hv hpa
    by_cases h1 : 0 ≤ n
    · by_cases h2 : n ≤ c
      · cases x
        · go_enter Try.func45, Try.ntmps45
          go_wp2_with (first | (go_at_call 76; refine (check_any _ _ _ _ h0).mono ?_; rintro e w' ⟨rfl, rfl⟩))
          all_goals (go_ret; exact ⟨ret_bool (by simp [h1, h2]), by (repeat' (first | (with_reducible exact Below.refl _ _) | (with_reducible assumption) | (with_reducible refine Below.alloc ?_ ?_ _) | (with_reducible refine Below.drew ?_) | (with_reducible refine below_drewN ?_ _) | (with_reducible refine Below.setCell ?_ ?_ _) | (with_reducible exact Nat.le_refl _) | omega | (simp <;> omega)))⟩)
        · cases s
          · go_enter Try.func45, Try.ntmps45
            go_wp2_with (first | (go_at_call 76; refine (check_any _ _ _ _ h0).mono ?_; rintro e w' ⟨rfl, rfl⟩))
            all_goals (go_ret; exact ⟨ret_bool (by simp [h1, h2]), by (repeat' (first | (with_reducible exact Below.refl _ _) | (with_reducible assumption) | (with_reducible refine Below.alloc ?_ ?_ _) | (with_reducible refine Below.drew ?_) | (with_reducible refine below_drewN ?_ _) | (with_reducible refine Below.setCell ?_ ?_ _) | (with_reducible exact Nat.le_refl _) | omega | (simp <;> omega)))⟩)
          · go_enter Try.func45, Try.ntmps45
            go_wp2_with (first | (go_at_call 76; refine (check_any _ _ _ _ h0).mono ?_; rintro e w' ⟨rfl, rfl⟩))
            all_goals (go_ret; exact ⟨ret_bool (by simp [h1, h2]), by (repeat' (first | (with_reducible exact Below.refl _ _) | (with_reducible assumption) | (with_reducible refine Below.alloc ?_ ?_ _) | (with_reducible refine Below.drew ?_) | (with_reducible refine below_drewN ?_ _) | (with_reducible refine Below.setCell ?_ ?_ _) | (with_reducible exact Nat.le_refl _) | omega | (simp <;> omega)))⟩)
      · go_enter Try.func45, Try.ntmps45
        go_wp2_with (first | (go_at_call 76; refine (check_any _ _ _ _ h0).mono ?_; rintro e w' ⟨rfl, rfl⟩))
        all_goals (go_ret; exact ⟨ret_bool (by simp; intros; exfalso; omega), by (repeat' (first | (with_reducible exact Below.refl _ _) | (with_reducible assumption) | (with_reducible refine Below.alloc ?_ ?_ _) | (with_reducible refine Below.drew ?_) | (with_reducible refine below_drewN ?_ _) | (with_reducible refine Below.setCell ?_ ?_ _) | (with_reducible exact Nat.le_refl _) | omega | (simp <;> omega)))⟩)
    · go_enter Try.func45, Try.ntmps45
      go_wp2_with (first | (go_at_call 76; refine (check_any _ _ _ _ h0).mono ?_; rintro e w' ⟨rfl, rfl⟩))
      all_goals (go_ret; exact ⟨ret_bool (by simp; intros; exfalso; omega), by (repeat' (first | (with_reducible exact Below.refl _ _) | (with_reducible assumption) | (with_reducible refine Below.alloc ?_ ?_ _) | (with_reducible refine Below.drew ?_) | (with_reducible refine below_drewN ?_ _) | (with_reducible refine Below.setCell ?_ ?_ _) | (with_reducible exact Nat.le_refl _) | omega | (simp <;> omega)))⟩)

def beginT (f t c : Int) (s : Bool) : TrD := if checkF f t c = 0 then ⟨f, t, c, 0, s, false⟩ else TrD.zero
set_option maxHeartbeats 2000000 in
theorem dbegin_any (f t c : Int) (s : Bool) (w : World) (h0 : -9223372036854775808 ≤ c) :
    Calls Try.prog 40 #[.int .i64 f, .int .i64 t, .int .i64 c, .bool s] w fun e w' => e = .returned (.tuple #[.agg #[.int .i64 (beginT f t c s).fr, .int .i64 (beginT f t c s).tt, .int .i64 (beginT f t c s).cnt, .int .i64 (beginT f t c s).dn, .bool (beginT f t c s).strict, .bool (beginT f t c s).failed], .int .i64 (checkF f t c)]) ∧ Below w.heap.size w w' := by
  cases hp : placedB f t c
  · have hc : checkF f t c = 2 := by simp [checkF, hp]
    have hb : beginT f t c s = TrD.zero := by simp [beginT, hc]
    rewrite [hc, hb]
    clear hc hb
    go_enter Try.func40, Try.ntmps40
    go_wp2_with (first | (go_at_call 74; refine (placed_any _ _ _ _ h0).mono ?_; rintro e w' ⟨rfl, rfl⟩))
    exact bodyPost_ret (v := .tuple #[.agg #[.int .i64 0, .int .i64 0, .int .i64 0, .int .i64 0, .bool false, .bool false], .int .i64 2]) (by simp [results, Try.results40, go_sem]) rfl ⟨rfl, by (repeat' (first | (with_reducible exact Below.refl _ _) | (with_reducible assumption) | (with_reducible refine Below.alloc ?_ ?_ _) | (with_reducible refine Below.drew ?_) | (with_reducible refine below_drewN ?_ _) | (with_reducible refine Below.setCell ?_ ?_ _) | (with_reducible exact Nat.le_refl _) | omega | (simp <;> omega)))⟩
  · cases ha : apartB f t c
    · have hc : checkF f t c = 10 := by simp [checkF, hp, ha]
      have hb : beginT f t c s = TrD.zero := by simp [beginT, hc]
      rewrite [hc, hb]
      clear hc hb
      go_enter Try.func40, Try.ntmps40
      go_wp2_with (first | (go_at_call 74; refine (placed_any _ _ _ _ h0).mono ?_; rintro e w' ⟨rfl, rfl⟩) | (go_at_call 75; refine (apart_any _ _ _ _ hp).mono ?_; rintro e w' ⟨rfl, rfl⟩))
      exact bodyPost_ret (v := .tuple #[.agg #[.int .i64 0, .int .i64 0, .int .i64 0, .int .i64 0, .bool false, .bool false], .int .i64 10]) (by simp [results, Try.results40, go_sem]) rfl ⟨rfl, by (repeat' (first | (with_reducible exact Below.refl _ _) | (with_reducible assumption) | (with_reducible refine Below.alloc ?_ ?_ _) | (with_reducible refine Below.drew ?_) | (with_reducible refine below_drewN ?_ _) | (with_reducible refine Below.setCell ?_ ?_ _) | (with_reducible exact Nat.le_refl _) | omega | (simp <;> omega)))⟩
    · have hc : checkF f t c = 0 := by simp [checkF, hp, ha]
      have hb : beginT f t c s = ⟨f, t, c, 0, s, false⟩ := by simp [beginT, hc]
      rewrite [hc, hb]
      clear hc hb
      go_enter Try.func40, Try.ntmps40
      go_wp2_with (first | (go_at_call 74; refine (placed_any _ _ _ _ h0).mono ?_; rintro e w' ⟨rfl, rfl⟩) | (go_at_call 75; refine (apart_any _ _ _ _ hp).mono ?_; rintro e w' ⟨rfl, rfl⟩))
      exact bodyPost_ret (v := .tuple #[.agg #[.int .i64 f, .int .i64 t, .int .i64 c, .int .i64 0, .bool s, .bool false], .int .i64 0]) (by simp [results, Try.results40, go_sem]) rfl ⟨rfl, by (repeat' (first | (with_reducible exact Below.refl _ _) | (with_reducible assumption) | (with_reducible refine Below.alloc ?_ ?_ _) | (with_reducible refine Below.drew ?_) | (with_reducible refine below_drewN ?_ _) | (with_reducible refine Below.setCell ?_ ?_ _) | (with_reducible exact Nat.le_refl _) | omega | (simp <;> omega)))⟩

set_option maxHeartbeats 2000000 in
theorem rbegin_any (f t c : Int) (s : Bool) (w : World) (h0 : -9223372036854775808 ≤ c) :
    Calls Try.prog 41 #[.int .i64 f, .int .i64 t, .int .i64 c, .bool s] w fun e w' => e = .returned (.tuple #[.agg #[.int .i64 (beginT f t c s).fr, .int .i64 (beginT f t c s).tt, .int .i64 (beginT f t c s).cnt, .int .i64 (beginT f t c s).dn, .bool (beginT f t c s).strict, .bool (beginT f t c s).failed], .int .i64 (checkF f t c)]) ∧ Below w.heap.size w w' := by
  by_cases hc : checkF f t c = 0
  · have hb : beginT f t c s = ⟨f, t, c, 0, s, false⟩ := by simp [beginT, hc]
    rewrite [hb]
    clear hb
    go_enter Try.func41, Try.ntmps41
    go_wp2_with (first | (go_at_call 76; refine (check_any _ _ _ _ h0).mono ?_; rintro e w' ⟨rfl, rfl⟩))
    exact bodyPost_ret (v := .tuple #[.agg #[.int .i64 f, .int .i64 t, .int .i64 c, .int .i64 0, .bool s, .bool false], .int .i64 0]) (by simp [results, Try.results41, go_sem]) rfl ⟨by rw [hc], by (repeat' (first | (with_reducible exact Below.refl _ _) | (with_reducible assumption) | (with_reducible refine Below.alloc ?_ ?_ _) | (with_reducible refine Below.drew ?_) | (with_reducible refine below_drewN ?_ _) | (with_reducible refine Below.setCell ?_ ?_ _) | (with_reducible exact Nat.le_refl _) | omega | (simp <;> omega)))⟩
  · have hb : beginT f t c s = TrD.zero := by simp [beginT, hc]
    have hc' : (checkF f t c != 0) = true := by simp [hc]
    rewrite [hb]
    clear hb
    obtain ⟨E, hE⟩ : ∃ E, checkF f t c = E := ⟨_, rfl⟩
    have HE := Lib.hid hE
    rewrite [hE] at hc' hc ⊢
    clear hE
    go_enter Try.func41, Try.ntmps41
    go_wp2_with (first | (go_at_call 76; refine (check_any _ _ _ _ h0).mono ?_; rintro e w' ⟨rfl, rfl⟩; rewrite [HE.out]))
    exact bodyPost_ret (v := .tuple #[.agg #[.int .i64 0, .int .i64 0, .int .i64 0, .int .i64 0, .bool false, .bool false], .int .i64 E]) (by simp [results, Try.results41, go_sem]) rfl ⟨rfl, by (repeat' (first | (with_reducible exact Below.refl _ _) | (with_reducible assumption) | (with_reducible refine Below.alloc ?_ ?_ _) | (with_reducible refine Below.drew ?_) | (with_reducible refine below_drewN ?_ _) | (with_reducible refine Below.setCell ?_ ?_ _) | (with_reducible exact Nat.le_refl _) | omega | (simp <;> omega)))⟩

set_option maxHeartbeats 2000000 in
theorem over_any (f t c n : Int) (s x : Bool) (w : World) :
    Calls Try.prog 77 #[.agg #[.int .i64 f, .int .i64 t, .int .i64 c, .int .i64 n, .bool s, .bool x]] w fun e w' => e = .returned (.bool (overT ⟨f, t, c, n, s, x⟩)) ∧ Below w.heap.size w w' := by
  cases x
  all_goals
    go_enter Try.func77, Try.ntmps77
    go_wp2
    go_ret
    exact ⟨ret_bool (by simp [overT]), by (repeat' (first | (with_reducible exact Below.refl _ _) | (with_reducible assumption) | (with_reducible refine Below.alloc ?_ ?_ _) | (with_reducible refine Below.drew ?_) | (with_reducible refine below_drewN ?_ _) | (with_reducible refine Below.setCell ?_ ?_ _) | (with_reducible exact Nat.le_refl _) | omega | (simp <;> omega)))⟩
end Go.Proofs.Ytjlmgjpnfppkoaa
