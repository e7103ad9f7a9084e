/-
  Contracts of functions of the given program (layer 32), walked: the numbers of a transfer, validity.
-/
import Derived.Test.YtjlmgjpnfppkoaaLeaf
namespace Go.Proofs.Ytjlmgjpnfppkoaa
open Go.RowKit
attribute [local go_sem ↓] Go.wp_at_zero Go.wp_at_succ

def placedB (f t c : Int) : Bool := decide (1 ≤ c ∧ c ≤ 64 ∧ 0 ≤ f ∧ f ≤ 1048576 - c ∧ 0 ≤ t ∧ t ≤ 1048576 - c)
def apartB (f t c : Int) : Bool := decide (f + c ≤ t ∨ t + c ≤ f)
def checkF (f t c : Int) : Int := if placedB f t c = true then if apartB f t c = true then 0 else 10 else 2
theorem placed_bd {f t c : Int} (h : placedB f t c = true) : 1 ≤ c ∧ c ≤ 64 ∧ 0 ≤ f ∧ f ≤ 1048576 - c ∧ 0 ≤ t ∧ t ≤ 1048576 - c := by simpa [placedB] using h
theorem placed_no {f t c : Int} (h : placedB f t c = false) : ¬ (1 ≤ c ∧ c ≤ 64 ∧ 0 ≤ f ∧ f ≤ 1048576 - c ∧ 0 ≤ t ∧ t ≤ 1048576 - c) := by
  intro h'
  have : placedB f t c = true := by unfold placedB; exact decide_eq_true h'
  rw [this] at h; cases h

/-- A transfer as plain data. -/
structure TrD where
  fr : Int
  tt : Int
  cnt : Int
  dn : Int
  strict : Bool
  failed : Bool
  deriving DecidableEq
def TrD.zero : TrD := ⟨0, 0, 0, 0, false, false⟩
def validT (T : TrD) : Bool := placedB T.fr T.tt T.cnt && (apartB T.fr T.tt T.cnt && (decide (0 ≤ T.dn) && (decide (T.dn ≤ T.cnt) && (!T.failed || (T.strict && decide (T.dn < T.cnt))))))
def overT (T : TrD) : Bool := T.failed || (T.dn == T.cnt)
def liveT (T : TrD) : Bool := validT T && !overT T

set_option maxHeartbeats 400000 in
theorem placed_any (f t c : Int) (w : World) (h0 : -9223372036854775808 ≤ c) :
    Calls Try.prog 74 #[.int .i64 f, .int .i64 t, .int .i64 c] w fun e w' => e = .returned (.bool (placedB f t c)) ∧ w = w' := by
  by_cases h1 : 1 ≤ c
  · by_cases h2 : c ≤ 64
    · go_enter Try.func74, Try.ntmps74
      go_wp2
      all_goals (go_ret; exact ⟨ret_bool (by simp [placedB, *] <;> omega), rfl⟩)
    · go_enter Try.func74, Try.ntmps74
      go_wp2
      all_goals (go_ret; exact ⟨ret_bool (by simp [placedB, *] <;> omega), rfl⟩)
  · go_enter Try.func74, Try.ntmps74
    go_wp2
    all_goals (go_ret; exact ⟨ret_bool (by simp [placedB, *] <;> omega), rfl⟩)

set_option maxHeartbeats 400000 in
theorem apart_any (f t c : Int) (w : World) (h : placedB f t c = true) :
    Calls Try.prog 75 #[.int .i64 f, .int .i64 t, .int .i64 c] w fun e w' => e = .returned (.bool (apartB f t c)) ∧ w = w' := by
  obtain ⟨h1, h2, h3, h4, h5, h6⟩ := placed_bd h
  clear h
  go_enter Try.func75, Try.ntmps75
  go_wp2
  all_goals (go_ret; exact ⟨ret_bool (by simp [apartB, *] <;> omega), rfl⟩)

set_option maxHeartbeats 1000000 in
theorem check_any (f t c : Int) (w : World) (h0 : -9223372036854775808 ≤ c) :
    Calls Try.prog 76 #[.int .i64 f, .int .i64 t, .int .i64 c] w fun e w' => e = .returned (.int .i64 (checkF f t c)) ∧ w = w' := by
  cases hp : placedB f t c
  · have hn := placed_no hp
    have hc : checkF f t c = 2 := by simp [checkF, hp]
    rewrite [hc]
    clear hp hc
    by_cases h1 : 1 ≤ c
    · by_cases h2 : c ≤ 64
      · go_enter Try.func76, Try.ntmps76
        go_wp2
        all_goals (first | (exfalso; omega) | (go_ret; exact ⟨rfl, rfl⟩))
      · go_enter Try.func76, Try.ntmps76
        go_wp2
        all_goals (first | (exfalso; omega) | (go_ret; exact ⟨rfl, rfl⟩))
    · go_enter Try.func76, Try.ntmps76
      go_wp2
      all_goals (first | (exfalso; omega) | (go_ret; exact ⟨rfl, rfl⟩))
  · obtain ⟨h1, h2, h3, h4, h5, h6⟩ := placed_bd hp
    cases ha : apartB f t c
    · have hc : checkF f t c = 10 := by simp [checkF, hp, ha]
      have ha' : ¬ (f + c ≤ t ∨ t + c ≤ f) := by simpa [apartB] using ha
      rewrite [hc]
      clear hp hc ha
      go_enter Try.func76, Try.ntmps76
      go_wp2
      all_goals (first | (exfalso; omega) | (go_ret; exact ⟨rfl, rfl⟩))
    · have hc : checkF f t c = 0 := by simp [checkF, hp, ha]
      have ha' : f + c ≤ t ∨ t + c ≤ f := by simpa [apartB] using ha
      rewrite [hc]
      clear hp hc ha
      go_enter Try.func76, Try.ntmps76
      go_wp2
      all_goals (first | (exfalso; omega) | (go_ret; exact ⟨rfl, rfl⟩))
end Go.Proofs.Ytjlmgjpnfppkoaa
