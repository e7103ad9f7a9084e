/-
  The walk of DeviceRanges: it returns true, and what was there before is as it was.
-/
import Derived.LoopTactic
import Derived.Test.YtjlmgjpnfppkoaaDAwake
namespace Go.Proofs.Ytjlmgjpnfppkoaa
open Go.RowKit
attribute [local go_sem ↓] Go.wp_at_zero Go.wp_at_succ

def comB (a b n : Int) (k : Nat) : Bool := decide (0 < k ∧ b < a + k ∧ a < b + n)

set_option maxRecDepth 100000 in
set_option maxHeartbeats 4000000 in
theorem ranges_any (k1 k2 k3 : Int) (w : World) :
    Calls Try.prog 7 #[.int .i64 k1, .int .i64 k2, .int .i64 k3] w fun e w' => e = .returned (.bool true) ∧ Below w.heap.size w w' := by
  obtain ⟨r1, r1'⟩ := mod_range k2 64 (by omega)
  obtain ⟨r2, r2'⟩ := mod_range k1 1000 (by omega)
  obtain ⟨n, hn⟩ : ∃ n, 1 + mod k2 64 = n := ⟨_, rfl⟩
  obtain ⟨r3, r3'⟩ := mod_range k3 (2 * n + 20) (by omega)
  obtain ⟨a, ha⟩ : ∃ a, 200 + mod k1 1000 = a := ⟨_, rfl⟩
  obtain ⟨b, hb⟩ : ∃ b, a + mod k3 (2 * n + 20) - n - 10 = b := ⟨_, rfl⟩
  have n1 : 1 ≤ n := by omega
  have n2 : n ≤ 64 := by omega
  have a1 : 200 ≤ a := by omega
  have a2 : a ≤ 1200 := by omega
  have b1 : a - n - 10 ≤ b := by omega
  have b2 : b ≤ a + n + 10 := by omega
  go_enter Try.func7, Try.ntmps7
  go_wp2_with (first | (go_at_call 20; refine (mod_any _ _ _ (by omega)).mono ?_; rintro e w' ⟨rfl, rfl⟩))
  have hp : placedB a b n = true := by simp only [placedB, decide_eq_true_eq]; omega
  obtain ⟨T, hT⟩ : ∃ T, beginT a b n false = T := ⟨_, rfl⟩
  obtain ⟨E, hE⟩ : ∃ E, checkF a b n = E := ⟨_, rfl⟩
  have HP := Lib.hid hp
  have HT := Lib.hid hT
  have HE := Lib.hid hE
  clear hp hT hE hn ha hb
  refine (dbegin_any a b n false _ (by omega)).mono ?_
  simp only [HT.out, HE.out]
  rintro e w1 ⟨rfl, hb1⟩
  have hs1 := hb1.size
  go_wp2_with fail
  go_loop [12, 38] (fun cv i => ∃ k : Nat, (k : Int) ≤ n ∧ i = .int .i64 k ∧ cv = .bool (comB a b n k)) (fun _ i => n.toNat - (intOf i).toNat)
  case atStart => exact ⟨0, by omega, rfl, by simp [comB]⟩
  case round =>
    obtain ⟨k, hk, rfl, rfl⟩ := hrel
    by_cases hlt : (k : Int) < n
    · cases hc : comB a b n k
      · by_cases q1 : b ≤ a + k
        · by_cases q2 : a + k < b + n
          · have hc2 : comB a b n (k + 1) = true := by simp only [comB, decide_eq_true_eq]; omega
            have Hc2 := Lib.hid hc2
            clear hc hc2
            go_wp2_with fail
            go_round
            case rel => exact ⟨k + 1, by omega, by go_num, by rw [Hc2.out]⟩
            case measure => simp [intOf]; omega
          · have hc2 : comB a b n (k + 1) = false := by
              simp only [comB, decide_eq_false_iff_not] at hc ⊢
              omega
            have Hc2 := Lib.hid hc2
            clear hc hc2
            go_wp2_with fail
            go_round
            case rel => exact ⟨k + 1, by omega, by go_num, by rw [Hc2.out]⟩
            case measure => simp [intOf]; omega
        · have hc2 : comB a b n (k + 1) = false := by
            simp only [comB, decide_eq_false_iff_not] at hc ⊢
            omega
          have Hc2 := Lib.hid hc2
          clear hc hc2
          go_wp2_with fail
          go_round
          case rel => exact ⟨k + 1, by omega, by go_num, by rw [Hc2.out]⟩
          case measure => simp [intOf]; omega
      · have hc2 : comB a b n (k + 1) = true := by
          simp only [comB, decide_eq_true_eq] at hc ⊢
          omega
        have Hc2 := Lib.hid hc2
        clear hc hc2
        go_wp2_with fail
        go_round
        case rel => exact ⟨k + 1, by omega, by go_num, by rw [Hc2.out]⟩
        case measure => simp [intOf]; omega
    · have hkn : (k : Int) = n := by omega
      have hcn : comB a b n k = !apartB a b n := by
        cases hap : apartB a b n
        · simp only [apartB, decide_eq_false_iff_not] at hap
          simp only [comB, Bool.not_false, decide_eq_true_eq]; omega
        · simp only [apartB, decide_eq_true_eq] at hap
          simp only [comB, Bool.not_true, decide_eq_false_iff_not]; omega
      have hge : n ≤ (k : Int) := by omega
      clear hlt hkn
      cases hap : apartB a b n
      · rw [hap] at hcn
        simp only [Bool.not_false] at hcn
        have hE : E = 10 := by rw [← HE.out]; simp [checkF, HP.out, hap]
        have hT : T = TrD.zero := by rw [← HT.out]; simp [beginT, HE.out, hE]
        subst hE
        subst hT
        rewrite [hcn]
        clear hap hcn
        simp only [TrD.zero]
        go_wp2_with fail
        refine (dawake_any _).mono ?_
        rintro e w10 ⟨rfl, hb10⟩
        have hB10 := (show Below w.heap.size w _ by (repeat' (first | (with_reducible exact Below.refl _ _) | (with_reducible assumption) | (with_reducible refine Below.alloc ?_ ?_ _) | (with_reducible refine Below.drew ?_) | (with_reducible refine below_drewN ?_ _) | (with_reducible refine Below.setCell ?_ ?_ _) | (with_reducible exact Nat.le_refl _) | omega | (simp <;> omega)))).trans (hb10.mono (show w.heap.size ≤ _ by (first | (with_reducible exact Nat.le_refl _) | (with_reducible assumption) | omega | (simp <;> omega))))
        go_wp2_with fail
        go_ret
        exact ⟨rfl, hB10⟩
      · rw [hap] at hcn
        simp only [Bool.not_true] at hcn
        have hE : E = 0 := by rw [← HE.out]; simp [checkF, HP.out, hap]
        have hT : T = ⟨a, b, n, 0, false, false⟩ := by rw [← HT.out]; simp [beginT, HE.out, hE]
        have hvt : validT ⟨a, b, n, 0, false, false⟩ = true := by simp [validT, HP.out, hap]; omega
        subst hE
        subst hT
        have HVT := Lib.hid hvt
        rewrite [hcn]
        clear hap hvt hcn
        go_wp2_with fail
        refine (dvalid_any _ _ _ _ _ _ _ (by omega)).mono ?_
        rewrite [HVT.out]
        rintro e w2 ⟨rfl, hb2⟩
        have nt0 := cellK (g := w1.heap.size) (i := 0) (v := .int .i64 a) hb2 (by (first | (with_reducible exact Nat.le_refl _) | (with_reducible assumption) | omega | (simp <;> omega))) (by simp [go_sem, *])
        have nt1 := cellK (g := w1.heap.size) (i := 1) (v := .int .i64 b) hb2 (by (first | (with_reducible exact Nat.le_refl _) | (with_reducible assumption) | omega | (simp <;> omega))) (by simp [go_sem, *])
        have nt2 := cellK (g := w1.heap.size) (i := 2) (v := .int .i64 n) hb2 (by (first | (with_reducible exact Nat.le_refl _) | (with_reducible assumption) | omega | (simp <;> omega))) (by simp [go_sem, *])
        have nt3 := cellK (g := w1.heap.size) (i := 3) (v := .int .i64 0) hb2 (by (first | (with_reducible exact Nat.le_refl _) | (with_reducible assumption) | omega | (simp <;> omega))) (by simp [go_sem, *])
        have nt4 := cellK (g := w1.heap.size) (i := 4) (v := .bool false) hb2 (by (first | (with_reducible exact Nat.le_refl _) | (with_reducible assumption) | omega | (simp <;> omega))) (by simp [go_sem, *])
        have nt5 := cellK (g := w1.heap.size) (i := 5) (v := .bool false) hb2 (by (first | (with_reducible exact Nat.le_refl _) | (with_reducible assumption) | omega | (simp <;> omega))) (by simp [go_sem, *])
        have kt0 := nt0
        have kt1 := nt1
        have kt2 := nt2
        have kt3 := nt3
        have kt4 := nt4
        have kt5 := nt5
        clear nt0 nt1 nt2 nt3 nt4 nt5
        have hs2 := hb2.size
        simp only [World.size_alloc] at hs2
        have hB2 := (show Below w.heap.size w _ by (repeat' (first | (with_reducible exact Below.refl _ _) | (with_reducible assumption) | (with_reducible refine Below.alloc ?_ ?_ _) | (with_reducible refine Below.drew ?_) | (with_reducible refine below_drewN ?_ _) | (with_reducible refine Below.setCell ?_ ?_ _) | (with_reducible exact Nat.le_refl _) | omega | (simp <;> omega)))).trans (hb2.mono (show w.heap.size ≤ _ by (first | (with_reducible exact Nat.le_refl _) | (with_reducible assumption) | omega | (simp <;> omega))))
        clear hb2
        go_wp2_with fail
        refine (dawake_any _).mono ?_
        rintro e w10 ⟨rfl, hb10⟩
        have hB10 := hB2.trans (hb10.mono hB2.size)
        go_wp2_with fail
        go_ret
        exact ⟨rfl, hB10⟩
end Go.Proofs.Ytjlmgjpnfppkoaa
