/-
  The walk of FrameStates: it returns true, and what was there before is as it was.
-/
import Derived.LoopTactic
import Derived.Test.YtjlmgjpnfppkoaaFrGen
import Derived.Test.YtjlmgjpnfppkoaaFrOps
import Derived.Test.YtjlmgjpnfppkoaaFAwake
namespace Go.Proofs.Ytjlmgjpnfppkoaa
open Go.RowKit
attribute [local go_sem ↓] Go.wp_at_zero Go.wp_at_succ

theorem mod_nat (f : Int) {n : Nat} (h : 1 ≤ n) : ∃ K : Nat, mod f n = K ∧ K < n := by
  have := mod_range f n (by omega)
  exact ⟨(mod f n).toNat, by omega, by omega⟩

set_option maxRecDepth 100000 in
set_option maxHeartbeats 8000000 in
theorem fstates_any (A : Option Addr) (n c : Nat) (zs : List Int) (f : Int) (w : World) (h : Has w A n 1 (zs.map (Value.int .i64))) :
    Calls Try.prog 12 #[.slice A n c, .int .i64 f] w fun e w' => e = .returned (.bool true) ∧ Below w.heap.size w w' := by
  have Hh := Lib.hid h
  clear h
  by_cases hn : n ≤ 400
  · go_enter Try.func12, Try.ntmps12
    go_wp2_with fail
    refine (light_yes A n c _ hn).mono ?_
    rintro e w' ⟨rfl, rfl⟩
    go_wp2_with fail
    refine (roll_any A n c zs _ Hh.out hn).mono ?_
    rintro e w1 ⟨rfl, hD1, hb1⟩
    have hs1 := hb1.size
    have HB1 := Lib.hid hb1
    have HD1 := Lib.hid hD1
    clear hb1 hD1
    go_wp2_with fail
    refine (frames_any _ _ HD1.out).mono ?_
    rintro e w2 ⟨v, fs, rfl, ⟨A2, c2, hv, hown⟩, hval, hlen, -, hb2⟩
    subst hv
    have HB2 := Lib.hid (HB1.out.trans (hb2.below hs1 (Nat.le_refl _)))
    have hs2 := HB2.out.size
    obtain ⟨hfit, hl1, -⟩ := validF_get hval
    obtain ⟨N, hN⟩ : ∃ N, fs.length = N := ⟨_, rfl⟩
    rw [hN] at hown hlen hl1
    obtain ⟨K, hK, hKN⟩ := mod_nat f hl1
    have H2 := Lib.hid (Has.of_own hown)
    have HK := Lib.hid hK
    have Hval := Lib.hid hval
    have hst := hfit.at_ (k := K) (by omega)
    obtain ⟨S, hS⟩ : ∃ S, (fs.getD K FrD.zero).st = S := ⟨_, rfl⟩
    rw [hS] at hst
    have hr : rangeB fs (K : Int) = true := range_nat (by omega)
    have hsa : stAt fs (K : Int) = S := by simp only [stAt, Int.toNat_natCast]; exact hS
    have hE1 : giveE fs (K : Int) = if occB S = true then 0 else 40 := by simp only [giveE, hval, hr, hsa, if_true]
    have hE2 : chgE fs (K : Int) 3 0 = if occB S = true then 0 else 40 := by simp only [chgE, hval, hr, hsa, if_true]; rfl
    have hE3 : retE fs (K : Int) = if stillB S = true then 0 else 40 := by simp only [retE, hval, hr, hsa, if_true]
    have hE4 : chgE fs (K : Int) 0 0 = if occB S = true then 2 else 40 := by simp only [chgE, hval, hr, hsa, if_true]; rfl
    obtain ⟨b, off, rfl, hbl, c0, -⟩ := H2.out.frame_at hKN
    rw [hS] at c0
    have HN := Lib.hid hN
    have hKN' : (K : Int) < (N : Int) := by omega
    clear hb2 hown hval hK hfit hS hr hsa hN
    rw [HN.out]
    obtain ⟨S0, S5⟩ := hst
    have hcs : S = 0 ∨ S = 1 ∨ S = 2 ∨ S = 3 ∨ S = 4 ∨ S = 5 := by omega
    rcases hcs with rfl | rfl | rfl | rfl | rfl | rfl
    all_goals
      simp only [occB, stillB] at hE1 hE2 hE3 hE4
      simp at hE1 hE2 hE3 hE4
      have HE1 := Lib.hid hE1
      have HE2 := Lib.hid hE2
      have HE3 := Lib.hid hE3
      have HE4 := Lib.hid hE4
      clear hE1 hE2 hE3 hE4
      go_wp2_with fail
      refine (mod_any _ _ _ (by omega)).mono ?_
      rewrite [HK.out]
      rintro e w' ⟨rfl, rfl⟩
      go_wp2_with fail
      refine (give_any _ N c2 K fs _ H2.out).mono ?_
      rewrite [HE1.out]
      rintro e w3 ⟨v3, rfl, -, hb3⟩
      have H3 := Lib.hid (H2.out.below hb3)
      have HB3 := Lib.hid (HB2.out.trans (hb3.mono hs2))
      clear hb3
      go_wp2_with fail
      refine (change_any _ N c2 K 3 0 fs _ H3.out).mono ?_
      rewrite [HE2.out]
      rintro e w4 ⟨v4, rfl, -, hb4⟩
      have H4 := Lib.hid (H3.out.below hb4)
      have HB4 := Lib.hid (HB3.out.trans (hb4.mono HB3.out.size))
      clear hb4
      go_wp2_with fail
      refine (retire_any _ N c2 K fs _ H4.out).mono ?_
      rewrite [HE3.out]
      rintro e w5 ⟨v5, rfl, -, hb5⟩
      have H5 := Lib.hid (H4.out.below hb5)
      have HB5 := Lib.hid (HB4.out.trans (hb5.mono HB4.out.size))
      clear hb5
      go_wp2_with fail
      refine (change_any _ N c2 K 0 0 fs _ H5.out).mono ?_
      rewrite [HE4.out]
      rintro e w6 ⟨v6, rfl, -, hb6⟩
      have HB6 := Lib.hid (HB5.out.trans (hb6.mono HB5.out.size))
      clear hb6
      go_wp2_with fail
      refine (fawake_any _).mono ?_
      rintro e w7 ⟨rfl, hb7⟩
      have HB7 := Lib.hid (HB6.out.trans (hb7.mono HB6.out.size))
      clear hb7
      go_wp2_with fail
      go_ret
      exact ⟨rfl, HB7.out⟩
  · go_enter Try.func12, Try.ntmps12
    go_wp2_with fail
    refine (light_no A n c _ hn).mono ?_
    rintro e w' ⟨rfl, rfl⟩
    go_wp2_with fail
    refine (fawake_any _).mono ?_
    rintro e w7 ⟨rfl, hb7⟩
    go_wp2_with fail
    go_ret
    exact ⟨rfl, hb7⟩
end Go.Proofs.Ytjlmgjpnfppkoaa
