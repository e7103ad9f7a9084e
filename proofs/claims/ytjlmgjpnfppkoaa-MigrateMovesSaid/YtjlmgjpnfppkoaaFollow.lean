/-
  Frames and programs, walked: the contents of a frame go to a free one (the given code and the reference).
-/
import Derived.LoopTactic
import Derived.Test.YtjlmgjpnfppkoaaRValid
import Derived.Test.YtjlmgjpnfppkoaaOValid
import Derived.Test.YtjlmgjpnfppkoaaShift
import Derived.Test.YtjlmgjpnfppkoaaFrRef
import Derived.Test.YtjlmgjpnfppkoaaPgMath
namespace Go.Proofs.Ytjlmgjpnfppkoaa
open Go.RowKit
attribute [local go_sem ↓] Go.wp_at_zero Go.wp_at_succ

def followE (fs : List FrD) (ps : List PrD) (a b : Int) : Int := if 0 ≤ a ∧ a < (fs.length : Int) ∧ 0 ≤ b ∧ b < (fs.length : Int) then (if 1 ≤ stAt fs a ∧ stAt fs a ≤ 3 ∧ stAt fs b = 0 then replE ps a b else 40) else 43
def followF (fs : List FrD) (ps : List PrD) (a b : Int) : List FrD := if followE fs ps a b = 0 then shiftL fs a.toNat b.toNat else []
def followP (fs : List FrD) (ps : List PrD) (a b : Int) : List PrD := if followE fs ps a b = 0 then replL ps a b else []
def FollowPost (w : World) (fs : List FrD) (ps : List PrD) (a b : Int) (e : Ending) (w' : World) : Prop :=
  ∃ v1 v2 ys, e = .returned (.tuple #[v1, v2, .int .i64 (followE fs ps a b)]) ∧ OwnFrs w' w.heap.size v1 (followF fs ps a b) ∧ ys.map PrV.P = followP fs ps a b ∧ OwnProgs w' w.heap.size v2 ys ∧ Below w.heap.size w w'
theorem follow_bad {w w' : World} {fs : List FrD} {ps : List PrD} {a b E : Int} (hE : followE fs ps a b = E) (h0 : E ≠ 0) (hb : Below w.heap.size w w') : FollowPost w fs ps a b (.returned (.tuple #[.slice none 0 0, .slice none 0 0, .int .i64 E])) w' := by
  refine ⟨_, _, [], by rw [hE], ?_, ?_, OwnProgs.nil_ _ _, hb⟩
  · rw [followF, if_neg (by rw [hE]; exact h0)]
    exact OwnFrs.nil_ _ _
  · rw [followP, if_neg (by rw [hE]; exact h0)]
    rfl

set_option maxRecDepth 100000 in
set_option maxHeartbeats 8000000 in
theorem follow_any (A : Option Addr) (n c : Nat) (fs : List FrD) (PA : Option Addr) (pn pc : Nat) (xs : List PrV) (a b : Int) (w : World) (hF : Has w A n 2 (frVals fs)) (hP : IsProgs w PA pn xs) (hv : validF fs = true) (hI : Inv n (xs.map PrV.P)) :
    Calls Try.prog 33 #[.slice A n c, .slice PA pn pc, .int .i64 a, .int .i64 b] w (FollowPost w fs (xs.map PrV.P) a b) := by
  have HF := Lib.hid hF
  have Hl := Lib.hid hF.frame
  have HP := Lib.hid hP
  have HV := Lib.hid hv
  have HI := Lib.hid hI
  have HS := Lib.hid (inv_small hI)
  have hn : 1 ≤ n ∧ n ≤ 64 := by
    have := (validF_get hv).2
    rw [hF.frame] at this
    exact this
  have hst : ∀ k : Nat, k < n → 0 ≤ (fs.getD k FrD.zero).st ∧ (fs.getD k FrD.zero).st ≤ 5 := fun k hk => AllFit.at_ (validF_get hv).1 (by rw [hF.frame]; exact hk)
  clear hF hP hv hI
  by_cases hr : 0 ≤ a ∧ a < (n : Int) ∧ 0 ≤ b ∧ b < (n : Int)
  · obtain ⟨K, rfl⟩ : ∃ K : Nat, a = K := ⟨a.toNat, by omega⟩
    obtain ⟨T, rfl⟩ : ∃ T : Nat, b = T := ⟨b.toNat, by omega⟩
    obtain ⟨K0, hK', T0, hT'⟩ := hr
    have hK : K < n := by omega
    have hT : T < n := by omega
    obtain ⟨sK0, sK5⟩ := hst K hK
    obtain ⟨g1, o1, rfl, hg1, k0, -⟩ := HF.out.frame_at hK
    obtain ⟨g2, o2, e2, -, t0, -⟩ := HF.out.frame_at hT
    injection e2 with e2
    injection e2 with e21 e22
    subst e21 e22
    have hstK : stAt fs (K : Int) = (fs.getD K FrD.zero).st := by simp [stAt]
    have hstT : stAt fs (T : Int) = (fs.getD T FrD.zero).st := by simp [stAt]
    obtain ⟨S, hS⟩ : ∃ S, (fs.getD K FrD.zero).st = S := ⟨_, rfl⟩
    obtain ⟨S2, hS2⟩ : ∃ S, (fs.getD T FrD.zero).st = S := ⟨_, rfl⟩
    rw [hS] at sK0 sK5 k0 hstK
    rw [hS2] at t0 hstT
    have hlen : (fs.length : Int) = (n : Int) := by rw [Hl.out]
    have hE : followE fs (xs.map PrV.P) K T = if 1 ≤ S ∧ S ≤ 3 ∧ S2 = 0 then replE (xs.map PrV.P) K T else 40 := by
      rw [followE, hlen, if_pos ⟨K0, hK', T0, hT'⟩, hstK, hstT]
    have HE0 := Lib.hid hE
    have Hk0 := Lib.hid k0
    have Ht0 := Lib.hid t0
    have HKT : Hid (1 ≤ S → S2 = 0 → K ≠ T) := fun h1 h2 e => by subst e; rw [hS] at hS2; omega
    clear hE hst hS hS2 hstK hstT hlen k0 t0
    have hs3 : S < 1 ∨ (1 ≤ S ∧ S ≤ 3) ∨ S = 4 ∨ S = 5 := by omega
    go_enter Try.func33, Try.ntmps33
    go_wp2_with fail
    refine (fvalid_any _ n c fs _ HF.out).mono ?_
    rewrite [HV.out]
    rintro e w1 ⟨rfl, hb1⟩
    have HB1 := Lib.hid hb1
    have hs1 := hb1.size
    clear hb1
    go_wp2_with fail
    refine (ovalid_any _ pn pc (n : Int) xs _ (HP.out.below HB1.out) HI.out (by omega)).mono ?_
    rintro e w2 ⟨rfl, hb2⟩
    have HB2 := Lib.hid (HB1.out.trans (hb2.mono hs1))
    have hs2 := HB2.out.size
    have k0 := cellK HB2.out hg1 Hk0.out
    have t0 := cellK HB2.out hg1 Ht0.out
    clear hb2
    have e1 : ¬ (K : Int) < 0 := by omega
    have e2 : ¬ (T : Int) < 0 := by omega
    rcases hs3 with h1 | ⟨h1, h3⟩ | h4 | h4
    · have HE : followE fs (xs.map PrV.P) K T = 40 := by rw [HE0.out, if_neg (by omega)]
      have HE := Lib.hid HE
      go_wp2_with fail
      refine bodyPost_ret (v := .tuple #[.slice none 0 0, .slice none 0 0, .int .i64 40]) (by simp [results, Try.results33, go_sem]) rfl (follow_bad HE.out (by decide) HB2.out)
    · by_cases hT0 : S2 = 0
      · subst hT0
        have HE : followE fs (xs.map PrV.P) K T = replE (xs.map PrV.P) K T := by rw [HE0.out, if_pos ⟨h1, h3, rfl⟩]
        have HE := Lib.hid HE
        have hKT := HKT.out h1 rfl
        obtain ⟨E, hEE⟩ : ∃ E, replE (xs.map PrV.P) K T = E := ⟨_, rfl⟩
        have HEE := Lib.hid hEE
        have HKT2 := Lib.hid hKT
        clear hEE hKT
        go_wp2_with fail
        refine (shift_any _ n c fs _ pn pc xs K T _ (HF.out.below HB2.out) (HP.out.below HB2.out) HS.out hK hT HKT2.out hn.2).mono ?_
        intro e w3 hsp
        by_cases hE0 : E = 0
        · subst hE0
          obtain ⟨v1, v2, ys, he, hF1, hm, hO, hb3⟩ : ∃ v1 v2 ys, e = .returned (.tuple #[v1, v2, .int .i64 0]) ∧ OwnFrs w3 w2.heap.size v1 (shiftL fs K T) ∧ ys.map PrV.P = replL (xs.map PrV.P) K T ∧ OwnProgs w3 w2.heap.size v2 ys ∧ Below w2.heap.size w2 w3 := by
            obtain ⟨v1, v2, ys, h1, h2, h3, h4⟩ := hsp.1 HEE.out
            exact ⟨v1, v2, ys, h1, h2, h3, h4, hsp.2.2⟩
          subst he
          obtain ⟨A3, c3, hv1, hown⟩ := hF1
          subst hv1
          have HFo := Lib.hid (ownsRow_base hown hs2)
          have HOo := Lib.hid (hO.base hs2)
          have Hm := Lib.hid hm
          have HB3 := Lib.hid (HB2.out.trans (hb3.mono hs2))
          have HFE : Hid (followE fs (xs.map PrV.P) K T = 0) := HE.out.trans HEE.out
          clear hsp hown hO hm hb3
          go_wp2_with fail
          refine bodyPost_ret (v := .tuple #[.slice A3 (shiftL fs K T).length c3, v2, .int .i64 0]) (by simp [results, Try.results33, go_sem]) rfl ⟨_, v2, ys, by rw [HFE.out], ?_, ?_, HOo.out, HB3.out⟩
          · rw [followF, if_pos HFE.out]
            exact ⟨A3, c3, rfl, HFo.out⟩
          · rw [followP, if_pos HFE.out]
            exact Hm.out
        · have he := hsp.2.1 (by rw [HEE.out]; exact hE0)
          rw [HEE.out] at he
          subst he
          have HB3 := Lib.hid (HB2.out.trans (hsp.2.2.mono hs2))
          have HFE : Hid (followE fs (xs.map PrV.P) K T = E) := HE.out.trans HEE.out
          have hE1 : (E != 0) = true := by simp [hE0]
          have HE1 := Lib.hid hE0
          clear hsp hE0
          go_wp2_with fail
          refine bodyPost_ret (v := .tuple #[.slice none 0 0, .slice none 0 0, .int .i64 E]) (by simp [results, Try.results33, go_sem]) rfl (follow_bad HFE.out HE1.out HB3.out)
      · have HE : followE fs (xs.map PrV.P) K T = 40 := by rw [HE0.out, if_neg (by omega)]
        have HE := Lib.hid HE
        have hT0' : (S2 != 0) = true := by simp [hT0]
        go_wp2_with fail
        refine bodyPost_ret (v := .tuple #[.slice none 0 0, .slice none 0 0, .int .i64 40]) (by simp [results, Try.results33, go_sem]) rfl (follow_bad HE.out (by decide) HB2.out)
    · subst h4
      have HE : followE fs (xs.map PrV.P) K T = 40 := by rw [HE0.out, if_neg (by omega)]
      have HE := Lib.hid HE
      go_wp2_with fail
      refine bodyPost_ret (v := .tuple #[.slice none 0 0, .slice none 0 0, .int .i64 40]) (by simp [results, Try.results33, go_sem]) rfl (follow_bad HE.out (by decide) HB2.out)
    · subst h4
      have HE : followE fs (xs.map PrV.P) K T = 40 := by rw [HE0.out, if_neg (by omega)]
      have HE := Lib.hid HE
      go_wp2_with fail
      refine bodyPost_ret (v := .tuple #[.slice none 0 0, .slice none 0 0, .int .i64 40]) (by simp [results, Try.results33, go_sem]) rfl (follow_bad HE.out (by decide) HB2.out)
  · have HE : followE fs (xs.map PrV.P) a b = 43 := by rw [followE, if_neg (by rw [Hl.out]; exact hr)]
    have HE := Lib.hid HE
    have hrr : a < 0 ∨ (0 ≤ a ∧ (n : Int) ≤ a) ∨ (0 ≤ a ∧ a < (n : Int) ∧ b < 0) ∨ (0 ≤ a ∧ a < (n : Int) ∧ 0 ≤ b ∧ (n : Int) ≤ b) := by omega
    clear hr hst
    rcases hrr with r1 | ⟨r1, r2⟩ | ⟨r1, r2, r3⟩ | ⟨r1, r2, r3, r4⟩
    all_goals
      go_enter Try.func33, Try.ntmps33
      go_wp2_with fail
      refine (fvalid_any _ n c fs _ HF.out).mono ?_
      rewrite [HV.out]
      rintro e w1 ⟨rfl, hb1⟩
      have HB1 := Lib.hid hb1
      have hs1 := hb1.size
      clear hb1
      go_wp2_with fail
      refine (ovalid_any _ pn pc (n : Int) xs _ (HP.out.below HB1.out) HI.out (by omega)).mono ?_
      rintro e w2 ⟨rfl, hb2⟩
      have HB2 := Lib.hid (HB1.out.trans (hb2.mono hs1))
      clear hb2
      go_wp2_with fail
      refine bodyPost_ret (v := .tuple #[.slice none 0 0, .slice none 0 0, .int .i64 43]) (by simp [results, Try.results33, go_sem]) rfl (follow_bad HE.out (by decide) HB2.out)

set_option maxRecDepth 100000 in
set_option maxHeartbeats 8000000 in
theorem rfollow_any (A : Option Addr) (n c : Nat) (fs : List FrD) (PA : Option Addr) (pn pc : Nat) (xs : List PrV) (a b : Int) (w : World) (hF : Has w A n 2 (frVals fs)) (hP : IsProgs w PA pn xs) (hv : validF fs = true) (hI : Inv n (xs.map PrV.P)) :
    Calls Try.prog 34 #[.slice A n c, .slice PA pn pc, .int .i64 a, .int .i64 b] w (FollowPost w fs (xs.map PrV.P) a b) := by
  have HF := Lib.hid hF
  have Hl := Lib.hid hF.frame
  have HP := Lib.hid hP
  have HV := Lib.hid hv
  have HI := Lib.hid hI
  have HS := Lib.hid (inv_small hI)
  have hn : 1 ≤ n ∧ n ≤ 64 := by
    have := (validF_get hv).2
    rw [hF.frame] at this
    exact this
  have hst : ∀ k : Nat, k < n → 0 ≤ (fs.getD k FrD.zero).st ∧ (fs.getD k FrD.zero).st ≤ 5 := fun k hk => AllFit.at_ (validF_get hv).1 (by rw [hF.frame]; exact hk)
  clear hF hP hv hI
  by_cases hr : 0 ≤ a ∧ a < (n : Int) ∧ 0 ≤ b ∧ b < (n : Int)
  · obtain ⟨K, rfl⟩ : ∃ K : Nat, a = K := ⟨a.toNat, by omega⟩
    obtain ⟨T, rfl⟩ : ∃ T : Nat, b = T := ⟨b.toNat, by omega⟩
    obtain ⟨K0, hK', T0, hT'⟩ := hr
    have hK : K < n := by omega
    have hT : T < n := by omega
    obtain ⟨sK0, sK5⟩ := hst K hK
    obtain ⟨g1, o1, rfl, hg1, k0, -⟩ := HF.out.frame_at hK
    obtain ⟨g2, o2, e2, -, t0, -⟩ := HF.out.frame_at hT
    injection e2 with e2
    injection e2 with e21 e22
    subst e21 e22
    have hstK : stAt fs (K : Int) = (fs.getD K FrD.zero).st := by simp [stAt]
    have hstT : stAt fs (T : Int) = (fs.getD T FrD.zero).st := by simp [stAt]
    obtain ⟨S, hS⟩ : ∃ S, (fs.getD K FrD.zero).st = S := ⟨_, rfl⟩
    obtain ⟨S2, hS2⟩ : ∃ S, (fs.getD T FrD.zero).st = S := ⟨_, rfl⟩
    rw [hS] at sK0 sK5 k0 hstK
    rw [hS2] at t0 hstT
    have hlen : (fs.length : Int) = (n : Int) := by rw [Hl.out]
    have hE : followE fs (xs.map PrV.P) K T = if 1 ≤ S ∧ S ≤ 3 ∧ S2 = 0 then replE (xs.map PrV.P) K T else 40 := by
      rw [followE, hlen, if_pos ⟨K0, hK', T0, hT'⟩, hstK, hstT]
    have HE0 := Lib.hid hE
    have Hk0 := Lib.hid k0
    have Ht0 := Lib.hid t0
    have HKT : Hid (1 ≤ S → S2 = 0 → K ≠ T) := fun h1 h2 e => by subst e; rw [hS] at hS2; omega
    clear hE hst hS hS2 hstK hstT hlen k0 t0
    have hs3 : S < 1 ∨ (1 ≤ S ∧ S ≤ 3) ∨ S = 4 ∨ S = 5 := by omega
    go_enter Try.func34, Try.ntmps34
    go_wp2_with fail
    refine (rvalid28_any _ n c fs _ HF.out (by omega)).mono ?_
    rewrite [HV.out]
    rintro e w1 ⟨rfl, hb1⟩
    have HB1 := Lib.hid hb1
    have hs1 := hb1.size
    clear hb1
    go_wp2_with fail
    refine (rvalid_any _ pn pc (n : Int) xs _ (HP.out.below HB1.out) HI.out (by omega)).mono ?_
    rintro e w2 ⟨rfl, hb2⟩
    have HB2 := Lib.hid (HB1.out.trans (hb2.mono hs1))
    have hs2 := HB2.out.size
    have k0 := cellK HB2.out hg1 Hk0.out
    have t0 := cellK HB2.out hg1 Ht0.out
    clear hb2
    have e1 : ¬ (K : Int) < 0 := by omega
    have e2 : ¬ (T : Int) < 0 := by omega
    rcases hs3 with h1 | ⟨h1, h3⟩ | h4 | h4
    · have HE : followE fs (xs.map PrV.P) K T = 40 := by rw [HE0.out, if_neg (by omega)]
      have HE := Lib.hid HE
      go_wp2_with fail
      refine (rocc_any S _).mono ?_
      rewrite [show occB S = false from by simp [occB]; omega]
      rintro e w3 ⟨rfl, rfl⟩
      go_wp2_with fail
      refine bodyPost_ret (v := .tuple #[.slice none 0 0, .slice none 0 0, .int .i64 40]) (by simp [results, Try.results34, go_sem]) rfl (follow_bad HE.out (by decide) HB2.out)
    · by_cases hT0 : S2 = 0
      · subst hT0
        have HE : followE fs (xs.map PrV.P) K T = replE (xs.map PrV.P) K T := by rw [HE0.out, if_pos ⟨h1, h3, rfl⟩]
        have HE := Lib.hid HE
        have hKT := HKT.out h1 rfl
        obtain ⟨E, hEE⟩ : ∃ E, replE (xs.map PrV.P) K T = E := ⟨_, rfl⟩
        have HEE := Lib.hid hEE
        have HKT2 := Lib.hid hKT
        clear hEE hKT
        have h41 : (S == 4) = false := by simp; omega
        go_wp2_with fail
        refine (rocc_any S _).mono ?_
        rewrite [show occB S = true from by simp [occB]; omega]
        rintro e w3 ⟨rfl, rfl⟩
        go_wp2_with fail
        refine (rshift_any _ n c fs _ pn pc xs K T _ (HF.out.below HB2.out) (HP.out.below HB2.out) HS.out hK hT HKT2.out hn.2).mono ?_
        intro e w3 hsp
        by_cases hE0 : E = 0
        · subst hE0
          obtain ⟨v1, v2, ys, he, hF1, hm, hO, hb3⟩ : ∃ v1 v2 ys, e = .returned (.tuple #[v1, v2, .int .i64 0]) ∧ OwnFrs w3 w2.heap.size v1 (shiftL fs K T) ∧ ys.map PrV.P = replL (xs.map PrV.P) K T ∧ OwnProgs w3 w2.heap.size v2 ys ∧ Below w2.heap.size w2 w3 := by
            obtain ⟨v1, v2, ys, h1, h2, h3, h4⟩ := hsp.1 HEE.out
            exact ⟨v1, v2, ys, h1, h2, h3, h4, hsp.2.2⟩
          subst he
          obtain ⟨A3, c3, hv1, hown⟩ := hF1
          subst hv1
          have HFo := Lib.hid (ownsRow_base hown hs2)
          have HOo := Lib.hid (hO.base hs2)
          have Hm := Lib.hid hm
          have HB3 := Lib.hid (HB2.out.trans (hb3.mono hs2))
          have HFE : Hid (followE fs (xs.map PrV.P) K T = 0) := HE.out.trans HEE.out
          clear hsp hown hO hm hb3
          go_wp2_with fail
          refine bodyPost_ret (v := .tuple #[.slice A3 (shiftL fs K T).length c3, v2, .int .i64 0]) (by simp [results, Try.results34, go_sem]) rfl ⟨_, v2, ys, by rw [HFE.out], ?_, ?_, HOo.out, HB3.out⟩
          · rw [followF, if_pos HFE.out]
            exact ⟨A3, c3, rfl, HFo.out⟩
          · rw [followP, if_pos HFE.out]
            exact Hm.out
        · have he := hsp.2.1 (by rw [HEE.out]; exact hE0)
          rw [HEE.out] at he
          subst he
          have HB3 := Lib.hid (HB2.out.trans (hsp.2.2.mono hs2))
          have HFE : Hid (followE fs (xs.map PrV.P) K T = E) := HE.out.trans HEE.out
          have hE1 : (E != 0) = true := by simp [hE0]
          have HE1 := Lib.hid hE0
          clear hsp hE0
          go_wp2_with fail
          refine bodyPost_ret (v := .tuple #[.slice none 0 0, .slice none 0 0, .int .i64 E]) (by simp [results, Try.results34, go_sem]) rfl (follow_bad HFE.out HE1.out HB3.out)
      · have HE : followE fs (xs.map PrV.P) K T = 40 := by rw [HE0.out, if_neg (by omega)]
        have HE := Lib.hid HE
        have hT0' : (S2 != 0) = true := by simp [hT0]
        have h41 : (S == 4) = false := by simp; omega
        go_wp2_with fail
        refine (rocc_any S _).mono ?_
        rewrite [show occB S = true from by simp [occB]; omega]
        rintro e w3 ⟨rfl, rfl⟩
        go_wp2_with fail
        refine bodyPost_ret (v := .tuple #[.slice none 0 0, .slice none 0 0, .int .i64 40]) (by simp [results, Try.results34, go_sem]) rfl (follow_bad HE.out (by decide) HB2.out)
    · subst h4
      have HE : followE fs (xs.map PrV.P) K T = 40 := by rw [HE0.out, if_neg (by omega)]
      have HE := Lib.hid HE
      go_wp2_with fail
      refine (rocc_any 4 _).mono ?_
      rewrite [show occB 4 = true from by simp [occB]]
      rintro e w3 ⟨rfl, rfl⟩
      go_wp2_with fail
      refine bodyPost_ret (v := .tuple #[.slice none 0 0, .slice none 0 0, .int .i64 40]) (by simp [results, Try.results34, go_sem]) rfl (follow_bad HE.out (by decide) HB2.out)
    · subst h4
      have HE : followE fs (xs.map PrV.P) K T = 40 := by rw [HE0.out, if_neg (by omega)]
      have HE := Lib.hid HE
      go_wp2_with fail
      refine (rocc_any 5 _).mono ?_
      rewrite [show occB 5 = false from by simp [occB]]
      rintro e w3 ⟨rfl, rfl⟩
      go_wp2_with fail
      refine bodyPost_ret (v := .tuple #[.slice none 0 0, .slice none 0 0, .int .i64 40]) (by simp [results, Try.results34, go_sem]) rfl (follow_bad HE.out (by decide) HB2.out)
  · have HE : followE fs (xs.map PrV.P) a b = 43 := by rw [followE, if_neg (by rw [Hl.out]; exact hr)]
    have HE := Lib.hid HE
    have hrr : a < 0 ∨ (0 ≤ a ∧ (n : Int) ≤ a) ∨ (0 ≤ a ∧ a < (n : Int) ∧ b < 0) ∨ (0 ≤ a ∧ a < (n : Int) ∧ 0 ≤ b ∧ (n : Int) ≤ b) := by omega
    clear hr hst
    rcases hrr with r1 | ⟨r1, r2⟩ | ⟨r1, r2, r3⟩ | ⟨r1, r2, r3, r4⟩
    all_goals
      go_enter Try.func34, Try.ntmps34
      go_wp2_with fail
      refine (rvalid28_any _ n c fs _ HF.out (by omega)).mono ?_
      rewrite [HV.out]
      rintro e w1 ⟨rfl, hb1⟩
      have HB1 := Lib.hid hb1
      have hs1 := hb1.size
      clear hb1
      go_wp2_with fail
      refine (rvalid_any _ pn pc (n : Int) xs _ (HP.out.below HB1.out) HI.out (by omega)).mono ?_
      rintro e w2 ⟨rfl, hb2⟩
      have HB2 := Lib.hid (HB1.out.trans (hb2.mono hs1))
      clear hb2
      go_wp2_with fail
      refine bodyPost_ret (v := .tuple #[.slice none 0 0, .slice none 0 0, .int .i64 43]) (by simp [results, Try.results34, go_sem]) rfl (follow_bad HE.out (by decide) HB2.out)
end Go.Proofs.Ytjlmgjpnfppkoaa
