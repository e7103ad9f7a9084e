/-
  Frames, walked: giving, changing and retiring.
-/
import Derived.LoopTactic
import Derived.Test.YtjlmgjpnfppkoaaFr2
namespace Go.Proofs.Ytjlmgjpnfppkoaa
open Go.RowKit
attribute [local go_sem ↓] Go.wp_at_zero Go.wp_at_succ

def rangeB (fs : List FrD) (f : Int) : Bool := decide (0 ≤ f ∧ f < (fs.length : Int))
def checkE (fs : List FrD) (f : Int) : Int := if validF fs = true then (if rangeB fs f = true then 0 else 43) else 1
def stAt (fs : List FrD) (f : Int) : Int := (fs.getD f.toNat FrD.zero).st
def stillB (s : Int) : Bool := s != 4 && s != 5
def giveE (fs : List FrD) (f : Int) : Int := if validF fs = true then (if rangeB fs f = true then (if occB (stAt fs f) = true then 0 else 40) else 43) else 1
def giveL (fs : List FrD) (f : Int) : List FrD := if giveE fs f = 0 then fs.set f.toNat ⟨0, 0⟩ else []
def retE (fs : List FrD) (f : Int) : Int := if validF fs = true then (if rangeB fs f = true then (if stillB (stAt fs f) = true then 0 else 40) else 43) else 1
def retL (fs : List FrD) (f : Int) : List FrD := if retE fs f = 0 then fs.set f.toNat ⟨5, 0⟩ else []
def chgE (fs : List FrD) (f s b : Int) : Int := if validF fs = true then (if rangeB fs f = true then (if occB (stAt fs f) = true then (if occB s = true ∧ fitB s b = true then 0 else 2) else 40) else 43) else 1
def chgL (fs : List FrD) (f s b : Int) : List FrD := if chgE fs f s b = 0 then fs.set f.toNat ⟨s, b⟩ else []
theorem range_nat {fs : List FrD} {K : Nat} (h : K < fs.length) : rangeB fs K = true := by simp [rangeB]; omega
theorem range_neg {fs : List FrD} {f : Int} (h : f < 0) : rangeB fs f = false := by simp [rangeB]; omega
theorem range_over {fs : List FrD} {f : Int} (h : (fs.length : Int) ≤ f) : rangeB fs f = false := by simp [rangeB]; omega
theorem ownFrs_set {w : World} {B n : Nat} {A : Option Addr} {c : Nat} {fs : List FrD} {k : Nat} {x : FrD} (hl : fs.length = n) (h : w.ownsRow B 54 2 (.slice A n c) n (frVals (fs.set k x))) : OwnFrs w B (.slice A n c) (fs.set k x) := by
  have hl' : (fs.set k x).length = n := by rw [List.length_set]; exact hl
  exact ⟨A, c, by rw [hl'], by rw [hl']; exact h⟩

theorem validF_len {fs : List FrD} (h : validF fs = true) : fs.length ≤ 64 := by
  simp only [validF, Bool.and_eq_true, decide_eq_true_eq] at h
  exact h.1.2
set_option maxHeartbeats 1000000 in
theorem fcheck_any (A : Option Addr) (n c : Nat) (f : Int) (fs : List FrD) (w : World) (h : Has w A n 2 (frVals fs)) :
    Calls Try.prog 86 #[.slice A n c, .int .i64 f] w fun e w' => e = .returned (.int .i64 (checkE fs f)) ∧ Below w.heap.size w w' := by
  have Hh := Lib.hid h
  have Hl := Lib.hid h.frame
  clear h
  cases hv : validF fs
  · have hE : checkE fs f = 1 := by simp [checkE, hv]
    rewrite [hE]
    have Hv := Lib.hid hv
    clear hv hE
    go_enter Try.func86, Try.ntmps86
    go_wp2_with fail
    refine (fvalid_any A n c fs _ Hh.out).mono ?_
    rewrite [Hv.out]
    rintro e w1 ⟨rfl, hb1⟩
    go_wp2_with fail
    go_ret
    exact ⟨rfl, hb1⟩
  · by_cases hf0 : f < 0
    · have hE : checkE fs f = 43 := by simp [checkE, hv, range_neg hf0]
      rewrite [hE]
      have Hv := Lib.hid hv
      clear hv hE
      go_enter Try.func86, Try.ntmps86
      go_wp2_with fail
      refine (fvalid_any A n c fs _ Hh.out).mono ?_
      rewrite [Hv.out]
      rintro e w1 ⟨rfl, hb1⟩
      go_wp2_with fail
      go_ret
      exact ⟨rfl, hb1⟩
    · by_cases hfn : (n : Int) ≤ f
      · have hE : checkE fs f = 43 := by simp [checkE, hv, range_over (by rw [Hl.out]; exact hfn)]
        rewrite [hE]
        have Hv := Lib.hid hv
        clear hv hE
        go_enter Try.func86, Try.ntmps86
        go_wp2_with fail
        refine (fvalid_any A n c fs _ Hh.out).mono ?_
        rewrite [Hv.out]
        rintro e w1 ⟨rfl, hb1⟩
        go_wp2_with fail
        go_ret
        exact ⟨rfl, hb1⟩
      · have hE : checkE fs f = 0 := by
          have : rangeB fs f = true := by simp [rangeB, Hl.out]; omega
          simp [checkE, hv, this]
        rewrite [hE]
        have Hv := Lib.hid hv
        clear hv hE
        go_enter Try.func86, Try.ntmps86
        go_wp2_with fail
        refine (fvalid_any A n c fs _ Hh.out).mono ?_
        rewrite [Hv.out]
        rintro e w1 ⟨rfl, hb1⟩
        go_wp2_with fail
        go_ret
        exact ⟨rfl, hb1⟩

set_option maxHeartbeats 2000000 in
theorem give_any (A : Option Addr) (n c : Nat) (f : Int) (fs : List FrD) (w : World) (h : Has w A n 2 (frVals fs)) :
    Calls Try.prog 56 #[.slice A n c, .int .i64 f] w fun e w' => ∃ v, e = .returned (.tuple #[v, .int .i64 (giveE fs f)]) ∧ OwnFrs w' w.heap.size v (giveL fs f) ∧ Below w.heap.size w w' := by
  have Hh := Lib.hid h
  have Hl := Lib.hid h.frame
  clear h
  cases hv : validF fs
  · have Hv := Lib.hid hv
    have hE : giveE fs f = 1 := by simp [giveE, hv]
    have hL : giveL fs f = [] := by simp [giveL, hE]
    rewrite [hE, hL]
    clear hE hL
    clear hv
    go_enter Try.func56, Try.ntmps56
    go_wp2_with fail
    refine (fcheck_any _ n c _ fs _ Hh.out).mono ?_
    rewrite [show checkE fs f = 1 from by simp [checkE, Hv.out]]
    rintro e w1 ⟨rfl, hb1⟩
    go_wp2_with fail
    go_ret2
    exact ⟨_, rfl, OwnFrs.nil_ _ _, hb1⟩
  · have Hv := Lib.hid hv
    by_cases hf : f < 0
    · have hr : rangeB fs f = false := range_neg hf
      have Hr := Lib.hid hr
      have hE : giveE fs f = 43 := by simp [giveE, hv, hr]
      have hL : giveL fs f = [] := by simp [giveL, hE]
      rewrite [hE, hL]
      clear hE hL
      clear hv hr
      go_enter Try.func56, Try.ntmps56
      go_wp2_with fail
      refine (fcheck_any _ n c _ fs _ Hh.out).mono ?_
      rewrite [show checkE fs f = 43 from by simp [checkE, Hv.out, Hr.out]]
      rintro e w1 ⟨rfl, hb1⟩
      go_wp2_with fail
      go_ret2
      exact ⟨_, rfl, OwnFrs.nil_ _ _, hb1⟩
    by_cases hfn : (n : Int) ≤ f
    · have hr : rangeB fs f = false := range_over (by rw [Hl.out]; exact hfn)
      have Hr := Lib.hid hr
      have hE : giveE fs f = 43 := by simp [giveE, hv, hr]
      have hL : giveL fs f = [] := by simp [giveL, hE]
      rewrite [hE, hL]
      clear hE hL
      clear hv hr
      go_enter Try.func56, Try.ntmps56
      go_wp2_with fail
      refine (fcheck_any _ n c _ fs _ Hh.out).mono ?_
      rewrite [show checkE fs f = 43 from by simp [checkE, Hv.out, Hr.out]]
      rintro e w1 ⟨rfl, hb1⟩
      go_wp2_with fail
      go_ret2
      exact ⟨_, rfl, OwnFrs.nil_ _ _, hb1⟩
    obtain ⟨K, rfl⟩ : ∃ K : Nat, f = K := ⟨f.toNat, by omega⟩
    have hk : K < n := by omega
    have hr : rangeB fs (K : Int) = true := range_nat (by rw [Hl.out]; exact hk)
    have Hr := Lib.hid hr
    obtain ⟨b0, off, rfl, hbl, c0, -⟩ := Hh.out.frame_at hk
    obtain ⟨S, hS⟩ : ∃ S, (fs.getD K FrD.zero).st = S := ⟨_, rfl⟩
    rw [hS] at c0
    have hst : stAt fs (K : Int) = S := by simp only [stAt, Int.toNat_natCast]; exact hS
    have hn64 : n ≤ 64 := by have := (validF_len hv); rw [Hl.out] at this; exact this
    have hlt : (K : Int) < (n : Int) := by omega
    clear hS
    cases ho : occB S
    · have Ho := Lib.hid ho
      have hE : giveE fs (K : Int) = 40 := by simp [giveE, hv, hr, hst, ho]
      have hL : giveL fs (K : Int) = [] := by simp [giveL, hE]
      rewrite [hE, hL]
      clear hE hL
      clear hv hr hst ho
      go_enter Try.func56, Try.ntmps56
      go_wp2_with fail
      refine (fcheck_any _ n c _ fs _ Hh.out).mono ?_
      rewrite [show checkE fs (K : Int) = 0 from by simp [checkE, Hv.out, Hr.out]]
      rintro e w1 ⟨rfl, hb1⟩
      have d0 := cellK hb1 hbl c0
      have H1 := Lib.hid (Hh.out.below hb1)
      have hs1 := hb1.size
      go_wp2_with fail
      refine (occ_any S _).mono ?_
      rewrite [Ho.out]
      rintro e w2 ⟨rfl, rfl⟩
      go_wp2_with fail
      go_ret2
      exact ⟨_, rfl, OwnFrs.nil_ _ _, hb1⟩
    have Ho := Lib.hid ho
    have hE : giveE fs (K : Int) = 0 := by simp [giveE, hv, hr, hst, ho]
    have hL : giveL fs (K : Int) = fs.set K ⟨0, 0⟩ := by simp [giveL, hE]
    rewrite [hE, hL]
    clear hE hL
    clear hv hr hst ho
    go_enter Try.func56, Try.ntmps56
    go_wp2_with fail
    refine (fcheck_any _ n c _ fs _ Hh.out).mono ?_
    rewrite [show checkE fs (K : Int) = 0 from by simp [checkE, Hv.out, Hr.out]]
    rintro e w1 ⟨rfl, hb1⟩
    have d0 := cellK hb1 hbl c0
    have H1 := Lib.hid (Hh.out.below hb1)
    have hs1 := hb1.size
    go_wp2_with fail
    refine (occ_any S _).mono ?_
    rewrite [Ho.out]
    rintro e w2 ⟨rfl, rfl⟩
    go_wp2_with fail
    refine (with_any _ n c K 0 0 fs _ H1.out (by omega) hk).mono ?_
    rintro e w9 ⟨A', c', rfl, hown, hb9⟩
    have hB9 := hb1.trans (hb9.mono hb1.size)
    have Hown := Lib.hid hown
    clear hown hb9
    go_wp2_with fail
    go_ret2
    exact ⟨_, rfl, ownFrs_set Hl.out (ownsRow_base Hown.out hs1), hB9⟩

set_option maxHeartbeats 2000000 in
theorem change_any (A : Option Addr) (n c : Nat) (f s b : Int) (fs : List FrD) (w : World) (h : Has w A n 2 (frVals fs)) :
    Calls Try.prog 57 #[.slice A n c, .int .i64 f, .int .i64 s, .int .i64 b] w fun e w' => ∃ v, e = .returned (.tuple #[v, .int .i64 (chgE fs f s b)]) ∧ OwnFrs w' w.heap.size v (chgL fs f s b) ∧ Below w.heap.size w w' := by
  have Hh := Lib.hid h
  have Hl := Lib.hid h.frame
  clear h
  cases hv : validF fs
  · have Hv := Lib.hid hv
    have hE : chgE fs f s b = 1 := by simp [chgE, hv]
    have hL : chgL fs f s b = [] := by simp [chgL, hE]
    rewrite [hE, hL]
    clear hE hL
    clear hv
    go_enter Try.func57, Try.ntmps57
    go_wp2_with fail
    refine (fcheck_any _ n c _ fs _ Hh.out).mono ?_
    rewrite [show checkE fs f = 1 from by simp [checkE, Hv.out]]
    rintro e w1 ⟨rfl, hb1⟩
    go_wp2_with fail
    go_ret2
    exact ⟨_, rfl, OwnFrs.nil_ _ _, hb1⟩
  · have Hv := Lib.hid hv
    by_cases hf : f < 0
    · have hr : rangeB fs f = false := range_neg hf
      have Hr := Lib.hid hr
      have hE : chgE fs f s b = 43 := by simp [chgE, hv, hr]
      have hL : chgL fs f s b = [] := by simp [chgL, hE]
      rewrite [hE, hL]
      clear hE hL
      clear hv hr
      go_enter Try.func57, Try.ntmps57
      go_wp2_with fail
      refine (fcheck_any _ n c _ fs _ Hh.out).mono ?_
      rewrite [show checkE fs f = 43 from by simp [checkE, Hv.out, Hr.out]]
      rintro e w1 ⟨rfl, hb1⟩
      go_wp2_with fail
      go_ret2
      exact ⟨_, rfl, OwnFrs.nil_ _ _, hb1⟩
    by_cases hfn : (n : Int) ≤ f
    · have hr : rangeB fs f = false := range_over (by rw [Hl.out]; exact hfn)
      have Hr := Lib.hid hr
      have hE : chgE fs f s b = 43 := by simp [chgE, hv, hr]
      have hL : chgL fs f s b = [] := by simp [chgL, hE]
      rewrite [hE, hL]
      clear hE hL
      clear hv hr
      go_enter Try.func57, Try.ntmps57
      go_wp2_with fail
      refine (fcheck_any _ n c _ fs _ Hh.out).mono ?_
      rewrite [show checkE fs f = 43 from by simp [checkE, Hv.out, Hr.out]]
      rintro e w1 ⟨rfl, hb1⟩
      go_wp2_with fail
      go_ret2
      exact ⟨_, rfl, OwnFrs.nil_ _ _, hb1⟩
    obtain ⟨K, rfl⟩ : ∃ K : Nat, f = K := ⟨f.toNat, by omega⟩
    have hk : K < n := by omega
    have hr : rangeB fs (K : Int) = true := range_nat (by rw [Hl.out]; exact hk)
    have Hr := Lib.hid hr
    obtain ⟨b0, off, rfl, hbl, c0, -⟩ := Hh.out.frame_at hk
    obtain ⟨S, hS⟩ : ∃ S, (fs.getD K FrD.zero).st = S := ⟨_, rfl⟩
    rw [hS] at c0
    have hst : stAt fs (K : Int) = S := by simp only [stAt, Int.toNat_natCast]; exact hS
    have hn64 : n ≤ 64 := by have := (validF_len hv); rw [Hl.out] at this; exact this
    have hlt : (K : Int) < (n : Int) := by omega
    clear hS
    cases ho : occB S
    · have Ho := Lib.hid ho
      have hE : chgE fs (K : Int) s b = 40 := by simp [chgE, hv, hr, hst, ho]
      have hL : chgL fs (K : Int) s b = [] := by simp [chgL, hE]
      rewrite [hE, hL]
      clear hE hL
      clear hv hr hst ho
      go_enter Try.func57, Try.ntmps57
      go_wp2_with fail
      refine (fcheck_any _ n c _ fs _ Hh.out).mono ?_
      rewrite [show checkE fs (K : Int) = 0 from by simp [checkE, Hv.out, Hr.out]]
      rintro e w1 ⟨rfl, hb1⟩
      have d0 := cellK hb1 hbl c0
      have H1 := Lib.hid (Hh.out.below hb1)
      have hs1 := hb1.size
      go_wp2_with fail
      refine (occ_any S _).mono ?_
      rewrite [Ho.out]
      rintro e w2 ⟨rfl, rfl⟩
      go_wp2_with fail
      go_ret2
      exact ⟨_, rfl, OwnFrs.nil_ _ _, hb1⟩
    have Ho := Lib.hid ho
    cases ho2 : occB s
    · have Ho2 := Lib.hid ho2
      have hE : chgE fs (K : Int) s b = 2 := by simp [chgE, hv, hr, hst, ho, ho2]
      have hL : chgL fs (K : Int) s b = [] := by simp [chgL, hE]
      rewrite [hE, hL]
      clear hE hL
      clear hv hr hst ho ho2
      go_enter Try.func57, Try.ntmps57
      go_wp2_with fail
      refine (fcheck_any _ n c _ fs _ Hh.out).mono ?_
      rewrite [show checkE fs (K : Int) = 0 from by simp [checkE, Hv.out, Hr.out]]
      rintro e w1 ⟨rfl, hb1⟩
      have d0 := cellK hb1 hbl c0
      have H1 := Lib.hid (Hh.out.below hb1)
      have hs1 := hb1.size
      go_wp2_with fail
      refine (occ_any S _).mono ?_
      rewrite [Ho.out]
      rintro e w2 ⟨rfl, rfl⟩
      go_wp2_with fail
      refine (occ_any s _).mono ?_
      rewrite [Ho2.out]
      rintro e w2 ⟨rfl, rfl⟩
      go_wp2_with fail
      go_ret2
      exact ⟨_, rfl, OwnFrs.nil_ _ _, hb1⟩
    have Ho2 := Lib.hid ho2
    cases hfi : fitB s b
    · have Hfi := Lib.hid hfi
      have hE : chgE fs (K : Int) s b = 2 := by simp [chgE, hv, hr, hst, ho, ho2, hfi]
      have hL : chgL fs (K : Int) s b = [] := by simp [chgL, hE]
      rewrite [hE, hL]
      clear hE hL
      clear hv hr hst ho ho2 hfi
      go_enter Try.func57, Try.ntmps57
      go_wp2_with fail
      refine (fcheck_any _ n c _ fs _ Hh.out).mono ?_
      rewrite [show checkE fs (K : Int) = 0 from by simp [checkE, Hv.out, Hr.out]]
      rintro e w1 ⟨rfl, hb1⟩
      have d0 := cellK hb1 hbl c0
      have H1 := Lib.hid (Hh.out.below hb1)
      have hs1 := hb1.size
      go_wp2_with fail
      refine (occ_any S _).mono ?_
      rewrite [Ho.out]
      rintro e w2 ⟨rfl, rfl⟩
      go_wp2_with fail
      refine (occ_any s _).mono ?_
      rewrite [Ho2.out]
      rintro e w2 ⟨rfl, rfl⟩
      go_wp2_with fail
      refine (fit_any s b _).mono ?_
      rewrite [Hfi.out]
      rintro e w2 ⟨rfl, rfl⟩
      go_wp2_with fail
      go_ret2
      exact ⟨_, rfl, OwnFrs.nil_ _ _, hb1⟩
    have Hfi := Lib.hid hfi
    have hE : chgE fs (K : Int) s b = 0 := by simp [chgE, hv, hr, hst, ho, ho2, hfi]
    have hL : chgL fs (K : Int) s b = fs.set K ⟨s, b⟩ := by simp [chgL, hE]
    rewrite [hE, hL]
    clear hE hL
    clear hv hr hst ho ho2 hfi
    go_enter Try.func57, Try.ntmps57
    go_wp2_with fail
    refine (fcheck_any _ n c _ fs _ Hh.out).mono ?_
    rewrite [show checkE fs (K : Int) = 0 from by simp [checkE, Hv.out, Hr.out]]
    rintro e w1 ⟨rfl, hb1⟩
    have d0 := cellK hb1 hbl c0
    have H1 := Lib.hid (Hh.out.below hb1)
    have hs1 := hb1.size
    go_wp2_with fail
    refine (occ_any S _).mono ?_
    rewrite [Ho.out]
    rintro e w2 ⟨rfl, rfl⟩
    go_wp2_with fail
    refine (occ_any s _).mono ?_
    rewrite [Ho2.out]
    rintro e w2 ⟨rfl, rfl⟩
    go_wp2_with fail
    refine (fit_any s b _).mono ?_
    rewrite [Hfi.out]
    rintro e w2 ⟨rfl, rfl⟩
    go_wp2_with fail
    refine (with_any _ n c K s b fs _ H1.out (by omega) hk).mono ?_
    rintro e w9 ⟨A', c', rfl, hown, hb9⟩
    have hB9 := hb1.trans (hb9.mono hb1.size)
    have Hown := Lib.hid hown
    clear hown hb9
    go_wp2_with fail
    go_ret2
    exact ⟨_, rfl, ownFrs_set Hl.out (ownsRow_base Hown.out hs1), hB9⟩

set_option maxHeartbeats 2000000 in
theorem retire_any (A : Option Addr) (n c : Nat) (f : Int) (fs : List FrD) (w : World) (h : Has w A n 2 (frVals fs)) :
    Calls Try.prog 58 #[.slice A n c, .int .i64 f] w fun e w' => ∃ v, e = .returned (.tuple #[v, .int .i64 (retE fs f)]) ∧ OwnFrs w' w.heap.size v (retL fs f) ∧ Below w.heap.size w w' := by
  have Hh := Lib.hid h
  have Hl := Lib.hid h.frame
  clear h
  cases hv : validF fs
  · have Hv := Lib.hid hv
    have hE : retE fs f = 1 := by simp [retE, hv]
    have hL : retL fs f = [] := by simp [retL, hE]
    rewrite [hE, hL]
    clear hE hL
    clear hv
    go_enter Try.func58, Try.ntmps58
    go_wp2_with fail
    refine (fcheck_any _ n c _ fs _ Hh.out).mono ?_
    rewrite [show checkE fs f = 1 from by simp [checkE, Hv.out]]
    rintro e w1 ⟨rfl, hb1⟩
    go_wp2_with fail
    go_ret2
    exact ⟨_, rfl, OwnFrs.nil_ _ _, hb1⟩
  · have Hv := Lib.hid hv
    by_cases hf : f < 0
    · have hr : rangeB fs f = false := range_neg hf
      have Hr := Lib.hid hr
      have hE : retE fs f = 43 := by simp [retE, hv, hr]
      have hL : retL fs f = [] := by simp [retL, hE]
      rewrite [hE, hL]
      clear hE hL
      clear hv hr
      go_enter Try.func58, Try.ntmps58
      go_wp2_with fail
      refine (fcheck_any _ n c _ fs _ Hh.out).mono ?_
      rewrite [show checkE fs f = 43 from by simp [checkE, Hv.out, Hr.out]]
      rintro e w1 ⟨rfl, hb1⟩
      go_wp2_with fail
      go_ret2
      exact ⟨_, rfl, OwnFrs.nil_ _ _, hb1⟩
    by_cases hfn : (n : Int) ≤ f
    · have hr : rangeB fs f = false := range_over (by rw [Hl.out]; exact hfn)
      have Hr := Lib.hid hr
      have hE : retE fs f = 43 := by simp [retE, hv, hr]
      have hL : retL fs f = [] := by simp [retL, hE]
      rewrite [hE, hL]
      clear hE hL
      clear hv hr
      go_enter Try.func58, Try.ntmps58
      go_wp2_with fail
      refine (fcheck_any _ n c _ fs _ Hh.out).mono ?_
      rewrite [show checkE fs f = 43 from by simp [checkE, Hv.out, Hr.out]]
      rintro e w1 ⟨rfl, hb1⟩
      go_wp2_with fail
      go_ret2
      exact ⟨_, rfl, OwnFrs.nil_ _ _, hb1⟩
    obtain ⟨K, rfl⟩ : ∃ K : Nat, f = K := ⟨f.toNat, by omega⟩
    have hk : K < n := by omega
    have hr : rangeB fs (K : Int) = true := range_nat (by rw [Hl.out]; exact hk)
    have Hr := Lib.hid hr
    obtain ⟨b0, off, rfl, hbl, c0, -⟩ := Hh.out.frame_at hk
    obtain ⟨S, hS⟩ : ∃ S, (fs.getD K FrD.zero).st = S := ⟨_, rfl⟩
    rw [hS] at c0
    have hst : stAt fs (K : Int) = S := by simp only [stAt, Int.toNat_natCast]; exact hS
    have hn64 : n ≤ 64 := by have := (validF_len hv); rw [Hl.out] at this; exact this
    have hlt : (K : Int) < (n : Int) := by omega
    clear hS
    by_cases h4 : S = 4
    · subst h4
      have hE : retE fs (K : Int) = 40 := by simp [retE, hv, hr, hst, stillB]
      have hL : retL fs (K : Int) = [] := by simp [retL, hE]
      rewrite [hE, hL]
      clear hE hL
      clear hv hr hst
      go_enter Try.func58, Try.ntmps58
      go_wp2_with fail
      refine (fcheck_any _ n c _ fs _ Hh.out).mono ?_
      rewrite [show checkE fs (K : Int) = 0 from by simp [checkE, Hv.out, Hr.out]]
      rintro e w1 ⟨rfl, hb1⟩
      have d0 := cellK hb1 hbl c0
      have H1 := Lib.hid (Hh.out.below hb1)
      have hs1 := hb1.size
      go_wp2_with fail
      go_ret2
      exact ⟨_, rfl, OwnFrs.nil_ _ _, hb1⟩
    by_cases h5 : S = 5
    · subst h5
      have hE : retE fs (K : Int) = 40 := by simp [retE, hv, hr, hst, stillB]
      have hL : retL fs (K : Int) = [] := by simp [retL, hE]
      rewrite [hE, hL]
      clear hE hL
      clear hv hr hst
      go_enter Try.func58, Try.ntmps58
      go_wp2_with fail
      refine (fcheck_any _ n c _ fs _ Hh.out).mono ?_
      rewrite [show checkE fs (K : Int) = 0 from by simp [checkE, Hv.out, Hr.out]]
      rintro e w1 ⟨rfl, hb1⟩
      have d0 := cellK hb1 hbl c0
      have H1 := Lib.hid (Hh.out.below hb1)
      have hs1 := hb1.size
      go_wp2_with fail
      go_ret2
      exact ⟨_, rfl, OwnFrs.nil_ _ _, hb1⟩
    have hE : retE fs (K : Int) = 0 := by simp [retE, hv, hr, hst, stillB, h4, h5]
    have hL : retL fs (K : Int) = fs.set K ⟨5, 0⟩ := by simp [retL, hE]
    rewrite [hE, hL]
    clear hE hL
    have h4' : (S == 4) = false := by simp [h4]
    have h5' : (S == 5) = false := by simp [h5]
    clear hv hr hst
    go_enter Try.func58, Try.ntmps58
    go_wp2_with fail
    refine (fcheck_any _ n c _ fs _ Hh.out).mono ?_
    rewrite [show checkE fs (K : Int) = 0 from by simp [checkE, Hv.out, Hr.out]]
    rintro e w1 ⟨rfl, hb1⟩
    have d0 := cellK hb1 hbl c0
    have H1 := Lib.hid (Hh.out.below hb1)
    have hs1 := hb1.size
    go_wp2_with fail
    refine (with_any _ n c K 5 0 fs _ H1.out (by omega) hk).mono ?_
    rintro e w9 ⟨A', c', rfl, hown, hb9⟩
    have hB9 := hb1.trans (hb9.mono hb1.size)
    have Hown := Lib.hid hown
    clear hown hb9
    go_wp2_with fail
    go_ret2
    exact ⟨_, rfl, ownFrs_set Hl.out (ownsRow_base Hown.out hs1), hB9⟩
end Go.Proofs.Ytjlmgjpnfppkoaa
