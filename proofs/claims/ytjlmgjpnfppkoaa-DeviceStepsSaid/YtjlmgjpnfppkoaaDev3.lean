/-
  Contracts of functions of the given program (layer 32), walked: the next word of a transfer.
-/
import Derived.Test.YtjlmgjpnfppkoaaDev2
namespace Go.Proofs.Ytjlmgjpnfppkoaa
open Go.RowKit
attribute [local go_sem ↓] Go.wp_at_zero Go.wp_at_succ

def nextA (T : TrD) : Int := if liveT T = true then T.fr + T.dn else 0
def nextB (T : TrD) : Int := if liveT T = true then T.tt + T.dn else 0

theorem valid_bd {f t c n : Int} {s x : Bool} (h : validT ⟨f, t, c, n, s, x⟩ = true) : (1 ≤ c ∧ c ≤ 64 ∧ 0 ≤ f ∧ f ≤ 1048576 - c ∧ 0 ≤ t ∧ t ≤ 1048576 - c) ∧ 0 ≤ n ∧ n ≤ c := by
  simp only [validT, Bool.and_eq_true, decide_eq_true_eq] at h
  exact ⟨placed_bd h.1, h.2.2.1, h.2.2.2.1⟩

set_option maxHeartbeats 2000000 in
theorem dnext_any (f t c n : Int) (s x : Bool) (w : World) (h0 : -9223372036854775808 ≤ c) :
    Calls Try.prog 42 #[.agg #[.int .i64 f, .int .i64 t, .int .i64 c, .int .i64 n, .bool s, .bool x]] w fun e w' => e = .returned (.tuple #[.int .i64 (nextA ⟨f, t, c, n, s, x⟩), .int .i64 (nextB ⟨f, t, c, n, s, x⟩), .bool (liveT ⟨f, t, c, n, s, x⟩)]) ∧ Below w.heap.size w w' := by
  cases hv : validT ⟨f, t, c, n, s, x⟩
  · have hl : liveT ⟨f, t, c, n, s, x⟩ = false := by simp [liveT, hv]
    simp only [nextA, nextB, hl, Bool.false_eq_true, if_false]
    clear hl
    have HV := Lib.hid hv
    clear hv
    go_enter Try.func42, Try.ntmps42
    go_wp2_with fail
    refine (dvalid_any _ _ _ _ _ _ _ h0).mono ?_
    rewrite [HV.out]
    rintro e w1 ⟨rfl, hb1⟩
    have hB1 := (show Below w.heap.size w _ by (repeat' (first | (with_reducible exact Below.refl _ _) | (with_reducible assumption) | (with_reducible refine Below.alloc ?_ ?_ _) | (with_reducible refine Below.drew ?_) | (with_reducible refine below_drewN ?_ _) | (with_reducible refine Below.setCell ?_ ?_ _) | (with_reducible exact Nat.le_refl _) | omega | (simp <;> omega)))).trans (hb1.mono (show w.heap.size ≤ _ by (first | (with_reducible exact Nat.le_refl _) | (with_reducible assumption) | omega | (simp <;> omega))))
    go_wp2_with fail
    go_ret3
    exact ⟨rfl, hB1⟩
  · obtain ⟨⟨q1, q2, q3, q4, q5, q6⟩, q7, q8⟩ := valid_bd hv
    cases ho : overT ⟨f, t, c, n, s, x⟩
    · have hl : liveT ⟨f, t, c, n, s, x⟩ = true := by simp [liveT, hv, ho]
      simp only [nextA, nextB, hl, if_true]
      clear hl
      have HV := Lib.hid hv
      have HO := Lib.hid ho
      clear hv ho
      go_enter Try.func42, Try.ntmps42
      go_wp2_with fail
      refine (dvalid_any _ _ _ _ _ _ _ h0).mono ?_
      rewrite [HV.out]
      rintro e w1 ⟨rfl, hb1⟩
      have hB1 := (show Below w.heap.size w _ by (repeat' (first | (with_reducible exact Below.refl _ _) | (with_reducible assumption) | (with_reducible refine Below.alloc ?_ ?_ _) | (with_reducible refine Below.drew ?_) | (with_reducible refine below_drewN ?_ _) | (with_reducible refine Below.setCell ?_ ?_ _) | (with_reducible exact Nat.le_refl _) | omega | (simp <;> omega)))).trans (hb1.mono (show w.heap.size ≤ _ by (first | (with_reducible exact Nat.le_refl _) | (with_reducible assumption) | omega | (simp <;> omega))))
      have nb0 := cellK (g := w.heap.size) (i := 0) (v := .int .i64 f) hb1 (by (first | (with_reducible exact Nat.le_refl _) | (with_reducible assumption) | omega | (simp <;> omega))) (by simp [go_sem, *])
      have nb1 := cellK (g := w.heap.size) (i := 1) (v := .int .i64 t) hb1 (by (first | (with_reducible exact Nat.le_refl _) | (with_reducible assumption) | omega | (simp <;> omega))) (by simp [go_sem, *])
      have nb2 := cellK (g := w.heap.size) (i := 2) (v := .int .i64 c) hb1 (by (first | (with_reducible exact Nat.le_refl _) | (with_reducible assumption) | omega | (simp <;> omega))) (by simp [go_sem, *])
      have nb3 := cellK (g := w.heap.size) (i := 3) (v := .int .i64 n) hb1 (by (first | (with_reducible exact Nat.le_refl _) | (with_reducible assumption) | omega | (simp <;> omega))) (by simp [go_sem, *])
      have nb4 := cellK (g := w.heap.size) (i := 4) (v := .bool s) hb1 (by (first | (with_reducible exact Nat.le_refl _) | (with_reducible assumption) | omega | (simp <;> omega))) (by simp [go_sem, *])
      have nb5 := cellK (g := w.heap.size) (i := 5) (v := .bool x) hb1 (by (first | (with_reducible exact Nat.le_refl _) | (with_reducible assumption) | omega | (simp <;> omega))) (by simp [go_sem, *])
      have kb0 := nb0
      have kb1 := nb1
      have kb2 := nb2
      have kb3 := nb3
      have kb4 := nb4
      have kb5 := nb5
      clear nb0 nb1 nb2 nb3 nb4 nb5
      have hs1 := hb1.size
      simp only [World.size_alloc] at hs1
      have l1 : w.heap.size < w1.heap.size := by omega
      clear hb1
      go_wp2_with fail
      refine (over_any _ _ _ _ _ _ _).mono ?_
      rewrite [HO.out]
      rintro e w2 ⟨rfl, hb2⟩
      have hB2 := hB1.trans (hb2.mono hB1.size)
      have nb0 := cellK (g := w.heap.size) (i := 0) (v := .int .i64 f) hb2 (by (first | (with_reducible exact Nat.le_refl _) | (with_reducible assumption) | omega | (simp <;> omega))) (by simp [go_sem, *])
      have nb1 := cellK (g := w.heap.size) (i := 1) (v := .int .i64 t) hb2 (by (first | (with_reducible exact Nat.le_refl _) | (with_reducible assumption) | omega | (simp <;> omega))) (by simp [go_sem, *])
      have nb2 := cellK (g := w.heap.size) (i := 2) (v := .int .i64 c) hb2 (by (first | (with_reducible exact Nat.le_refl _) | (with_reducible assumption) | omega | (simp <;> omega))) (by simp [go_sem, *])
      have nb3 := cellK (g := w.heap.size) (i := 3) (v := .int .i64 n) hb2 (by (first | (with_reducible exact Nat.le_refl _) | (with_reducible assumption) | omega | (simp <;> omega))) (by simp [go_sem, *])
      have nb4 := cellK (g := w.heap.size) (i := 4) (v := .bool s) hb2 (by (first | (with_reducible exact Nat.le_refl _) | (with_reducible assumption) | omega | (simp <;> omega))) (by simp [go_sem, *])
      have nb5 := cellK (g := w.heap.size) (i := 5) (v := .bool x) hb2 (by (first | (with_reducible exact Nat.le_refl _) | (with_reducible assumption) | omega | (simp <;> omega))) (by simp [go_sem, *])
      clear kb0 kb1 kb2 kb3 kb4 kb5
      have kb0 := nb0
      have kb1 := nb1
      have kb2 := nb2
      have kb3 := nb3
      have kb4 := nb4
      have kb5 := nb5
      clear nb0 nb1 nb2 nb3 nb4 nb5
      clear hb2 l1 hB1
      go_wp2_with fail
      go_quiet (fail)
      go_wp2_with fail
      go_ret3
      exact ⟨rfl, by (repeat' (first | (with_reducible exact Below.refl _ _) | (with_reducible assumption) | (with_reducible refine Below.alloc ?_ ?_ _) | (with_reducible refine Below.drew ?_) | (with_reducible refine below_drewN ?_ _) | (with_reducible refine Below.setCell ?_ ?_ _) | (with_reducible exact Nat.le_refl _) | omega | (simp <;> omega)))⟩
    · have hl : liveT ⟨f, t, c, n, s, x⟩ = false := by simp [liveT, hv, ho]
      simp only [nextA, nextB, hl, Bool.false_eq_true, if_false]
      clear hl
      have HV := Lib.hid hv
      have HO := Lib.hid ho
      clear hv ho
      go_enter Try.func42, Try.ntmps42
      go_wp2_with fail
      refine (dvalid_any _ _ _ _ _ _ _ h0).mono ?_
      rewrite [HV.out]
      rintro e w1 ⟨rfl, hb1⟩
      have hB1 := (show Below w.heap.size w _ by (repeat' (first | (with_reducible exact Below.refl _ _) | (with_reducible assumption) | (with_reducible refine Below.alloc ?_ ?_ _) | (with_reducible refine Below.drew ?_) | (with_reducible refine below_drewN ?_ _) | (with_reducible refine Below.setCell ?_ ?_ _) | (with_reducible exact Nat.le_refl _) | omega | (simp <;> omega)))).trans (hb1.mono (show w.heap.size ≤ _ by (first | (with_reducible exact Nat.le_refl _) | (with_reducible assumption) | omega | (simp <;> omega))))
      have nb0 := cellK (g := w.heap.size) (i := 0) (v := .int .i64 f) hb1 (by (first | (with_reducible exact Nat.le_refl _) | (with_reducible assumption) | omega | (simp <;> omega))) (by simp [go_sem, *])
      have nb1 := cellK (g := w.heap.size) (i := 1) (v := .int .i64 t) hb1 (by (first | (with_reducible exact Nat.le_refl _) | (with_reducible assumption) | omega | (simp <;> omega))) (by simp [go_sem, *])
      have nb2 := cellK (g := w.heap.size) (i := 2) (v := .int .i64 c) hb1 (by (first | (with_reducible exact Nat.le_refl _) | (with_reducible assumption) | omega | (simp <;> omega))) (by simp [go_sem, *])
      have nb3 := cellK (g := w.heap.size) (i := 3) (v := .int .i64 n) hb1 (by (first | (with_reducible exact Nat.le_refl _) | (with_reducible assumption) | omega | (simp <;> omega))) (by simp [go_sem, *])
      have nb4 := cellK (g := w.heap.size) (i := 4) (v := .bool s) hb1 (by (first | (with_reducible exact Nat.le_refl _) | (with_reducible assumption) | omega | (simp <;> omega))) (by simp [go_sem, *])
      have nb5 := cellK (g := w.heap.size) (i := 5) (v := .bool x) hb1 (by (first | (with_reducible exact Nat.le_refl _) | (with_reducible assumption) | omega | (simp <;> omega))) (by simp [go_sem, *])
      have kb0 := nb0
      have kb1 := nb1
      have kb2 := nb2
      have kb3 := nb3
      have kb4 := nb4
      have kb5 := nb5
      clear nb0 nb1 nb2 nb3 nb4 nb5
      clear hb1
      go_wp2_with fail
      refine (over_any _ _ _ _ _ _ _).mono ?_
      rewrite [HO.out]
      rintro e w2 ⟨rfl, hb2⟩
      have hB2 := hB1.trans (hb2.mono hB1.size)
      clear hb2 hB1
      go_wp2_with fail
      go_ret3
      exact ⟨rfl, hB2⟩

set_option maxHeartbeats 2000000 in
theorem rnext_any (f t c n : Int) (s x : Bool) (w : World) (h0 : -9223372036854775808 ≤ c) :
    Calls Try.prog 43 #[.agg #[.int .i64 f, .int .i64 t, .int .i64 c, .int .i64 n, .bool s, .bool x]] w fun e w' => e = .returned (.tuple #[.int .i64 (nextA ⟨f, t, c, n, s, x⟩), .int .i64 (nextB ⟨f, t, c, n, s, x⟩), .bool (liveT ⟨f, t, c, n, s, x⟩)]) ∧ Below w.heap.size w w' := by
  cases hv : validT ⟨f, t, c, n, s, x⟩
  · have hl : liveT ⟨f, t, c, n, s, x⟩ = false := by simp [liveT, hv]
    simp only [nextA, nextB, hl, Bool.false_eq_true, if_false]
    clear hl
    have HV := Lib.hid hv
    clear hv
    go_enter Try.func43, Try.ntmps43
    go_wp2_with fail
    refine (rvalid_any _ _ _ _ _ _ _ h0).mono ?_
    rewrite [HV.out]
    rintro e w1 ⟨rfl, hb1⟩
    have hB1 := (show Below w.heap.size w _ by (repeat' (first | (with_reducible exact Below.refl _ _) | (with_reducible assumption) | (with_reducible refine Below.alloc ?_ ?_ _) | (with_reducible refine Below.drew ?_) | (with_reducible refine below_drewN ?_ _) | (with_reducible refine Below.setCell ?_ ?_ _) | (with_reducible exact Nat.le_refl _) | omega | (simp <;> omega)))).trans (hb1.mono (show w.heap.size ≤ _ by (first | (with_reducible exact Nat.le_refl _) | (with_reducible assumption) | omega | (simp <;> omega))))
    go_wp2_with fail
    go_ret3
    exact ⟨rfl, hB1⟩
  · obtain ⟨⟨q1, q2, q3, q4, q5, q6⟩, q7, q8⟩ := valid_bd hv
    have HV := Lib.hid hv
    cases x
    · by_cases hn : n = c
      · have hl : liveT ⟨f, t, c, n, s, false⟩ = false := by simp [liveT, overT, hn]
        simp only [nextA, nextB, hl, Bool.false_eq_true, if_false]
        have hn' : (n == c) = true := by simp [hn]
        clear hl hv hn
        go_enter Try.func43, Try.ntmps43
        go_wp2_with fail
        refine (rvalid_any _ _ _ _ _ _ _ h0).mono ?_
        rewrite [HV.out]
        rintro e w1 ⟨rfl, hb1⟩
        have hB1 := (show Below w.heap.size w _ by (repeat' (first | (with_reducible exact Below.refl _ _) | (with_reducible assumption) | (with_reducible refine Below.alloc ?_ ?_ _) | (with_reducible refine Below.drew ?_) | (with_reducible refine below_drewN ?_ _) | (with_reducible refine Below.setCell ?_ ?_ _) | (with_reducible exact Nat.le_refl _) | omega | (simp <;> omega)))).trans (hb1.mono (show w.heap.size ≤ _ by (first | (with_reducible exact Nat.le_refl _) | (with_reducible assumption) | omega | (simp <;> omega))))
        have nb0 := cellK (g := w.heap.size) (i := 0) (v := .int .i64 f) hb1 (by (first | (with_reducible exact Nat.le_refl _) | (with_reducible assumption) | omega | (simp <;> omega))) (by simp [go_sem, *])
        have nb1 := cellK (g := w.heap.size) (i := 1) (v := .int .i64 t) hb1 (by (first | (with_reducible exact Nat.le_refl _) | (with_reducible assumption) | omega | (simp <;> omega))) (by simp [go_sem, *])
        have nb2 := cellK (g := w.heap.size) (i := 2) (v := .int .i64 c) hb1 (by (first | (with_reducible exact Nat.le_refl _) | (with_reducible assumption) | omega | (simp <;> omega))) (by simp [go_sem, *])
        have nb3 := cellK (g := w.heap.size) (i := 3) (v := .int .i64 n) hb1 (by (first | (with_reducible exact Nat.le_refl _) | (with_reducible assumption) | omega | (simp <;> omega))) (by simp [go_sem, *])
        have nb4 := cellK (g := w.heap.size) (i := 4) (v := .bool s) hb1 (by (first | (with_reducible exact Nat.le_refl _) | (with_reducible assumption) | omega | (simp <;> omega))) (by simp [go_sem, *])
        have nb5 := cellK (g := w.heap.size) (i := 5) (v := .bool false) hb1 (by (first | (with_reducible exact Nat.le_refl _) | (with_reducible assumption) | omega | (simp <;> omega))) (by simp [go_sem, *])
        have kb0 := nb0
        have kb1 := nb1
        have kb2 := nb2
        have kb3 := nb3
        have kb4 := nb4
        have kb5 := nb5
        clear nb0 nb1 nb2 nb3 nb4 nb5
        clear hb1
        go_wp2_with fail
        go_ret3
        exact ⟨rfl, hB1⟩
      · have hl : liveT ⟨f, t, c, n, s, false⟩ = true := by simp [liveT, overT, hn, hv]
        simp only [nextA, nextB, hl, if_true]
        have hn' : (n == c) = false := by simp [hn]
        clear hl hv hn
        go_enter Try.func43, Try.ntmps43
        go_wp2_with fail
        refine (rvalid_any _ _ _ _ _ _ _ h0).mono ?_
        rewrite [HV.out]
        rintro e w1 ⟨rfl, hb1⟩
        have hB1 := (show Below w.heap.size w _ by (repeat' (first | (with_reducible exact Below.refl _ _) | (with_reducible assumption) | (with_reducible refine Below.alloc ?_ ?_ _) | (with_reducible refine Below.drew ?_) | (with_reducible refine below_drewN ?_ _) | (with_reducible refine Below.setCell ?_ ?_ _) | (with_reducible exact Nat.le_refl _) | omega | (simp <;> omega)))).trans (hb1.mono (show w.heap.size ≤ _ by (first | (with_reducible exact Nat.le_refl _) | (with_reducible assumption) | omega | (simp <;> omega))))
        have nb0 := cellK (g := w.heap.size) (i := 0) (v := .int .i64 f) hb1 (by (first | (with_reducible exact Nat.le_refl _) | (with_reducible assumption) | omega | (simp <;> omega))) (by simp [go_sem, *])
        have nb1 := cellK (g := w.heap.size) (i := 1) (v := .int .i64 t) hb1 (by (first | (with_reducible exact Nat.le_refl _) | (with_reducible assumption) | omega | (simp <;> omega))) (by simp [go_sem, *])
        have nb2 := cellK (g := w.heap.size) (i := 2) (v := .int .i64 c) hb1 (by (first | (with_reducible exact Nat.le_refl _) | (with_reducible assumption) | omega | (simp <;> omega))) (by simp [go_sem, *])
        have nb3 := cellK (g := w.heap.size) (i := 3) (v := .int .i64 n) hb1 (by (first | (with_reducible exact Nat.le_refl _) | (with_reducible assumption) | omega | (simp <;> omega))) (by simp [go_sem, *])
        have nb4 := cellK (g := w.heap.size) (i := 4) (v := .bool s) hb1 (by (first | (with_reducible exact Nat.le_refl _) | (with_reducible assumption) | omega | (simp <;> omega))) (by simp [go_sem, *])
        have nb5 := cellK (g := w.heap.size) (i := 5) (v := .bool false) hb1 (by (first | (with_reducible exact Nat.le_refl _) | (with_reducible assumption) | omega | (simp <;> omega))) (by simp [go_sem, *])
        have kb0 := nb0
        have kb1 := nb1
        have kb2 := nb2
        have kb3 := nb3
        have kb4 := nb4
        have kb5 := nb5
        clear nb0 nb1 nb2 nb3 nb4 nb5
        clear hb1
        go_wp2_with fail
        go_quiet (fail)
        go_wp2_with fail
        go_ret3
        exact ⟨rfl, by (repeat' (first | (with_reducible exact Below.refl _ _) | (with_reducible assumption) | (with_reducible refine Below.alloc ?_ ?_ _) | (with_reducible refine Below.drew ?_) | (with_reducible refine below_drewN ?_ _) | (with_reducible refine Below.setCell ?_ ?_ _) | (with_reducible exact Nat.le_refl _) | omega | (simp <;> omega)))⟩
    · have hl : liveT ⟨f, t, c, n, s, true⟩ = false := by simp [liveT, overT]
      simp only [nextA, nextB, hl, Bool.false_eq_true, if_false]
      clear hl hv
      go_enter Try.func43, Try.ntmps43
      go_wp2_with fail
      refine (rvalid_any _ _ _ _ _ _ _ h0).mono ?_
      rewrite [HV.out]
      rintro e w1 ⟨rfl, hb1⟩
      have hB1 := (show Below w.heap.size w _ by (repeat' (first | (with_reducible exact Below.refl _ _) | (with_reducible assumption) | (with_reducible refine Below.alloc ?_ ?_ _) | (with_reducible refine Below.drew ?_) | (with_reducible refine below_drewN ?_ _) | (with_reducible refine Below.setCell ?_ ?_ _) | (with_reducible exact Nat.le_refl _) | omega | (simp <;> omega)))).trans (hb1.mono (show w.heap.size ≤ _ by (first | (with_reducible exact Nat.le_refl _) | (with_reducible assumption) | omega | (simp <;> omega))))
      have nb0 := cellK (g := w.heap.size) (i := 0) (v := .int .i64 f) hb1 (by (first | (with_reducible exact Nat.le_refl _) | (with_reducible assumption) | omega | (simp <;> omega))) (by simp [go_sem, *])
      have nb1 := cellK (g := w.heap.size) (i := 1) (v := .int .i64 t) hb1 (by (first | (with_reducible exact Nat.le_refl _) | (with_reducible assumption) | omega | (simp <;> omega))) (by simp [go_sem, *])
      have nb2 := cellK (g := w.heap.size) (i := 2) (v := .int .i64 c) hb1 (by (first | (with_reducible exact Nat.le_refl _) | (with_reducible assumption) | omega | (simp <;> omega))) (by simp [go_sem, *])
      have nb3 := cellK (g := w.heap.size) (i := 3) (v := .int .i64 n) hb1 (by (first | (with_reducible exact Nat.le_refl _) | (with_reducible assumption) | omega | (simp <;> omega))) (by simp [go_sem, *])
      have nb4 := cellK (g := w.heap.size) (i := 4) (v := .bool s) hb1 (by (first | (with_reducible exact Nat.le_refl _) | (with_reducible assumption) | omega | (simp <;> omega))) (by simp [go_sem, *])
      have nb5 := cellK (g := w.heap.size) (i := 5) (v := .bool true) hb1 (by (first | (with_reducible exact Nat.le_refl _) | (with_reducible assumption) | omega | (simp <;> omega))) (by simp [go_sem, *])
      have kb0 := nb0
      have kb1 := nb1
      have kb2 := nb2
      have kb3 := nb3
      have kb4 := nb4
      have kb5 := nb5
      clear nb0 nb1 nb2 nb3 nb4 nb5
      clear hb1
      go_wp2_with fail
      go_ret3
      exact ⟨rfl, hB1⟩
end Go.Proofs.Ytjlmgjpnfppkoaa
