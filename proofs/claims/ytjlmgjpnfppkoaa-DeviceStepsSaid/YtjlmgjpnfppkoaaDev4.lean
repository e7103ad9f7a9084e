/-
  Contracts of functions of the given program (layer 32), walked: a step of a transfer.
-/
import Derived.BigRegion
import Derived.Test.YtjlmgjpnfppkoaaDev3
namespace Go.Proofs.Ytjlmgjpnfppkoaa
open Go.RowKit
attribute [local go_sem ↓] Go.wp_at_zero Go.wp_at_succ

def stepT (T : TrD) (L : LineD) : TrD :=
  if liveT T = true ∧ L.addr = T.fr + T.dn then if L.poison = true ∧ T.strict = true then ⟨T.fr, T.tt, T.cnt, T.dn, T.strict, true⟩ else ⟨T.fr, T.tt, T.cnt, T.dn + 1, T.strict, T.failed⟩ else T
def stepL (T : TrD) (L : LineD) : LineD :=
  if liveT T = true ∧ L.addr = T.fr + T.dn ∧ ¬ (L.poison = true ∧ T.strict = true) then ⟨T.tt + T.dn, L.data, true, L.poison⟩ else LineD.zero
def stepE (T : TrD) (L : LineD) : Int :=
  if validT T = true then if liveT T = true then if L.addr = T.fr + T.dn then if L.poison = true ∧ T.strict = true then 48 else 0 else 17 else 40 else 1

def TrV (T : TrD) : Value := .agg #[.int .i64 T.fr, .int .i64 T.tt, .int .i64 T.cnt, .int .i64 T.dn, .bool T.strict, .bool T.failed]
theorem live_valid {T : TrD} (h : liveT T = true) : validT T = true := by simp [liveT] at h; exact h.1
theorem valid_of_not {T : TrD} (h : validT T = false) : liveT T = false := by simp [liveT, h]







set_option maxRecDepth 100000 in
set_option maxHeartbeats 8000000 in
theorem dstep_any (f t c n : Int) (s x : Bool) (v : Value) (L : LineD) (w : World) (h0 : -9223372036854775808 ≤ c) (hL : IsLine w v L) (hn : L.data.length ≤ 1048576) :
    Calls Try.prog 47 #[.agg #[.int .i64 f, .int .i64 t, .int .i64 c, .int .i64 n, .bool s, .bool x], v] w fun e w' => ∃ v', e = .returned (.tuple #[TrV (stepT ⟨f, t, c, n, s, x⟩ L), v', .int .i64 (stepE ⟨f, t, c, n, s, x⟩ L)]) ∧
      OwnLine 5 w' w.heap.size v' (stepL ⟨f, t, c, n, s, x⟩ L) ∧ Below w.heap.size w w' := by
  have HL := Lib.hid hL
  obtain ⟨A, cc, rfl, hL⟩ := hL
  obtain ⟨a, bs, d, p⟩ := L
  clear hL
  simp only at hn
  cases hv : validT ⟨f, t, c, n, s, x⟩
  · have hl := valid_of_not hv
    have e1 : stepT ⟨f, t, c, n, s, x⟩ ⟨a, bs, d, p⟩ = ⟨f, t, c, n, s, x⟩ := by simp [stepT, hl]
    have e2 : stepL ⟨f, t, c, n, s, x⟩ ⟨a, bs, d, p⟩ = LineD.zero := by simp [stepL, hl]
    have e3 : stepE ⟨f, t, c, n, s, x⟩ ⟨a, bs, d, p⟩ = 1 := by simp [stepE, hv]
    rewrite [e1, e2, e3]
    clear e1 e2 e3
    have HV := Lib.hid hv
    have HLV := Lib.hid hl
    clear hv hl
    go_enter Try.func47, Try.ntmps47
    go_wp2_with fail
    refine (dnext_any _ _ _ _ _ _ _ h0).mono ?_
    simp only [nextA, nextB, HLV.out, Bool.false_eq_true, if_false]
    rintro e w1 ⟨rfl, hb1⟩
    have hs1 := hb1.size
    simp only [World.size_alloc] at hs1
    have hB1 := (show Below w.heap.size w _ by (repeat' (first | (with_reducible exact Below.refl _ _) | (with_reducible assumption) | (with_reducible refine Below.alloc ?_ ?_ _) | (with_reducible refine Below.drew ?_) | (with_reducible refine below_drewN ?_ _) | (with_reducible refine Below.setCell ?_ ?_ _) | (with_reducible exact Nat.le_refl _) | omega | (simp <;> omega)))).trans (hb1.mono (show w.heap.size ≤ _ by (first | (with_reducible exact Nat.le_refl _) | (with_reducible assumption) | omega | (simp <;> omega))))
    have nbf0 := frozK (g := w.heap.size) (i := 0) hb1 (by (first | (with_reducible exact Nat.le_refl _) | (with_reducible assumption) | omega | (simp <;> omega))) (by simp [go_sem, *])
    have nbf1 := frozK (g := w.heap.size) (i := 1) hb1 (by (first | (with_reducible exact Nat.le_refl _) | (with_reducible assumption) | omega | (simp <;> omega))) (by simp [go_sem, *])
    have nbf2 := frozK (g := w.heap.size) (i := 2) hb1 (by (first | (with_reducible exact Nat.le_refl _) | (with_reducible assumption) | omega | (simp <;> omega))) (by simp [go_sem, *])
    have nbf3 := frozK (g := w.heap.size) (i := 3) hb1 (by (first | (with_reducible exact Nat.le_refl _) | (with_reducible assumption) | omega | (simp <;> omega))) (by simp [go_sem, *])
    have nbf4 := frozK (g := w.heap.size) (i := 4) hb1 (by (first | (with_reducible exact Nat.le_refl _) | (with_reducible assumption) | omega | (simp <;> omega))) (by simp [go_sem, *])
    have nbf5 := frozK (g := w.heap.size) (i := 5) hb1 (by (first | (with_reducible exact Nat.le_refl _) | (with_reducible assumption) | omega | (simp <;> omega))) (by simp [go_sem, *])
    have nb0 := cellK (g := w.heap.size) (i := 0) (v := .int .i64 f) hb1 (by (first | (with_reducible exact Nat.le_refl _) | (with_reducible assumption) | omega | (simp <;> omega))) (by simp [go_sem, *])
    have nb1 := cellK (g := w.heap.size) (i := 1) (v := .int .i64 t) hb1 (by (first | (with_reducible exact Nat.le_refl _) | (with_reducible assumption) | omega | (simp <;> omega))) (by simp [go_sem, *])
    have nb2 := cellK (g := w.heap.size) (i := 2) (v := .int .i64 c) hb1 (by (first | (with_reducible exact Nat.le_refl _) | (with_reducible assumption) | omega | (simp <;> omega))) (by simp [go_sem, *])
    have nb3 := cellK (g := w.heap.size) (i := 3) (v := .int .i64 n) hb1 (by (first | (with_reducible exact Nat.le_refl _) | (with_reducible assumption) | omega | (simp <;> omega))) (by simp [go_sem, *])
    have nb4 := cellK (g := w.heap.size) (i := 4) (v := .bool s) hb1 (by (first | (with_reducible exact Nat.le_refl _) | (with_reducible assumption) | omega | (simp <;> omega))) (by simp [go_sem, *])
    have nb5 := cellK (g := w.heap.size) (i := 5) (v := .bool x) hb1 (by (first | (with_reducible exact Nat.le_refl _) | (with_reducible assumption) | omega | (simp <;> omega))) (by simp [go_sem, *])
    have ni0 := cellK (g := w.heap.size + 1) (i := 0) (v := .int .i64 a) hb1 (by (first | (with_reducible exact Nat.le_refl _) | (with_reducible assumption) | omega | (simp <;> omega))) (by simp [go_sem, *])
    have ni1 := cellK (g := w.heap.size + 1) (i := 1) (v := .slice A bs.length cc) hb1 (by (first | (with_reducible exact Nat.le_refl _) | (with_reducible assumption) | omega | (simp <;> omega))) (by simp [go_sem, *])
    have ni2 := cellK (g := w.heap.size + 1) (i := 2) (v := .bool d) hb1 (by (first | (with_reducible exact Nat.le_refl _) | (with_reducible assumption) | omega | (simp <;> omega))) (by simp [go_sem, *])
    have ni3 := cellK (g := w.heap.size + 1) (i := 3) (v := .bool p) hb1 (by (first | (with_reducible exact Nat.le_refl _) | (with_reducible assumption) | omega | (simp <;> omega))) (by simp [go_sem, *])
    have nrf0 := frozK (g := w.heap.size + 1 + 1) (i := 0) hb1 (by (first | (with_reducible exact Nat.le_refl _) | (with_reducible assumption) | omega | (simp <;> omega))) (by simp [go_sem, *])
    have nrf1 := frozK (g := w.heap.size + 1 + 1) (i := 1) hb1 (by (first | (with_reducible exact Nat.le_refl _) | (with_reducible assumption) | omega | (simp <;> omega))) (by simp [go_sem, *])
    have nrf2 := frozK (g := w.heap.size + 1 + 1) (i := 2) hb1 (by (first | (with_reducible exact Nat.le_refl _) | (with_reducible assumption) | omega | (simp <;> omega))) (by simp [go_sem, *])
    have nrf3 := frozK (g := w.heap.size + 1 + 1) (i := 3) hb1 (by (first | (with_reducible exact Nat.le_refl _) | (with_reducible assumption) | omega | (simp <;> omega))) (by simp [go_sem, *])
    have nrf4 := frozK (g := w.heap.size + 1 + 1) (i := 4) hb1 (by (first | (with_reducible exact Nat.le_refl _) | (with_reducible assumption) | omega | (simp <;> omega))) (by simp [go_sem, *])
    have nrf5 := frozK (g := w.heap.size + 1 + 1) (i := 5) hb1 (by (first | (with_reducible exact Nat.le_refl _) | (with_reducible assumption) | omega | (simp <;> omega))) (by simp [go_sem, *])
    have nr0 := cellK (g := w.heap.size + 1 + 1) (i := 0) (v := .int .i64 0) hb1 (by (first | (with_reducible exact Nat.le_refl _) | (with_reducible assumption) | omega | (simp <;> omega))) (by simp [go_sem, *])
    have nr1 := cellK (g := w.heap.size + 1 + 1) (i := 1) (v := .int .i64 0) hb1 (by (first | (with_reducible exact Nat.le_refl _) | (with_reducible assumption) | omega | (simp <;> omega))) (by simp [go_sem, *])
    have nr2 := cellK (g := w.heap.size + 1 + 1) (i := 2) (v := .int .i64 0) hb1 (by (first | (with_reducible exact Nat.le_refl _) | (with_reducible assumption) | omega | (simp <;> omega))) (by simp [go_sem, *])
    have nr3 := cellK (g := w.heap.size + 1 + 1) (i := 3) (v := .int .i64 0) hb1 (by (first | (with_reducible exact Nat.le_refl _) | (with_reducible assumption) | omega | (simp <;> omega))) (by simp [go_sem, *])
    have nr4 := cellK (g := w.heap.size + 1 + 1) (i := 4) (v := .bool false) hb1 (by (first | (with_reducible exact Nat.le_refl _) | (with_reducible assumption) | omega | (simp <;> omega))) (by simp [go_sem, *])
    have nr5 := cellK (g := w.heap.size + 1 + 1) (i := 5) (v := .bool false) hb1 (by (first | (with_reducible exact Nat.le_refl _) | (with_reducible assumption) | omega | (simp <;> omega))) (by simp [go_sem, *])
    have nof0 := frozK (g := w.heap.size + 1 + 1 + 1) (i := 0) hb1 (by (first | (with_reducible exact Nat.le_refl _) | (with_reducible assumption) | omega | (simp <;> omega))) (by simp [go_sem, *])
    have nof1 := frozK (g := w.heap.size + 1 + 1 + 1) (i := 1) hb1 (by (first | (with_reducible exact Nat.le_refl _) | (with_reducible assumption) | omega | (simp <;> omega))) (by simp [go_sem, *])
    have nof2 := frozK (g := w.heap.size + 1 + 1 + 1) (i := 2) hb1 (by (first | (with_reducible exact Nat.le_refl _) | (with_reducible assumption) | omega | (simp <;> omega))) (by simp [go_sem, *])
    have nof3 := frozK (g := w.heap.size + 1 + 1 + 1) (i := 3) hb1 (by (first | (with_reducible exact Nat.le_refl _) | (with_reducible assumption) | omega | (simp <;> omega))) (by simp [go_sem, *])
    have no0 := cellK (g := w.heap.size + 1 + 1 + 1) (i := 0) (v := .int .i64 0) hb1 (by (first | (with_reducible exact Nat.le_refl _) | (with_reducible assumption) | omega | (simp <;> omega))) (by simp [go_sem, *])
    have no1 := cellK (g := w.heap.size + 1 + 1 + 1) (i := 1) (v := .slice none 0 0) hb1 (by (first | (with_reducible exact Nat.le_refl _) | (with_reducible assumption) | omega | (simp <;> omega))) (by simp [go_sem, *])
    have no2 := cellK (g := w.heap.size + 1 + 1 + 1) (i := 2) (v := .bool false) hb1 (by (first | (with_reducible exact Nat.le_refl _) | (with_reducible assumption) | omega | (simp <;> omega))) (by simp [go_sem, *])
    have no3 := cellK (g := w.heap.size + 1 + 1 + 1) (i := 3) (v := .bool false) hb1 (by (first | (with_reducible exact Nat.le_refl _) | (with_reducible assumption) | omega | (simp <;> omega))) (by simp [go_sem, *])
    have kb0 := nb0
    have kb1 := nb1
    have kb2 := nb2
    have kb3 := nb3
    have kb4 := nb4
    have kb5 := nb5
    have ki0 := ni0
    have ki1 := ni1
    have ki2 := ni2
    have ki3 := ni3
    have kr0 := nr0
    have kr1 := nr1
    have kr2 := nr2
    have kr3 := nr3
    have kr4 := nr4
    have kr5 := nr5
    have ko0 := no0
    have ko1 := no1
    have ko2 := no2
    have ko3 := no3
    have kbf0 := nbf0
    have kbf1 := nbf1
    have kbf2 := nbf2
    have kbf3 := nbf3
    have kbf4 := nbf4
    have kbf5 := nbf5
    have krf0 := nrf0
    have krf1 := nrf1
    have krf2 := nrf2
    have krf3 := nrf3
    have krf4 := nrf4
    have krf5 := nrf5
    have kof0 := nof0
    have kof1 := nof1
    have kof2 := nof2
    have kof3 := nof3
    clear nb0 nb1 nb2 nb3 nb4 nb5 ni0 ni1 ni2 ni3 nr0 nr1 nr2 nr3 nr4 nr5 no0 no1 no2 no3 nbf0 nbf1 nbf2 nbf3 nbf4 nbf5 nrf0 nrf1 nrf2 nrf3 nrf4 nrf5 nof0 nof1 nof2 nof3
    clear hb1
    go_wp2_with fail
    refine (dvalid_any _ _ _ _ _ _ _ h0).mono ?_
    rewrite [HV.out]
    rintro e w2 ⟨rfl, hb2⟩
    have hs2 := hb2.size
    have hB2 := hB1.trans (hb2.mono hB1.size)
    have nbf0 := frozK (g := w.heap.size) (i := 0) hb2 (by (first | (with_reducible exact Nat.le_refl _) | (with_reducible assumption) | omega | (simp <;> omega))) (by simp [go_sem, *])
    have nbf1 := frozK (g := w.heap.size) (i := 1) hb2 (by (first | (with_reducible exact Nat.le_refl _) | (with_reducible assumption) | omega | (simp <;> omega))) (by simp [go_sem, *])
    have nbf2 := frozK (g := w.heap.size) (i := 2) hb2 (by (first | (with_reducible exact Nat.le_refl _) | (with_reducible assumption) | omega | (simp <;> omega))) (by simp [go_sem, *])
    have nbf3 := frozK (g := w.heap.size) (i := 3) hb2 (by (first | (with_reducible exact Nat.le_refl _) | (with_reducible assumption) | omega | (simp <;> omega))) (by simp [go_sem, *])
    have nbf4 := frozK (g := w.heap.size) (i := 4) hb2 (by (first | (with_reducible exact Nat.le_refl _) | (with_reducible assumption) | omega | (simp <;> omega))) (by simp [go_sem, *])
    have nbf5 := frozK (g := w.heap.size) (i := 5) hb2 (by (first | (with_reducible exact Nat.le_refl _) | (with_reducible assumption) | omega | (simp <;> omega))) (by simp [go_sem, *])
    have nb0 := cellK (g := w.heap.size) (i := 0) (v := .int .i64 f) hb2 (by (first | (with_reducible exact Nat.le_refl _) | (with_reducible assumption) | omega | (simp <;> omega))) (by simp [go_sem, *])
    have nb1 := cellK (g := w.heap.size) (i := 1) (v := .int .i64 t) hb2 (by (first | (with_reducible exact Nat.le_refl _) | (with_reducible assumption) | omega | (simp <;> omega))) (by simp [go_sem, *])
    have nb2 := cellK (g := w.heap.size) (i := 2) (v := .int .i64 c) hb2 (by (first | (with_reducible exact Nat.le_refl _) | (with_reducible assumption) | omega | (simp <;> omega))) (by simp [go_sem, *])
    have nb3 := cellK (g := w.heap.size) (i := 3) (v := .int .i64 n) hb2 (by (first | (with_reducible exact Nat.le_refl _) | (with_reducible assumption) | omega | (simp <;> omega))) (by simp [go_sem, *])
    have nb4 := cellK (g := w.heap.size) (i := 4) (v := .bool s) hb2 (by (first | (with_reducible exact Nat.le_refl _) | (with_reducible assumption) | omega | (simp <;> omega))) (by simp [go_sem, *])
    have nb5 := cellK (g := w.heap.size) (i := 5) (v := .bool x) hb2 (by (first | (with_reducible exact Nat.le_refl _) | (with_reducible assumption) | omega | (simp <;> omega))) (by simp [go_sem, *])
    have ni0 := cellK (g := w.heap.size + 1) (i := 0) (v := .int .i64 a) hb2 (by (first | (with_reducible exact Nat.le_refl _) | (with_reducible assumption) | omega | (simp <;> omega))) (by simp [go_sem, *])
    have ni1 := cellK (g := w.heap.size + 1) (i := 1) (v := .slice A bs.length cc) hb2 (by (first | (with_reducible exact Nat.le_refl _) | (with_reducible assumption) | omega | (simp <;> omega))) (by simp [go_sem, *])
    have ni2 := cellK (g := w.heap.size + 1) (i := 2) (v := .bool d) hb2 (by (first | (with_reducible exact Nat.le_refl _) | (with_reducible assumption) | omega | (simp <;> omega))) (by simp [go_sem, *])
    have ni3 := cellK (g := w.heap.size + 1) (i := 3) (v := .bool p) hb2 (by (first | (with_reducible exact Nat.le_refl _) | (with_reducible assumption) | omega | (simp <;> omega))) (by simp [go_sem, *])
    have nrf0 := frozK (g := w.heap.size + 1 + 1) (i := 0) hb2 (by (first | (with_reducible exact Nat.le_refl _) | (with_reducible assumption) | omega | (simp <;> omega))) (by simp [go_sem, *])
    have nrf1 := frozK (g := w.heap.size + 1 + 1) (i := 1) hb2 (by (first | (with_reducible exact Nat.le_refl _) | (with_reducible assumption) | omega | (simp <;> omega))) (by simp [go_sem, *])
    have nrf2 := frozK (g := w.heap.size + 1 + 1) (i := 2) hb2 (by (first | (with_reducible exact Nat.le_refl _) | (with_reducible assumption) | omega | (simp <;> omega))) (by simp [go_sem, *])
    have nrf3 := frozK (g := w.heap.size + 1 + 1) (i := 3) hb2 (by (first | (with_reducible exact Nat.le_refl _) | (with_reducible assumption) | omega | (simp <;> omega))) (by simp [go_sem, *])
    have nrf4 := frozK (g := w.heap.size + 1 + 1) (i := 4) hb2 (by (first | (with_reducible exact Nat.le_refl _) | (with_reducible assumption) | omega | (simp <;> omega))) (by simp [go_sem, *])
    have nrf5 := frozK (g := w.heap.size + 1 + 1) (i := 5) hb2 (by (first | (with_reducible exact Nat.le_refl _) | (with_reducible assumption) | omega | (simp <;> omega))) (by simp [go_sem, *])
    have nr0 := cellK (g := w.heap.size + 1 + 1) (i := 0) (v := .int .i64 0) hb2 (by (first | (with_reducible exact Nat.le_refl _) | (with_reducible assumption) | omega | (simp <;> omega))) (by simp [go_sem, *])
    have nr1 := cellK (g := w.heap.size + 1 + 1) (i := 1) (v := .int .i64 0) hb2 (by (first | (with_reducible exact Nat.le_refl _) | (with_reducible assumption) | omega | (simp <;> omega))) (by simp [go_sem, *])
    have nr2 := cellK (g := w.heap.size + 1 + 1) (i := 2) (v := .int .i64 0) hb2 (by (first | (with_reducible exact Nat.le_refl _) | (with_reducible assumption) | omega | (simp <;> omega))) (by simp [go_sem, *])
    have nr3 := cellK (g := w.heap.size + 1 + 1) (i := 3) (v := .int .i64 0) hb2 (by (first | (with_reducible exact Nat.le_refl _) | (with_reducible assumption) | omega | (simp <;> omega))) (by simp [go_sem, *])
    have nr4 := cellK (g := w.heap.size + 1 + 1) (i := 4) (v := .bool false) hb2 (by (first | (with_reducible exact Nat.le_refl _) | (with_reducible assumption) | omega | (simp <;> omega))) (by simp [go_sem, *])
    have nr5 := cellK (g := w.heap.size + 1 + 1) (i := 5) (v := .bool false) hb2 (by (first | (with_reducible exact Nat.le_refl _) | (with_reducible assumption) | omega | (simp <;> omega))) (by simp [go_sem, *])
    have nof0 := frozK (g := w.heap.size + 1 + 1 + 1) (i := 0) hb2 (by (first | (with_reducible exact Nat.le_refl _) | (with_reducible assumption) | omega | (simp <;> omega))) (by simp [go_sem, *])
    have nof1 := frozK (g := w.heap.size + 1 + 1 + 1) (i := 1) hb2 (by (first | (with_reducible exact Nat.le_refl _) | (with_reducible assumption) | omega | (simp <;> omega))) (by simp [go_sem, *])
    have nof2 := frozK (g := w.heap.size + 1 + 1 + 1) (i := 2) hb2 (by (first | (with_reducible exact Nat.le_refl _) | (with_reducible assumption) | omega | (simp <;> omega))) (by simp [go_sem, *])
    have nof3 := frozK (g := w.heap.size + 1 + 1 + 1) (i := 3) hb2 (by (first | (with_reducible exact Nat.le_refl _) | (with_reducible assumption) | omega | (simp <;> omega))) (by simp [go_sem, *])
    have no0 := cellK (g := w.heap.size + 1 + 1 + 1) (i := 0) (v := .int .i64 0) hb2 (by (first | (with_reducible exact Nat.le_refl _) | (with_reducible assumption) | omega | (simp <;> omega))) (by simp [go_sem, *])
    have no1 := cellK (g := w.heap.size + 1 + 1 + 1) (i := 1) (v := .slice none 0 0) hb2 (by (first | (with_reducible exact Nat.le_refl _) | (with_reducible assumption) | omega | (simp <;> omega))) (by simp [go_sem, *])
    have no2 := cellK (g := w.heap.size + 1 + 1 + 1) (i := 2) (v := .bool false) hb2 (by (first | (with_reducible exact Nat.le_refl _) | (with_reducible assumption) | omega | (simp <;> omega))) (by simp [go_sem, *])
    have no3 := cellK (g := w.heap.size + 1 + 1 + 1) (i := 3) (v := .bool false) hb2 (by (first | (with_reducible exact Nat.le_refl _) | (with_reducible assumption) | omega | (simp <;> omega))) (by simp [go_sem, *])
    clear kb0 kb1 kb2 kb3 kb4 kb5 ki0 ki1 ki2 ki3 kr0 kr1 kr2 kr3 kr4 kr5 ko0 ko1 ko2 ko3 kbf0 kbf1 kbf2 kbf3 kbf4 kbf5 krf0 krf1 krf2 krf3 krf4 krf5 kof0 kof1 kof2 kof3
    have kb0 := nb0
    have kb1 := nb1
    have kb2 := nb2
    have kb3 := nb3
    have kb4 := nb4
    have kb5 := nb5
    have ki0 := ni0
    have ki1 := ni1
    have ki2 := ni2
    have ki3 := ni3
    have kr0 := nr0
    have kr1 := nr1
    have kr2 := nr2
    have kr3 := nr3
    have kr4 := nr4
    have kr5 := nr5
    have ko0 := no0
    have ko1 := no1
    have ko2 := no2
    have ko3 := no3
    have kbf0 := nbf0
    have kbf1 := nbf1
    have kbf2 := nbf2
    have kbf3 := nbf3
    have kbf4 := nbf4
    have kbf5 := nbf5
    have krf0 := nrf0
    have krf1 := nrf1
    have krf2 := nrf2
    have krf3 := nrf3
    have krf4 := nrf4
    have krf5 := nrf5
    have kof0 := nof0
    have kof1 := nof1
    have kof2 := nof2
    have kof3 := nof3
    clear nb0 nb1 nb2 nb3 nb4 nb5 ni0 ni1 ni2 ni3 nr0 nr1 nr2 nr3 nr4 nr5 no0 no1 no2 no3 nbf0 nbf1 nbf2 nbf3 nbf4 nbf5 nrf0 nrf1 nrf2 nrf3 nrf4 nrf5 nof0 nof1 nof2 nof3
    have l0 : w.heap.size < w2.heap.size := by omega
    have l1 : w.heap.size + 1 < w2.heap.size := by omega
    have l2 : w.heap.size + 1 + 1 < w2.heap.size := by omega
    have l3 : w.heap.size + 1 + 1 + 1 < w2.heap.size := by omega
    clear hb2 hB1 hs1
    go_wp2_with fail
    refine bodyPost_ret (v := .tuple #[.agg #[.int .i64 f, .int .i64 t, .int .i64 c, .int .i64 n, .bool s, .bool x], .agg #[.int .i64 0, .slice none 0 0, .bool false, .bool false], .int .i64 1]) (by simp [results, Try.results47, go_sem, *]) rfl ?_
    exact ⟨_, rfl, OwnLine.zero_ _ _ _, by (repeat' (first | (with_reducible exact Below.refl _ _) | (with_reducible assumption) | (with_reducible refine Below.alloc ?_ ?_ _) | (with_reducible refine Below.drew ?_) | (with_reducible refine below_drewN ?_ _) | (with_reducible refine Below.setCell ?_ ?_ _) | (with_reducible exact Nat.le_refl _) | omega | (simp <;> omega)))⟩
  · obtain ⟨⟨q1, q2, q3, q4, q5, q6⟩, q7, q8⟩ := valid_bd hv
    cases hl : liveT ⟨f, t, c, n, s, x⟩
    · have htok : True := trivial
      have e1 : stepT ⟨f, t, c, n, s, x⟩ ⟨a, bs, d, p⟩ = ⟨f, t, c, n, s, x⟩ := by simp [stepT, hl]
      have e2 : stepL ⟨f, t, c, n, s, x⟩ ⟨a, bs, d, p⟩ = LineD.zero := by simp [stepL, hl]
      have e3 : stepE ⟨f, t, c, n, s, x⟩ ⟨a, bs, d, p⟩ = 40 := by simp [stepE, hl, hv]
      rewrite [e1, e2, e3]
      clear e1 e2 e3
      have HV := Lib.hid hv
      have HLV := Lib.hid hl
      clear hv hl
      go_enter Try.func47, Try.ntmps47
      go_wp2_with fail
      refine (dnext_any _ _ _ _ _ _ _ h0).mono ?_
      simp only [nextA, nextB, HLV.out, Bool.false_eq_true, if_false]
      rintro e w1 ⟨rfl, hb1⟩
      have hs1 := hb1.size
      simp only [World.size_alloc] at hs1
      have hB1 := (show Below w.heap.size w _ by (repeat' (first | (with_reducible exact Below.refl _ _) | (with_reducible assumption) | (with_reducible refine Below.alloc ?_ ?_ _) | (with_reducible refine Below.drew ?_) | (with_reducible refine below_drewN ?_ _) | (with_reducible refine Below.setCell ?_ ?_ _) | (with_reducible exact Nat.le_refl _) | omega | (simp <;> omega)))).trans (hb1.mono (show w.heap.size ≤ _ by (first | (with_reducible exact Nat.le_refl _) | (with_reducible assumption) | omega | (simp <;> omega))))
      have nbf0 := frozK (g := w.heap.size) (i := 0) hb1 (by (first | (with_reducible exact Nat.le_refl _) | (with_reducible assumption) | omega | (simp <;> omega))) (by simp [go_sem, *])
      have nbf1 := frozK (g := w.heap.size) (i := 1) hb1 (by (first | (with_reducible exact Nat.le_refl _) | (with_reducible assumption) | omega | (simp <;> omega))) (by simp [go_sem, *])
      have nbf2 := frozK (g := w.heap.size) (i := 2) hb1 (by (first | (with_reducible exact Nat.le_refl _) | (with_reducible assumption) | omega | (simp <;> omega))) (by simp [go_sem, *])
      have nbf3 := frozK (g := w.heap.size) (i := 3) hb1 (by (first | (with_reducible exact Nat.le_refl _) | (with_reducible assumption) | omega | (simp <;> omega))) (by simp [go_sem, *])
      have nbf4 := frozK (g := w.heap.size) (i := 4) hb1 (by (first | (with_reducible exact Nat.le_refl _) | (with_reducible assumption) | omega | (simp <;> omega))) (by simp [go_sem, *])
      have nbf5 := frozK (g := w.heap.size) (i := 5) hb1 (by (first | (with_reducible exact Nat.le_refl _) | (with_reducible assumption) | omega | (simp <;> omega))) (by simp [go_sem, *])
      have nb0 := cellK (g := w.heap.size) (i := 0) (v := .int .i64 f) hb1 (by (first | (with_reducible exact Nat.le_refl _) | (with_reducible assumption) | omega | (simp <;> omega))) (by simp [go_sem, *])
      have nb1 := cellK (g := w.heap.size) (i := 1) (v := .int .i64 t) hb1 (by (first | (with_reducible exact Nat.le_refl _) | (with_reducible assumption) | omega | (simp <;> omega))) (by simp [go_sem, *])
      have nb2 := cellK (g := w.heap.size) (i := 2) (v := .int .i64 c) hb1 (by (first | (with_reducible exact Nat.le_refl _) | (with_reducible assumption) | omega | (simp <;> omega))) (by simp [go_sem, *])
      have nb3 := cellK (g := w.heap.size) (i := 3) (v := .int .i64 n) hb1 (by (first | (with_reducible exact Nat.le_refl _) | (with_reducible assumption) | omega | (simp <;> omega))) (by simp [go_sem, *])
      have nb4 := cellK (g := w.heap.size) (i := 4) (v := .bool s) hb1 (by (first | (with_reducible exact Nat.le_refl _) | (with_reducible assumption) | omega | (simp <;> omega))) (by simp [go_sem, *])
      have nb5 := cellK (g := w.heap.size) (i := 5) (v := .bool x) hb1 (by (first | (with_reducible exact Nat.le_refl _) | (with_reducible assumption) | omega | (simp <;> omega))) (by simp [go_sem, *])
      have ni0 := cellK (g := w.heap.size + 1) (i := 0) (v := .int .i64 a) hb1 (by (first | (with_reducible exact Nat.le_refl _) | (with_reducible assumption) | omega | (simp <;> omega))) (by simp [go_sem, *])
      have ni1 := cellK (g := w.heap.size + 1) (i := 1) (v := .slice A bs.length cc) hb1 (by (first | (with_reducible exact Nat.le_refl _) | (with_reducible assumption) | omega | (simp <;> omega))) (by simp [go_sem, *])
      have ni2 := cellK (g := w.heap.size + 1) (i := 2) (v := .bool d) hb1 (by (first | (with_reducible exact Nat.le_refl _) | (with_reducible assumption) | omega | (simp <;> omega))) (by simp [go_sem, *])
      have ni3 := cellK (g := w.heap.size + 1) (i := 3) (v := .bool p) hb1 (by (first | (with_reducible exact Nat.le_refl _) | (with_reducible assumption) | omega | (simp <;> omega))) (by simp [go_sem, *])
      have nrf0 := frozK (g := w.heap.size + 1 + 1) (i := 0) hb1 (by (first | (with_reducible exact Nat.le_refl _) | (with_reducible assumption) | omega | (simp <;> omega))) (by simp [go_sem, *])
      have nrf1 := frozK (g := w.heap.size + 1 + 1) (i := 1) hb1 (by (first | (with_reducible exact Nat.le_refl _) | (with_reducible assumption) | omega | (simp <;> omega))) (by simp [go_sem, *])
      have nrf2 := frozK (g := w.heap.size + 1 + 1) (i := 2) hb1 (by (first | (with_reducible exact Nat.le_refl _) | (with_reducible assumption) | omega | (simp <;> omega))) (by simp [go_sem, *])
      have nrf3 := frozK (g := w.heap.size + 1 + 1) (i := 3) hb1 (by (first | (with_reducible exact Nat.le_refl _) | (with_reducible assumption) | omega | (simp <;> omega))) (by simp [go_sem, *])
      have nrf4 := frozK (g := w.heap.size + 1 + 1) (i := 4) hb1 (by (first | (with_reducible exact Nat.le_refl _) | (with_reducible assumption) | omega | (simp <;> omega))) (by simp [go_sem, *])
      have nrf5 := frozK (g := w.heap.size + 1 + 1) (i := 5) hb1 (by (first | (with_reducible exact Nat.le_refl _) | (with_reducible assumption) | omega | (simp <;> omega))) (by simp [go_sem, *])
      have nr0 := cellK (g := w.heap.size + 1 + 1) (i := 0) (v := .int .i64 0) hb1 (by (first | (with_reducible exact Nat.le_refl _) | (with_reducible assumption) | omega | (simp <;> omega))) (by simp [go_sem, *])
      have nr1 := cellK (g := w.heap.size + 1 + 1) (i := 1) (v := .int .i64 0) hb1 (by (first | (with_reducible exact Nat.le_refl _) | (with_reducible assumption) | omega | (simp <;> omega))) (by simp [go_sem, *])
      have nr2 := cellK (g := w.heap.size + 1 + 1) (i := 2) (v := .int .i64 0) hb1 (by (first | (with_reducible exact Nat.le_refl _) | (with_reducible assumption) | omega | (simp <;> omega))) (by simp [go_sem, *])
      have nr3 := cellK (g := w.heap.size + 1 + 1) (i := 3) (v := .int .i64 0) hb1 (by (first | (with_reducible exact Nat.le_refl _) | (with_reducible assumption) | omega | (simp <;> omega))) (by simp [go_sem, *])
      have nr4 := cellK (g := w.heap.size + 1 + 1) (i := 4) (v := .bool false) hb1 (by (first | (with_reducible exact Nat.le_refl _) | (with_reducible assumption) | omega | (simp <;> omega))) (by simp [go_sem, *])
      have nr5 := cellK (g := w.heap.size + 1 + 1) (i := 5) (v := .bool false) hb1 (by (first | (with_reducible exact Nat.le_refl _) | (with_reducible assumption) | omega | (simp <;> omega))) (by simp [go_sem, *])
      have nof0 := frozK (g := w.heap.size + 1 + 1 + 1) (i := 0) hb1 (by (first | (with_reducible exact Nat.le_refl _) | (with_reducible assumption) | omega | (simp <;> omega))) (by simp [go_sem, *])
      have nof1 := frozK (g := w.heap.size + 1 + 1 + 1) (i := 1) hb1 (by (first | (with_reducible exact Nat.le_refl _) | (with_reducible assumption) | omega | (simp <;> omega))) (by simp [go_sem, *])
      have nof2 := frozK (g := w.heap.size + 1 + 1 + 1) (i := 2) hb1 (by (first | (with_reducible exact Nat.le_refl _) | (with_reducible assumption) | omega | (simp <;> omega))) (by simp [go_sem, *])
      have nof3 := frozK (g := w.heap.size + 1 + 1 + 1) (i := 3) hb1 (by (first | (with_reducible exact Nat.le_refl _) | (with_reducible assumption) | omega | (simp <;> omega))) (by simp [go_sem, *])
      have no0 := cellK (g := w.heap.size + 1 + 1 + 1) (i := 0) (v := .int .i64 0) hb1 (by (first | (with_reducible exact Nat.le_refl _) | (with_reducible assumption) | omega | (simp <;> omega))) (by simp [go_sem, *])
      have no1 := cellK (g := w.heap.size + 1 + 1 + 1) (i := 1) (v := .slice none 0 0) hb1 (by (first | (with_reducible exact Nat.le_refl _) | (with_reducible assumption) | omega | (simp <;> omega))) (by simp [go_sem, *])
      have no2 := cellK (g := w.heap.size + 1 + 1 + 1) (i := 2) (v := .bool false) hb1 (by (first | (with_reducible exact Nat.le_refl _) | (with_reducible assumption) | omega | (simp <;> omega))) (by simp [go_sem, *])
      have no3 := cellK (g := w.heap.size + 1 + 1 + 1) (i := 3) (v := .bool false) hb1 (by (first | (with_reducible exact Nat.le_refl _) | (with_reducible assumption) | omega | (simp <;> omega))) (by simp [go_sem, *])
      have kb0 := nb0
      have kb1 := nb1
      have kb2 := nb2
      have kb3 := nb3
      have kb4 := nb4
      have kb5 := nb5
      have ki0 := ni0
      have ki1 := ni1
      have ki2 := ni2
      have ki3 := ni3
      have kr0 := nr0
      have kr1 := nr1
      have kr2 := nr2
      have kr3 := nr3
      have kr4 := nr4
      have kr5 := nr5
      have ko0 := no0
      have ko1 := no1
      have ko2 := no2
      have ko3 := no3
      have kbf0 := nbf0
      have kbf1 := nbf1
      have kbf2 := nbf2
      have kbf3 := nbf3
      have kbf4 := nbf4
      have kbf5 := nbf5
      have krf0 := nrf0
      have krf1 := nrf1
      have krf2 := nrf2
      have krf3 := nrf3
      have krf4 := nrf4
      have krf5 := nrf5
      have kof0 := nof0
      have kof1 := nof1
      have kof2 := nof2
      have kof3 := nof3
      clear nb0 nb1 nb2 nb3 nb4 nb5 ni0 ni1 ni2 ni3 nr0 nr1 nr2 nr3 nr4 nr5 no0 no1 no2 no3 nbf0 nbf1 nbf2 nbf3 nbf4 nbf5 nrf0 nrf1 nrf2 nrf3 nrf4 nrf5 nof0 nof1 nof2 nof3
      clear hb1
      go_wp2_with fail
      refine (dvalid_any _ _ _ _ _ _ _ h0).mono ?_
      rewrite [HV.out]
      rintro e w2 ⟨rfl, hb2⟩
      have hs2 := hb2.size
      have hB2 := hB1.trans (hb2.mono hB1.size)
      have nbf0 := frozK (g := w.heap.size) (i := 0) hb2 (by (first | (with_reducible exact Nat.le_refl _) | (with_reducible assumption) | omega | (simp <;> omega))) (by simp [go_sem, *])
      have nbf1 := frozK (g := w.heap.size) (i := 1) hb2 (by (first | (with_reducible exact Nat.le_refl _) | (with_reducible assumption) | omega | (simp <;> omega))) (by simp [go_sem, *])
      have nbf2 := frozK (g := w.heap.size) (i := 2) hb2 (by (first | (with_reducible exact Nat.le_refl _) | (with_reducible assumption) | omega | (simp <;> omega))) (by simp [go_sem, *])
      have nbf3 := frozK (g := w.heap.size) (i := 3) hb2 (by (first | (with_reducible exact Nat.le_refl _) | (with_reducible assumption) | omega | (simp <;> omega))) (by simp [go_sem, *])
      have nbf4 := frozK (g := w.heap.size) (i := 4) hb2 (by (first | (with_reducible exact Nat.le_refl _) | (with_reducible assumption) | omega | (simp <;> omega))) (by simp [go_sem, *])
      have nbf5 := frozK (g := w.heap.size) (i := 5) hb2 (by (first | (with_reducible exact Nat.le_refl _) | (with_reducible assumption) | omega | (simp <;> omega))) (by simp [go_sem, *])
      have nb0 := cellK (g := w.heap.size) (i := 0) (v := .int .i64 f) hb2 (by (first | (with_reducible exact Nat.le_refl _) | (with_reducible assumption) | omega | (simp <;> omega))) (by simp [go_sem, *])
      have nb1 := cellK (g := w.heap.size) (i := 1) (v := .int .i64 t) hb2 (by (first | (with_reducible exact Nat.le_refl _) | (with_reducible assumption) | omega | (simp <;> omega))) (by simp [go_sem, *])
      have nb2 := cellK (g := w.heap.size) (i := 2) (v := .int .i64 c) hb2 (by (first | (with_reducible exact Nat.le_refl _) | (with_reducible assumption) | omega | (simp <;> omega))) (by simp [go_sem, *])
      have nb3 := cellK (g := w.heap.size) (i := 3) (v := .int .i64 n) hb2 (by (first | (with_reducible exact Nat.le_refl _) | (with_reducible assumption) | omega | (simp <;> omega))) (by simp [go_sem, *])
      have nb4 := cellK (g := w.heap.size) (i := 4) (v := .bool s) hb2 (by (first | (with_reducible exact Nat.le_refl _) | (with_reducible assumption) | omega | (simp <;> omega))) (by simp [go_sem, *])
      have nb5 := cellK (g := w.heap.size) (i := 5) (v := .bool x) hb2 (by (first | (with_reducible exact Nat.le_refl _) | (with_reducible assumption) | omega | (simp <;> omega))) (by simp [go_sem, *])
      have ni0 := cellK (g := w.heap.size + 1) (i := 0) (v := .int .i64 a) hb2 (by (first | (with_reducible exact Nat.le_refl _) | (with_reducible assumption) | omega | (simp <;> omega))) (by simp [go_sem, *])
      have ni1 := cellK (g := w.heap.size + 1) (i := 1) (v := .slice A bs.length cc) hb2 (by (first | (with_reducible exact Nat.le_refl _) | (with_reducible assumption) | omega | (simp <;> omega))) (by simp [go_sem, *])
      have ni2 := cellK (g := w.heap.size + 1) (i := 2) (v := .bool d) hb2 (by (first | (with_reducible exact Nat.le_refl _) | (with_reducible assumption) | omega | (simp <;> omega))) (by simp [go_sem, *])
      have ni3 := cellK (g := w.heap.size + 1) (i := 3) (v := .bool p) hb2 (by (first | (with_reducible exact Nat.le_refl _) | (with_reducible assumption) | omega | (simp <;> omega))) (by simp [go_sem, *])
      have nrf0 := frozK (g := w.heap.size + 1 + 1) (i := 0) hb2 (by (first | (with_reducible exact Nat.le_refl _) | (with_reducible assumption) | omega | (simp <;> omega))) (by simp [go_sem, *])
      have nrf1 := frozK (g := w.heap.size + 1 + 1) (i := 1) hb2 (by (first | (with_reducible exact Nat.le_refl _) | (with_reducible assumption) | omega | (simp <;> omega))) (by simp [go_sem, *])
      have nrf2 := frozK (g := w.heap.size + 1 + 1) (i := 2) hb2 (by (first | (with_reducible exact Nat.le_refl _) | (with_reducible assumption) | omega | (simp <;> omega))) (by simp [go_sem, *])
      have nrf3 := frozK (g := w.heap.size + 1 + 1) (i := 3) hb2 (by (first | (with_reducible exact Nat.le_refl _) | (with_reducible assumption) | omega | (simp <;> omega))) (by simp [go_sem, *])
      have nrf4 := frozK (g := w.heap.size + 1 + 1) (i := 4) hb2 (by (first | (with_reducible exact Nat.le_refl _) | (with_reducible assumption) | omega | (simp <;> omega))) (by simp [go_sem, *])
      have nrf5 := frozK (g := w.heap.size + 1 + 1) (i := 5) hb2 (by (first | (with_reducible exact Nat.le_refl _) | (with_reducible assumption) | omega | (simp <;> omega))) (by simp [go_sem, *])
      have nr0 := cellK (g := w.heap.size + 1 + 1) (i := 0) (v := .int .i64 0) hb2 (by (first | (with_reducible exact Nat.le_refl _) | (with_reducible assumption) | omega | (simp <;> omega))) (by simp [go_sem, *])
      have nr1 := cellK (g := w.heap.size + 1 + 1) (i := 1) (v := .int .i64 0) hb2 (by (first | (with_reducible exact Nat.le_refl _) | (with_reducible assumption) | omega | (simp <;> omega))) (by simp [go_sem, *])
      have nr2 := cellK (g := w.heap.size + 1 + 1) (i := 2) (v := .int .i64 0) hb2 (by (first | (with_reducible exact Nat.le_refl _) | (with_reducible assumption) | omega | (simp <;> omega))) (by simp [go_sem, *])
      have nr3 := cellK (g := w.heap.size + 1 + 1) (i := 3) (v := .int .i64 0) hb2 (by (first | (with_reducible exact Nat.le_refl _) | (with_reducible assumption) | omega | (simp <;> omega))) (by simp [go_sem, *])
      have nr4 := cellK (g := w.heap.size + 1 + 1) (i := 4) (v := .bool false) hb2 (by (first | (with_reducible exact Nat.le_refl _) | (with_reducible assumption) | omega | (simp <;> omega))) (by simp [go_sem, *])
      have nr5 := cellK (g := w.heap.size + 1 + 1) (i := 5) (v := .bool false) hb2 (by (first | (with_reducible exact Nat.le_refl _) | (with_reducible assumption) | omega | (simp <;> omega))) (by simp [go_sem, *])
      have nof0 := frozK (g := w.heap.size + 1 + 1 + 1) (i := 0) hb2 (by (first | (with_reducible exact Nat.le_refl _) | (with_reducible assumption) | omega | (simp <;> omega))) (by simp [go_sem, *])
      have nof1 := frozK (g := w.heap.size + 1 + 1 + 1) (i := 1) hb2 (by (first | (with_reducible exact Nat.le_refl _) | (with_reducible assumption) | omega | (simp <;> omega))) (by simp [go_sem, *])
      have nof2 := frozK (g := w.heap.size + 1 + 1 + 1) (i := 2) hb2 (by (first | (with_reducible exact Nat.le_refl _) | (with_reducible assumption) | omega | (simp <;> omega))) (by simp [go_sem, *])
      have nof3 := frozK (g := w.heap.size + 1 + 1 + 1) (i := 3) hb2 (by (first | (with_reducible exact Nat.le_refl _) | (with_reducible assumption) | omega | (simp <;> omega))) (by simp [go_sem, *])
      have no0 := cellK (g := w.heap.size + 1 + 1 + 1) (i := 0) (v := .int .i64 0) hb2 (by (first | (with_reducible exact Nat.le_refl _) | (with_reducible assumption) | omega | (simp <;> omega))) (by simp [go_sem, *])
      have no1 := cellK (g := w.heap.size + 1 + 1 + 1) (i := 1) (v := .slice none 0 0) hb2 (by (first | (with_reducible exact Nat.le_refl _) | (with_reducible assumption) | omega | (simp <;> omega))) (by simp [go_sem, *])
      have no2 := cellK (g := w.heap.size + 1 + 1 + 1) (i := 2) (v := .bool false) hb2 (by (first | (with_reducible exact Nat.le_refl _) | (with_reducible assumption) | omega | (simp <;> omega))) (by simp [go_sem, *])
      have no3 := cellK (g := w.heap.size + 1 + 1 + 1) (i := 3) (v := .bool false) hb2 (by (first | (with_reducible exact Nat.le_refl _) | (with_reducible assumption) | omega | (simp <;> omega))) (by simp [go_sem, *])
      clear kb0 kb1 kb2 kb3 kb4 kb5 ki0 ki1 ki2 ki3 kr0 kr1 kr2 kr3 kr4 kr5 ko0 ko1 ko2 ko3 kbf0 kbf1 kbf2 kbf3 kbf4 kbf5 krf0 krf1 krf2 krf3 krf4 krf5 kof0 kof1 kof2 kof3
      have kb0 := nb0
      have kb1 := nb1
      have kb2 := nb2
      have kb3 := nb3
      have kb4 := nb4
      have kb5 := nb5
      have ki0 := ni0
      have ki1 := ni1
      have ki2 := ni2
      have ki3 := ni3
      have kr0 := nr0
      have kr1 := nr1
      have kr2 := nr2
      have kr3 := nr3
      have kr4 := nr4
      have kr5 := nr5
      have ko0 := no0
      have ko1 := no1
      have ko2 := no2
      have ko3 := no3
      have kbf0 := nbf0
      have kbf1 := nbf1
      have kbf2 := nbf2
      have kbf3 := nbf3
      have kbf4 := nbf4
      have kbf5 := nbf5
      have krf0 := nrf0
      have krf1 := nrf1
      have krf2 := nrf2
      have krf3 := nrf3
      have krf4 := nrf4
      have krf5 := nrf5
      have kof0 := nof0
      have kof1 := nof1
      have kof2 := nof2
      have kof3 := nof3
      clear nb0 nb1 nb2 nb3 nb4 nb5 ni0 ni1 ni2 ni3 nr0 nr1 nr2 nr3 nr4 nr5 no0 no1 no2 no3 nbf0 nbf1 nbf2 nbf3 nbf4 nbf5 nrf0 nrf1 nrf2 nrf3 nrf4 nrf5 nof0 nof1 nof2 nof3
      have l0 : w.heap.size < w2.heap.size := by omega
      have l1 : w.heap.size + 1 < w2.heap.size := by omega
      have l2 : w.heap.size + 1 + 1 < w2.heap.size := by omega
      have l3 : w.heap.size + 1 + 1 + 1 < w2.heap.size := by omega
      clear hb2 hB1 hs1
      go_wp2_with fail
      refine bodyPost_ret (v := .tuple #[.agg #[.int .i64 f, .int .i64 t, .int .i64 c, .int .i64 n, .bool s, .bool x], .agg #[.int .i64 0, .slice none 0 0, .bool false, .bool false], .int .i64 40]) (by simp [results, Try.results47, go_sem, *]) rfl ?_
      exact ⟨_, rfl, OwnLine.zero_ _ _ _, by (repeat' (first | (with_reducible exact Below.refl _ _) | (with_reducible assumption) | (with_reducible refine Below.alloc ?_ ?_ _) | (with_reducible refine Below.drew ?_) | (with_reducible refine below_drewN ?_ _) | (with_reducible refine Below.setCell ?_ ?_ _) | (with_reducible exact Nat.le_refl _) | omega | (simp <;> omega)))⟩
    · by_cases ha : a = f + n
      · subst ha
        by_cases hps : p = true ∧ s = true
        · obtain ⟨rfl, rfl⟩ := hps
          have e1 : stepT ⟨f, t, c, n, true, x⟩ ⟨f + n, bs, d, true⟩ = ⟨f, t, c, n, true, true⟩ := by simp [stepT, hl]
          have e2 : stepL ⟨f, t, c, n, true, x⟩ ⟨f + n, bs, d, true⟩ = LineD.zero := by simp [stepL, hl]
          have e3 : stepE ⟨f, t, c, n, true, x⟩ ⟨f + n, bs, d, true⟩ = 48 := by simp [stepE, hl, hv]
          rewrite [e1, e2, e3]
          clear e1 e2 e3
          have HV := Lib.hid hv
          have HLV := Lib.hid hl
          clear hv hl
          go_enter Try.func47, Try.ntmps47
          go_wp2_with fail
          refine (dnext_any _ _ _ _ _ _ _ h0).mono ?_
          simp only [nextA, nextB, HLV.out, if_true]
          rintro e w1 ⟨rfl, hb1⟩
          have hs1 := hb1.size
          simp only [World.size_alloc] at hs1
          have hB1 := (show Below w.heap.size w _ by (repeat' (first | (with_reducible exact Below.refl _ _) | (with_reducible assumption) | (with_reducible refine Below.alloc ?_ ?_ _) | (with_reducible refine Below.drew ?_) | (with_reducible refine below_drewN ?_ _) | (with_reducible refine Below.setCell ?_ ?_ _) | (with_reducible exact Nat.le_refl _) | omega | (simp <;> omega)))).trans (hb1.mono (show w.heap.size ≤ _ by (first | (with_reducible exact Nat.le_refl _) | (with_reducible assumption) | omega | (simp <;> omega))))
          have nbf0 := frozK (g := w.heap.size) (i := 0) hb1 (by (first | (with_reducible exact Nat.le_refl _) | (with_reducible assumption) | omega | (simp <;> omega))) (by simp [go_sem, *])
          have nbf1 := frozK (g := w.heap.size) (i := 1) hb1 (by (first | (with_reducible exact Nat.le_refl _) | (with_reducible assumption) | omega | (simp <;> omega))) (by simp [go_sem, *])
          have nbf2 := frozK (g := w.heap.size) (i := 2) hb1 (by (first | (with_reducible exact Nat.le_refl _) | (with_reducible assumption) | omega | (simp <;> omega))) (by simp [go_sem, *])
          have nbf3 := frozK (g := w.heap.size) (i := 3) hb1 (by (first | (with_reducible exact Nat.le_refl _) | (with_reducible assumption) | omega | (simp <;> omega))) (by simp [go_sem, *])
          have nbf4 := frozK (g := w.heap.size) (i := 4) hb1 (by (first | (with_reducible exact Nat.le_refl _) | (with_reducible assumption) | omega | (simp <;> omega))) (by simp [go_sem, *])
          have nbf5 := frozK (g := w.heap.size) (i := 5) hb1 (by (first | (with_reducible exact Nat.le_refl _) | (with_reducible assumption) | omega | (simp <;> omega))) (by simp [go_sem, *])
          have nb0 := cellK (g := w.heap.size) (i := 0) (v := .int .i64 f) hb1 (by (first | (with_reducible exact Nat.le_refl _) | (with_reducible assumption) | omega | (simp <;> omega))) (by simp [go_sem, *])
          have nb1 := cellK (g := w.heap.size) (i := 1) (v := .int .i64 t) hb1 (by (first | (with_reducible exact Nat.le_refl _) | (with_reducible assumption) | omega | (simp <;> omega))) (by simp [go_sem, *])
          have nb2 := cellK (g := w.heap.size) (i := 2) (v := .int .i64 c) hb1 (by (first | (with_reducible exact Nat.le_refl _) | (with_reducible assumption) | omega | (simp <;> omega))) (by simp [go_sem, *])
          have nb3 := cellK (g := w.heap.size) (i := 3) (v := .int .i64 n) hb1 (by (first | (with_reducible exact Nat.le_refl _) | (with_reducible assumption) | omega | (simp <;> omega))) (by simp [go_sem, *])
          have nb4 := cellK (g := w.heap.size) (i := 4) (v := .bool true) hb1 (by (first | (with_reducible exact Nat.le_refl _) | (with_reducible assumption) | omega | (simp <;> omega))) (by simp [go_sem, *])
          have nb5 := cellK (g := w.heap.size) (i := 5) (v := .bool x) hb1 (by (first | (with_reducible exact Nat.le_refl _) | (with_reducible assumption) | omega | (simp <;> omega))) (by simp [go_sem, *])
          have ni0 := cellK (g := w.heap.size + 1) (i := 0) (v := .int .i64 (f + n)) hb1 (by (first | (with_reducible exact Nat.le_refl _) | (with_reducible assumption) | omega | (simp <;> omega))) (by simp [go_sem, *])
          have ni1 := cellK (g := w.heap.size + 1) (i := 1) (v := .slice A bs.length cc) hb1 (by (first | (with_reducible exact Nat.le_refl _) | (with_reducible assumption) | omega | (simp <;> omega))) (by simp [go_sem, *])
          have ni2 := cellK (g := w.heap.size + 1) (i := 2) (v := .bool d) hb1 (by (first | (with_reducible exact Nat.le_refl _) | (with_reducible assumption) | omega | (simp <;> omega))) (by simp [go_sem, *])
          have ni3 := cellK (g := w.heap.size + 1) (i := 3) (v := .bool true) hb1 (by (first | (with_reducible exact Nat.le_refl _) | (with_reducible assumption) | omega | (simp <;> omega))) (by simp [go_sem, *])
          have nrf0 := frozK (g := w.heap.size + 1 + 1) (i := 0) hb1 (by (first | (with_reducible exact Nat.le_refl _) | (with_reducible assumption) | omega | (simp <;> omega))) (by simp [go_sem, *])
          have nrf1 := frozK (g := w.heap.size + 1 + 1) (i := 1) hb1 (by (first | (with_reducible exact Nat.le_refl _) | (with_reducible assumption) | omega | (simp <;> omega))) (by simp [go_sem, *])
          have nrf2 := frozK (g := w.heap.size + 1 + 1) (i := 2) hb1 (by (first | (with_reducible exact Nat.le_refl _) | (with_reducible assumption) | omega | (simp <;> omega))) (by simp [go_sem, *])
          have nrf3 := frozK (g := w.heap.size + 1 + 1) (i := 3) hb1 (by (first | (with_reducible exact Nat.le_refl _) | (with_reducible assumption) | omega | (simp <;> omega))) (by simp [go_sem, *])
          have nrf4 := frozK (g := w.heap.size + 1 + 1) (i := 4) hb1 (by (first | (with_reducible exact Nat.le_refl _) | (with_reducible assumption) | omega | (simp <;> omega))) (by simp [go_sem, *])
          have nrf5 := frozK (g := w.heap.size + 1 + 1) (i := 5) hb1 (by (first | (with_reducible exact Nat.le_refl _) | (with_reducible assumption) | omega | (simp <;> omega))) (by simp [go_sem, *])
          have nr0 := cellK (g := w.heap.size + 1 + 1) (i := 0) (v := .int .i64 0) hb1 (by (first | (with_reducible exact Nat.le_refl _) | (with_reducible assumption) | omega | (simp <;> omega))) (by simp [go_sem, *])
          have nr1 := cellK (g := w.heap.size + 1 + 1) (i := 1) (v := .int .i64 0) hb1 (by (first | (with_reducible exact Nat.le_refl _) | (with_reducible assumption) | omega | (simp <;> omega))) (by simp [go_sem, *])
          have nr2 := cellK (g := w.heap.size + 1 + 1) (i := 2) (v := .int .i64 0) hb1 (by (first | (with_reducible exact Nat.le_refl _) | (with_reducible assumption) | omega | (simp <;> omega))) (by simp [go_sem, *])
          have nr3 := cellK (g := w.heap.size + 1 + 1) (i := 3) (v := .int .i64 0) hb1 (by (first | (with_reducible exact Nat.le_refl _) | (with_reducible assumption) | omega | (simp <;> omega))) (by simp [go_sem, *])
          have nr4 := cellK (g := w.heap.size + 1 + 1) (i := 4) (v := .bool false) hb1 (by (first | (with_reducible exact Nat.le_refl _) | (with_reducible assumption) | omega | (simp <;> omega))) (by simp [go_sem, *])
          have nr5 := cellK (g := w.heap.size + 1 + 1) (i := 5) (v := .bool false) hb1 (by (first | (with_reducible exact Nat.le_refl _) | (with_reducible assumption) | omega | (simp <;> omega))) (by simp [go_sem, *])
          have nof0 := frozK (g := w.heap.size + 1 + 1 + 1) (i := 0) hb1 (by (first | (with_reducible exact Nat.le_refl _) | (with_reducible assumption) | omega | (simp <;> omega))) (by simp [go_sem, *])
          have nof1 := frozK (g := w.heap.size + 1 + 1 + 1) (i := 1) hb1 (by (first | (with_reducible exact Nat.le_refl _) | (with_reducible assumption) | omega | (simp <;> omega))) (by simp [go_sem, *])
          have nof2 := frozK (g := w.heap.size + 1 + 1 + 1) (i := 2) hb1 (by (first | (with_reducible exact Nat.le_refl _) | (with_reducible assumption) | omega | (simp <;> omega))) (by simp [go_sem, *])
          have nof3 := frozK (g := w.heap.size + 1 + 1 + 1) (i := 3) hb1 (by (first | (with_reducible exact Nat.le_refl _) | (with_reducible assumption) | omega | (simp <;> omega))) (by simp [go_sem, *])
          have no0 := cellK (g := w.heap.size + 1 + 1 + 1) (i := 0) (v := .int .i64 0) hb1 (by (first | (with_reducible exact Nat.le_refl _) | (with_reducible assumption) | omega | (simp <;> omega))) (by simp [go_sem, *])
          have no1 := cellK (g := w.heap.size + 1 + 1 + 1) (i := 1) (v := .slice none 0 0) hb1 (by (first | (with_reducible exact Nat.le_refl _) | (with_reducible assumption) | omega | (simp <;> omega))) (by simp [go_sem, *])
          have no2 := cellK (g := w.heap.size + 1 + 1 + 1) (i := 2) (v := .bool false) hb1 (by (first | (with_reducible exact Nat.le_refl _) | (with_reducible assumption) | omega | (simp <;> omega))) (by simp [go_sem, *])
          have no3 := cellK (g := w.heap.size + 1 + 1 + 1) (i := 3) (v := .bool false) hb1 (by (first | (with_reducible exact Nat.le_refl _) | (with_reducible assumption) | omega | (simp <;> omega))) (by simp [go_sem, *])
          have kb0 := nb0
          have kb1 := nb1
          have kb2 := nb2
          have kb3 := nb3
          have kb4 := nb4
          have kb5 := nb5
          have ki0 := ni0
          have ki1 := ni1
          have ki2 := ni2
          have ki3 := ni3
          have kr0 := nr0
          have kr1 := nr1
          have kr2 := nr2
          have kr3 := nr3
          have kr4 := nr4
          have kr5 := nr5
          have ko0 := no0
          have ko1 := no1
          have ko2 := no2
          have ko3 := no3
          have kbf0 := nbf0
          have kbf1 := nbf1
          have kbf2 := nbf2
          have kbf3 := nbf3
          have kbf4 := nbf4
          have kbf5 := nbf5
          have krf0 := nrf0
          have krf1 := nrf1
          have krf2 := nrf2
          have krf3 := nrf3
          have krf4 := nrf4
          have krf5 := nrf5
          have kof0 := nof0
          have kof1 := nof1
          have kof2 := nof2
          have kof3 := nof3
          clear nb0 nb1 nb2 nb3 nb4 nb5 ni0 ni1 ni2 ni3 nr0 nr1 nr2 nr3 nr4 nr5 no0 no1 no2 no3 nbf0 nbf1 nbf2 nbf3 nbf4 nbf5 nrf0 nrf1 nrf2 nrf3 nrf4 nrf5 nof0 nof1 nof2 nof3
          clear hb1
          go_wp2_with fail
          refine (dvalid_any _ _ _ _ _ _ _ h0).mono ?_
          rewrite [HV.out]
          rintro e w2 ⟨rfl, hb2⟩
          have hs2 := hb2.size
          have hB2 := hB1.trans (hb2.mono hB1.size)
          have nbf0 := frozK (g := w.heap.size) (i := 0) hb2 (by (first | (with_reducible exact Nat.le_refl _) | (with_reducible assumption) | omega | (simp <;> omega))) (by simp [go_sem, *])
          have nbf1 := frozK (g := w.heap.size) (i := 1) hb2 (by (first | (with_reducible exact Nat.le_refl _) | (with_reducible assumption) | omega | (simp <;> omega))) (by simp [go_sem, *])
          have nbf2 := frozK (g := w.heap.size) (i := 2) hb2 (by (first | (with_reducible exact Nat.le_refl _) | (with_reducible assumption) | omega | (simp <;> omega))) (by simp [go_sem, *])
          have nbf3 := frozK (g := w.heap.size) (i := 3) hb2 (by (first | (with_reducible exact Nat.le_refl _) | (with_reducible assumption) | omega | (simp <;> omega))) (by simp [go_sem, *])
          have nbf4 := frozK (g := w.heap.size) (i := 4) hb2 (by (first | (with_reducible exact Nat.le_refl _) | (with_reducible assumption) | omega | (simp <;> omega))) (by simp [go_sem, *])
          have nbf5 := frozK (g := w.heap.size) (i := 5) hb2 (by (first | (with_reducible exact Nat.le_refl _) | (with_reducible assumption) | omega | (simp <;> omega))) (by simp [go_sem, *])
          have nb0 := cellK (g := w.heap.size) (i := 0) (v := .int .i64 f) hb2 (by (first | (with_reducible exact Nat.le_refl _) | (with_reducible assumption) | omega | (simp <;> omega))) (by simp [go_sem, *])
          have nb1 := cellK (g := w.heap.size) (i := 1) (v := .int .i64 t) hb2 (by (first | (with_reducible exact Nat.le_refl _) | (with_reducible assumption) | omega | (simp <;> omega))) (by simp [go_sem, *])
          have nb2 := cellK (g := w.heap.size) (i := 2) (v := .int .i64 c) hb2 (by (first | (with_reducible exact Nat.le_refl _) | (with_reducible assumption) | omega | (simp <;> omega))) (by simp [go_sem, *])
          have nb3 := cellK (g := w.heap.size) (i := 3) (v := .int .i64 n) hb2 (by (first | (with_reducible exact Nat.le_refl _) | (with_reducible assumption) | omega | (simp <;> omega))) (by simp [go_sem, *])
          have nb4 := cellK (g := w.heap.size) (i := 4) (v := .bool true) hb2 (by (first | (with_reducible exact Nat.le_refl _) | (with_reducible assumption) | omega | (simp <;> omega))) (by simp [go_sem, *])
          have nb5 := cellK (g := w.heap.size) (i := 5) (v := .bool x) hb2 (by (first | (with_reducible exact Nat.le_refl _) | (with_reducible assumption) | omega | (simp <;> omega))) (by simp [go_sem, *])
          have ni0 := cellK (g := w.heap.size + 1) (i := 0) (v := .int .i64 (f + n)) hb2 (by (first | (with_reducible exact Nat.le_refl _) | (with_reducible assumption) | omega | (simp <;> omega))) (by simp [go_sem, *])
          have ni1 := cellK (g := w.heap.size + 1) (i := 1) (v := .slice A bs.length cc) hb2 (by (first | (with_reducible exact Nat.le_refl _) | (with_reducible assumption) | omega | (simp <;> omega))) (by simp [go_sem, *])
          have ni2 := cellK (g := w.heap.size + 1) (i := 2) (v := .bool d) hb2 (by (first | (with_reducible exact Nat.le_refl _) | (with_reducible assumption) | omega | (simp <;> omega))) (by simp [go_sem, *])
          have ni3 := cellK (g := w.heap.size + 1) (i := 3) (v := .bool true) hb2 (by (first | (with_reducible exact Nat.le_refl _) | (with_reducible assumption) | omega | (simp <;> omega))) (by simp [go_sem, *])
          have nrf0 := frozK (g := w.heap.size + 1 + 1) (i := 0) hb2 (by (first | (with_reducible exact Nat.le_refl _) | (with_reducible assumption) | omega | (simp <;> omega))) (by simp [go_sem, *])
          have nrf1 := frozK (g := w.heap.size + 1 + 1) (i := 1) hb2 (by (first | (with_reducible exact Nat.le_refl _) | (with_reducible assumption) | omega | (simp <;> omega))) (by simp [go_sem, *])
          have nrf2 := frozK (g := w.heap.size + 1 + 1) (i := 2) hb2 (by (first | (with_reducible exact Nat.le_refl _) | (with_reducible assumption) | omega | (simp <;> omega))) (by simp [go_sem, *])
          have nrf3 := frozK (g := w.heap.size + 1 + 1) (i := 3) hb2 (by (first | (with_reducible exact Nat.le_refl _) | (with_reducible assumption) | omega | (simp <;> omega))) (by simp [go_sem, *])
          have nrf4 := frozK (g := w.heap.size + 1 + 1) (i := 4) hb2 (by (first | (with_reducible exact Nat.le_refl _) | (with_reducible assumption) | omega | (simp <;> omega))) (by simp [go_sem, *])
          have nrf5 := frozK (g := w.heap.size + 1 + 1) (i := 5) hb2 (by (first | (with_reducible exact Nat.le_refl _) | (with_reducible assumption) | omega | (simp <;> omega))) (by simp [go_sem, *])
          have nr0 := cellK (g := w.heap.size + 1 + 1) (i := 0) (v := .int .i64 0) hb2 (by (first | (with_reducible exact Nat.le_refl _) | (with_reducible assumption) | omega | (simp <;> omega))) (by simp [go_sem, *])
          have nr1 := cellK (g := w.heap.size + 1 + 1) (i := 1) (v := .int .i64 0) hb2 (by (first | (with_reducible exact Nat.le_refl _) | (with_reducible assumption) | omega | (simp <;> omega))) (by simp [go_sem, *])
          have nr2 := cellK (g := w.heap.size + 1 + 1) (i := 2) (v := .int .i64 0) hb2 (by (first | (with_reducible exact Nat.le_refl _) | (with_reducible assumption) | omega | (simp <;> omega))) (by simp [go_sem, *])
          have nr3 := cellK (g := w.heap.size + 1 + 1) (i := 3) (v := .int .i64 0) hb2 (by (first | (with_reducible exact Nat.le_refl _) | (with_reducible assumption) | omega | (simp <;> omega))) (by simp [go_sem, *])
          have nr4 := cellK (g := w.heap.size + 1 + 1) (i := 4) (v := .bool false) hb2 (by (first | (with_reducible exact Nat.le_refl _) | (with_reducible assumption) | omega | (simp <;> omega))) (by simp [go_sem, *])
          have nr5 := cellK (g := w.heap.size + 1 + 1) (i := 5) (v := .bool false) hb2 (by (first | (with_reducible exact Nat.le_refl _) | (with_reducible assumption) | omega | (simp <;> omega))) (by simp [go_sem, *])
          have nof0 := frozK (g := w.heap.size + 1 + 1 + 1) (i := 0) hb2 (by (first | (with_reducible exact Nat.le_refl _) | (with_reducible assumption) | omega | (simp <;> omega))) (by simp [go_sem, *])
          have nof1 := frozK (g := w.heap.size + 1 + 1 + 1) (i := 1) hb2 (by (first | (with_reducible exact Nat.le_refl _) | (with_reducible assumption) | omega | (simp <;> omega))) (by simp [go_sem, *])
          have nof2 := frozK (g := w.heap.size + 1 + 1 + 1) (i := 2) hb2 (by (first | (with_reducible exact Nat.le_refl _) | (with_reducible assumption) | omega | (simp <;> omega))) (by simp [go_sem, *])
          have nof3 := frozK (g := w.heap.size + 1 + 1 + 1) (i := 3) hb2 (by (first | (with_reducible exact Nat.le_refl _) | (with_reducible assumption) | omega | (simp <;> omega))) (by simp [go_sem, *])
          have no0 := cellK (g := w.heap.size + 1 + 1 + 1) (i := 0) (v := .int .i64 0) hb2 (by (first | (with_reducible exact Nat.le_refl _) | (with_reducible assumption) | omega | (simp <;> omega))) (by simp [go_sem, *])
          have no1 := cellK (g := w.heap.size + 1 + 1 + 1) (i := 1) (v := .slice none 0 0) hb2 (by (first | (with_reducible exact Nat.le_refl _) | (with_reducible assumption) | omega | (simp <;> omega))) (by simp [go_sem, *])
          have no2 := cellK (g := w.heap.size + 1 + 1 + 1) (i := 2) (v := .bool false) hb2 (by (first | (with_reducible exact Nat.le_refl _) | (with_reducible assumption) | omega | (simp <;> omega))) (by simp [go_sem, *])
          have no3 := cellK (g := w.heap.size + 1 + 1 + 1) (i := 3) (v := .bool false) hb2 (by (first | (with_reducible exact Nat.le_refl _) | (with_reducible assumption) | omega | (simp <;> omega))) (by simp [go_sem, *])
          clear kb0 kb1 kb2 kb3 kb4 kb5 ki0 ki1 ki2 ki3 kr0 kr1 kr2 kr3 kr4 kr5 ko0 ko1 ko2 ko3 kbf0 kbf1 kbf2 kbf3 kbf4 kbf5 krf0 krf1 krf2 krf3 krf4 krf5 kof0 kof1 kof2 kof3
          have kb0 := nb0
          have kb1 := nb1
          have kb2 := nb2
          have kb3 := nb3
          have kb4 := nb4
          have kb5 := nb5
          have ki0 := ni0
          have ki1 := ni1
          have ki2 := ni2
          have ki3 := ni3
          have kr0 := nr0
          have kr1 := nr1
          have kr2 := nr2
          have kr3 := nr3
          have kr4 := nr4
          have kr5 := nr5
          have ko0 := no0
          have ko1 := no1
          have ko2 := no2
          have ko3 := no3
          have kbf0 := nbf0
          have kbf1 := nbf1
          have kbf2 := nbf2
          have kbf3 := nbf3
          have kbf4 := nbf4
          have kbf5 := nbf5
          have krf0 := nrf0
          have krf1 := nrf1
          have krf2 := nrf2
          have krf3 := nrf3
          have krf4 := nrf4
          have krf5 := nrf5
          have kof0 := nof0
          have kof1 := nof1
          have kof2 := nof2
          have kof3 := nof3
          clear nb0 nb1 nb2 nb3 nb4 nb5 ni0 ni1 ni2 ni3 nr0 nr1 nr2 nr3 nr4 nr5 no0 no1 no2 no3 nbf0 nbf1 nbf2 nbf3 nbf4 nbf5 nrf0 nrf1 nrf2 nrf3 nrf4 nrf5 nof0 nof1 nof2 nof3
          have l0 : w.heap.size < w2.heap.size := by omega
          have l1 : w.heap.size + 1 < w2.heap.size := by omega
          have l2 : w.heap.size + 1 + 1 < w2.heap.size := by omega
          have l3 : w.heap.size + 1 + 1 + 1 < w2.heap.size := by omega
          clear hb2 hB1 hs1
          go_wp2_with fail
          refine bodyPost_ret (v := .tuple #[.agg #[.int .i64 f, .int .i64 t, .int .i64 c, .int .i64 n, .bool true, .bool true], .agg #[.int .i64 0, .slice none 0 0, .bool false, .bool false], .int .i64 48]) (by simp [results, Try.results47, go_sem, *]) rfl ?_
          exact ⟨_, rfl, OwnLine.zero_ _ _ _, by (repeat' (first | (with_reducible exact Below.refl _ _) | (with_reducible assumption) | (with_reducible refine Below.alloc ?_ ?_ _) | (with_reducible refine Below.drew ?_) | (with_reducible refine below_drewN ?_ _) | (with_reducible refine Below.setCell ?_ ?_ _) | (with_reducible exact Nat.le_refl _) | omega | (simp <;> omega)))⟩
        · have hps' : (p && s) = false := by cases p <;> cases s <;> simp_all
          have e1 : stepT ⟨f, t, c, n, s, x⟩ ⟨f + n, bs, d, p⟩ = ⟨f, t, c, n + 1, s, x⟩ := by simp [stepT, hl, hps]
          have e2 : stepL ⟨f, t, c, n, s, x⟩ ⟨f + n, bs, d, p⟩ = ⟨t + n, bs, true, p⟩ := by simp [stepL, hl, hps]
          have e3 : stepE ⟨f, t, c, n, s, x⟩ ⟨f + n, bs, d, p⟩ = 0 := by simp [stepE, hl, hv, hps]
          rewrite [e1, e2, e3]
          clear e1 e2 e3
          have HV := Lib.hid hv
          have HLV := Lib.hid hl
          clear hv hl hps
          cases p
          · have htok : True := trivial
            go_enter Try.func47, Try.ntmps47
            go_wp2_with fail
            refine (dnext_any _ _ _ _ _ _ _ h0).mono ?_
            simp only [nextA, nextB, HLV.out, if_true]
            rintro e w1 ⟨rfl, hb1⟩
            have hs1 := hb1.size
            simp only [World.size_alloc] at hs1
            have hB1 := (show Below w.heap.size w _ by (repeat' (first | (with_reducible exact Below.refl _ _) | (with_reducible assumption) | (with_reducible refine Below.alloc ?_ ?_ _) | (with_reducible refine Below.drew ?_) | (with_reducible refine below_drewN ?_ _) | (with_reducible refine Below.setCell ?_ ?_ _) | (with_reducible exact Nat.le_refl _) | omega | (simp <;> omega)))).trans (hb1.mono (show w.heap.size ≤ _ by (first | (with_reducible exact Nat.le_refl _) | (with_reducible assumption) | omega | (simp <;> omega))))
            have nbf0 := frozK (g := w.heap.size) (i := 0) hb1 (by (first | (with_reducible exact Nat.le_refl _) | (with_reducible assumption) | omega | (simp <;> omega))) (by simp [go_sem, *])
            have nbf1 := frozK (g := w.heap.size) (i := 1) hb1 (by (first | (with_reducible exact Nat.le_refl _) | (with_reducible assumption) | omega | (simp <;> omega))) (by simp [go_sem, *])
            have nbf2 := frozK (g := w.heap.size) (i := 2) hb1 (by (first | (with_reducible exact Nat.le_refl _) | (with_reducible assumption) | omega | (simp <;> omega))) (by simp [go_sem, *])
            have nbf3 := frozK (g := w.heap.size) (i := 3) hb1 (by (first | (with_reducible exact Nat.le_refl _) | (with_reducible assumption) | omega | (simp <;> omega))) (by simp [go_sem, *])
            have nbf4 := frozK (g := w.heap.size) (i := 4) hb1 (by (first | (with_reducible exact Nat.le_refl _) | (with_reducible assumption) | omega | (simp <;> omega))) (by simp [go_sem, *])
            have nbf5 := frozK (g := w.heap.size) (i := 5) hb1 (by (first | (with_reducible exact Nat.le_refl _) | (with_reducible assumption) | omega | (simp <;> omega))) (by simp [go_sem, *])
            have nb0 := cellK (g := w.heap.size) (i := 0) (v := .int .i64 f) hb1 (by (first | (with_reducible exact Nat.le_refl _) | (with_reducible assumption) | omega | (simp <;> omega))) (by simp [go_sem, *])
            have nb1 := cellK (g := w.heap.size) (i := 1) (v := .int .i64 t) hb1 (by (first | (with_reducible exact Nat.le_refl _) | (with_reducible assumption) | omega | (simp <;> omega))) (by simp [go_sem, *])
            have nb2 := cellK (g := w.heap.size) (i := 2) (v := .int .i64 c) hb1 (by (first | (with_reducible exact Nat.le_refl _) | (with_reducible assumption) | omega | (simp <;> omega))) (by simp [go_sem, *])
            have nb3 := cellK (g := w.heap.size) (i := 3) (v := .int .i64 n) hb1 (by (first | (with_reducible exact Nat.le_refl _) | (with_reducible assumption) | omega | (simp <;> omega))) (by simp [go_sem, *])
            have nb4 := cellK (g := w.heap.size) (i := 4) (v := .bool s) hb1 (by (first | (with_reducible exact Nat.le_refl _) | (with_reducible assumption) | omega | (simp <;> omega))) (by simp [go_sem, *])
            have nb5 := cellK (g := w.heap.size) (i := 5) (v := .bool x) hb1 (by (first | (with_reducible exact Nat.le_refl _) | (with_reducible assumption) | omega | (simp <;> omega))) (by simp [go_sem, *])
            have ni0 := cellK (g := w.heap.size + 1) (i := 0) (v := .int .i64 (f + n)) hb1 (by (first | (with_reducible exact Nat.le_refl _) | (with_reducible assumption) | omega | (simp <;> omega))) (by simp [go_sem, *])
            have ni1 := cellK (g := w.heap.size + 1) (i := 1) (v := .slice A bs.length cc) hb1 (by (first | (with_reducible exact Nat.le_refl _) | (with_reducible assumption) | omega | (simp <;> omega))) (by simp [go_sem, *])
            have ni2 := cellK (g := w.heap.size + 1) (i := 2) (v := .bool d) hb1 (by (first | (with_reducible exact Nat.le_refl _) | (with_reducible assumption) | omega | (simp <;> omega))) (by simp [go_sem, *])
            have ni3 := cellK (g := w.heap.size + 1) (i := 3) (v := .bool false) hb1 (by (first | (with_reducible exact Nat.le_refl _) | (with_reducible assumption) | omega | (simp <;> omega))) (by simp [go_sem, *])
            have nrf0 := frozK (g := w.heap.size + 1 + 1) (i := 0) hb1 (by (first | (with_reducible exact Nat.le_refl _) | (with_reducible assumption) | omega | (simp <;> omega))) (by simp [go_sem, *])
            have nrf1 := frozK (g := w.heap.size + 1 + 1) (i := 1) hb1 (by (first | (with_reducible exact Nat.le_refl _) | (with_reducible assumption) | omega | (simp <;> omega))) (by simp [go_sem, *])
            have nrf2 := frozK (g := w.heap.size + 1 + 1) (i := 2) hb1 (by (first | (with_reducible exact Nat.le_refl _) | (with_reducible assumption) | omega | (simp <;> omega))) (by simp [go_sem, *])
            have nrf3 := frozK (g := w.heap.size + 1 + 1) (i := 3) hb1 (by (first | (with_reducible exact Nat.le_refl _) | (with_reducible assumption) | omega | (simp <;> omega))) (by simp [go_sem, *])
            have nrf4 := frozK (g := w.heap.size + 1 + 1) (i := 4) hb1 (by (first | (with_reducible exact Nat.le_refl _) | (with_reducible assumption) | omega | (simp <;> omega))) (by simp [go_sem, *])
            have nrf5 := frozK (g := w.heap.size + 1 + 1) (i := 5) hb1 (by (first | (with_reducible exact Nat.le_refl _) | (with_reducible assumption) | omega | (simp <;> omega))) (by simp [go_sem, *])
            have nr0 := cellK (g := w.heap.size + 1 + 1) (i := 0) (v := .int .i64 0) hb1 (by (first | (with_reducible exact Nat.le_refl _) | (with_reducible assumption) | omega | (simp <;> omega))) (by simp [go_sem, *])
            have nr1 := cellK (g := w.heap.size + 1 + 1) (i := 1) (v := .int .i64 0) hb1 (by (first | (with_reducible exact Nat.le_refl _) | (with_reducible assumption) | omega | (simp <;> omega))) (by simp [go_sem, *])
            have nr2 := cellK (g := w.heap.size + 1 + 1) (i := 2) (v := .int .i64 0) hb1 (by (first | (with_reducible exact Nat.le_refl _) | (with_reducible assumption) | omega | (simp <;> omega))) (by simp [go_sem, *])
            have nr3 := cellK (g := w.heap.size + 1 + 1) (i := 3) (v := .int .i64 0) hb1 (by (first | (with_reducible exact Nat.le_refl _) | (with_reducible assumption) | omega | (simp <;> omega))) (by simp [go_sem, *])
            have nr4 := cellK (g := w.heap.size + 1 + 1) (i := 4) (v := .bool false) hb1 (by (first | (with_reducible exact Nat.le_refl _) | (with_reducible assumption) | omega | (simp <;> omega))) (by simp [go_sem, *])
            have nr5 := cellK (g := w.heap.size + 1 + 1) (i := 5) (v := .bool false) hb1 (by (first | (with_reducible exact Nat.le_refl _) | (with_reducible assumption) | omega | (simp <;> omega))) (by simp [go_sem, *])
            have nof0 := frozK (g := w.heap.size + 1 + 1 + 1) (i := 0) hb1 (by (first | (with_reducible exact Nat.le_refl _) | (with_reducible assumption) | omega | (simp <;> omega))) (by simp [go_sem, *])
            have nof1 := frozK (g := w.heap.size + 1 + 1 + 1) (i := 1) hb1 (by (first | (with_reducible exact Nat.le_refl _) | (with_reducible assumption) | omega | (simp <;> omega))) (by simp [go_sem, *])
            have nof2 := frozK (g := w.heap.size + 1 + 1 + 1) (i := 2) hb1 (by (first | (with_reducible exact Nat.le_refl _) | (with_reducible assumption) | omega | (simp <;> omega))) (by simp [go_sem, *])
            have nof3 := frozK (g := w.heap.size + 1 + 1 + 1) (i := 3) hb1 (by (first | (with_reducible exact Nat.le_refl _) | (with_reducible assumption) | omega | (simp <;> omega))) (by simp [go_sem, *])
            have no0 := cellK (g := w.heap.size + 1 + 1 + 1) (i := 0) (v := .int .i64 0) hb1 (by (first | (with_reducible exact Nat.le_refl _) | (with_reducible assumption) | omega | (simp <;> omega))) (by simp [go_sem, *])
            have no1 := cellK (g := w.heap.size + 1 + 1 + 1) (i := 1) (v := .slice none 0 0) hb1 (by (first | (with_reducible exact Nat.le_refl _) | (with_reducible assumption) | omega | (simp <;> omega))) (by simp [go_sem, *])
            have no2 := cellK (g := w.heap.size + 1 + 1 + 1) (i := 2) (v := .bool false) hb1 (by (first | (with_reducible exact Nat.le_refl _) | (with_reducible assumption) | omega | (simp <;> omega))) (by simp [go_sem, *])
            have no3 := cellK (g := w.heap.size + 1 + 1 + 1) (i := 3) (v := .bool false) hb1 (by (first | (with_reducible exact Nat.le_refl _) | (with_reducible assumption) | omega | (simp <;> omega))) (by simp [go_sem, *])
            have kb0 := nb0
            have kb1 := nb1
            have kb2 := nb2
            have kb3 := nb3
            have kb4 := nb4
            have kb5 := nb5
            have ki0 := ni0
            have ki1 := ni1
            have ki2 := ni2
            have ki3 := ni3
            have kr0 := nr0
            have kr1 := nr1
            have kr2 := nr2
            have kr3 := nr3
            have kr4 := nr4
            have kr5 := nr5
            have ko0 := no0
            have ko1 := no1
            have ko2 := no2
            have ko3 := no3
            have kbf0 := nbf0
            have kbf1 := nbf1
            have kbf2 := nbf2
            have kbf3 := nbf3
            have kbf4 := nbf4
            have kbf5 := nbf5
            have krf0 := nrf0
            have krf1 := nrf1
            have krf2 := nrf2
            have krf3 := nrf3
            have krf4 := nrf4
            have krf5 := nrf5
            have kof0 := nof0
            have kof1 := nof1
            have kof2 := nof2
            have kof3 := nof3
            clear nb0 nb1 nb2 nb3 nb4 nb5 ni0 ni1 ni2 ni3 nr0 nr1 nr2 nr3 nr4 nr5 no0 no1 no2 no3 nbf0 nbf1 nbf2 nbf3 nbf4 nbf5 nrf0 nrf1 nrf2 nrf3 nrf4 nrf5 nof0 nof1 nof2 nof3
            clear hb1
            go_wp2_with fail
            refine (dvalid_any _ _ _ _ _ _ _ h0).mono ?_
            rewrite [HV.out]
            rintro e w2 ⟨rfl, hb2⟩
            have hs2 := hb2.size
            have hB2 := hB1.trans (hb2.mono hB1.size)
            have nbf0 := frozK (g := w.heap.size) (i := 0) hb2 (by (first | (with_reducible exact Nat.le_refl _) | (with_reducible assumption) | omega | (simp <;> omega))) (by simp [go_sem, *])
            have nbf1 := frozK (g := w.heap.size) (i := 1) hb2 (by (first | (with_reducible exact Nat.le_refl _) | (with_reducible assumption) | omega | (simp <;> omega))) (by simp [go_sem, *])
            have nbf2 := frozK (g := w.heap.size) (i := 2) hb2 (by (first | (with_reducible exact Nat.le_refl _) | (with_reducible assumption) | omega | (simp <;> omega))) (by simp [go_sem, *])
            have nbf3 := frozK (g := w.heap.size) (i := 3) hb2 (by (first | (with_reducible exact Nat.le_refl _) | (with_reducible assumption) | omega | (simp <;> omega))) (by simp [go_sem, *])
            have nbf4 := frozK (g := w.heap.size) (i := 4) hb2 (by (first | (with_reducible exact Nat.le_refl _) | (with_reducible assumption) | omega | (simp <;> omega))) (by simp [go_sem, *])
            have nbf5 := frozK (g := w.heap.size) (i := 5) hb2 (by (first | (with_reducible exact Nat.le_refl _) | (with_reducible assumption) | omega | (simp <;> omega))) (by simp [go_sem, *])
            have nb0 := cellK (g := w.heap.size) (i := 0) (v := .int .i64 f) hb2 (by (first | (with_reducible exact Nat.le_refl _) | (with_reducible assumption) | omega | (simp <;> omega))) (by simp [go_sem, *])
            have nb1 := cellK (g := w.heap.size) (i := 1) (v := .int .i64 t) hb2 (by (first | (with_reducible exact Nat.le_refl _) | (with_reducible assumption) | omega | (simp <;> omega))) (by simp [go_sem, *])
            have nb2 := cellK (g := w.heap.size) (i := 2) (v := .int .i64 c) hb2 (by (first | (with_reducible exact Nat.le_refl _) | (with_reducible assumption) | omega | (simp <;> omega))) (by simp [go_sem, *])
            have nb3 := cellK (g := w.heap.size) (i := 3) (v := .int .i64 n) hb2 (by (first | (with_reducible exact Nat.le_refl _) | (with_reducible assumption) | omega | (simp <;> omega))) (by simp [go_sem, *])
            have nb4 := cellK (g := w.heap.size) (i := 4) (v := .bool s) hb2 (by (first | (with_reducible exact Nat.le_refl _) | (with_reducible assumption) | omega | (simp <;> omega))) (by simp [go_sem, *])
            have nb5 := cellK (g := w.heap.size) (i := 5) (v := .bool x) hb2 (by (first | (with_reducible exact Nat.le_refl _) | (with_reducible assumption) | omega | (simp <;> omega))) (by simp [go_sem, *])
            have ni0 := cellK (g := w.heap.size + 1) (i := 0) (v := .int .i64 (f + n)) hb2 (by (first | (with_reducible exact Nat.le_refl _) | (with_reducible assumption) | omega | (simp <;> omega))) (by simp [go_sem, *])
            have ni1 := cellK (g := w.heap.size + 1) (i := 1) (v := .slice A bs.length cc) hb2 (by (first | (with_reducible exact Nat.le_refl _) | (with_reducible assumption) | omega | (simp <;> omega))) (by simp [go_sem, *])
            have ni2 := cellK (g := w.heap.size + 1) (i := 2) (v := .bool d) hb2 (by (first | (with_reducible exact Nat.le_refl _) | (with_reducible assumption) | omega | (simp <;> omega))) (by simp [go_sem, *])
            have ni3 := cellK (g := w.heap.size + 1) (i := 3) (v := .bool false) hb2 (by (first | (with_reducible exact Nat.le_refl _) | (with_reducible assumption) | omega | (simp <;> omega))) (by simp [go_sem, *])
            have nrf0 := frozK (g := w.heap.size + 1 + 1) (i := 0) hb2 (by (first | (with_reducible exact Nat.le_refl _) | (with_reducible assumption) | omega | (simp <;> omega))) (by simp [go_sem, *])
            have nrf1 := frozK (g := w.heap.size + 1 + 1) (i := 1) hb2 (by (first | (with_reducible exact Nat.le_refl _) | (with_reducible assumption) | omega | (simp <;> omega))) (by simp [go_sem, *])
            have nrf2 := frozK (g := w.heap.size + 1 + 1) (i := 2) hb2 (by (first | (with_reducible exact Nat.le_refl _) | (with_reducible assumption) | omega | (simp <;> omega))) (by simp [go_sem, *])
            have nrf3 := frozK (g := w.heap.size + 1 + 1) (i := 3) hb2 (by (first | (with_reducible exact Nat.le_refl _) | (with_reducible assumption) | omega | (simp <;> omega))) (by simp [go_sem, *])
            have nrf4 := frozK (g := w.heap.size + 1 + 1) (i := 4) hb2 (by (first | (with_reducible exact Nat.le_refl _) | (with_reducible assumption) | omega | (simp <;> omega))) (by simp [go_sem, *])
            have nrf5 := frozK (g := w.heap.size + 1 + 1) (i := 5) hb2 (by (first | (with_reducible exact Nat.le_refl _) | (with_reducible assumption) | omega | (simp <;> omega))) (by simp [go_sem, *])
            have nr0 := cellK (g := w.heap.size + 1 + 1) (i := 0) (v := .int .i64 0) hb2 (by (first | (with_reducible exact Nat.le_refl _) | (with_reducible assumption) | omega | (simp <;> omega))) (by simp [go_sem, *])
            have nr1 := cellK (g := w.heap.size + 1 + 1) (i := 1) (v := .int .i64 0) hb2 (by (first | (with_reducible exact Nat.le_refl _) | (with_reducible assumption) | omega | (simp <;> omega))) (by simp [go_sem, *])
            have nr2 := cellK (g := w.heap.size + 1 + 1) (i := 2) (v := .int .i64 0) hb2 (by (first | (with_reducible exact Nat.le_refl _) | (with_reducible assumption) | omega | (simp <;> omega))) (by simp [go_sem, *])
            have nr3 := cellK (g := w.heap.size + 1 + 1) (i := 3) (v := .int .i64 0) hb2 (by (first | (with_reducible exact Nat.le_refl _) | (with_reducible assumption) | omega | (simp <;> omega))) (by simp [go_sem, *])
            have nr4 := cellK (g := w.heap.size + 1 + 1) (i := 4) (v := .bool false) hb2 (by (first | (with_reducible exact Nat.le_refl _) | (with_reducible assumption) | omega | (simp <;> omega))) (by simp [go_sem, *])
            have nr5 := cellK (g := w.heap.size + 1 + 1) (i := 5) (v := .bool false) hb2 (by (first | (with_reducible exact Nat.le_refl _) | (with_reducible assumption) | omega | (simp <;> omega))) (by simp [go_sem, *])
            have nof0 := frozK (g := w.heap.size + 1 + 1 + 1) (i := 0) hb2 (by (first | (with_reducible exact Nat.le_refl _) | (with_reducible assumption) | omega | (simp <;> omega))) (by simp [go_sem, *])
            have nof1 := frozK (g := w.heap.size + 1 + 1 + 1) (i := 1) hb2 (by (first | (with_reducible exact Nat.le_refl _) | (with_reducible assumption) | omega | (simp <;> omega))) (by simp [go_sem, *])
            have nof2 := frozK (g := w.heap.size + 1 + 1 + 1) (i := 2) hb2 (by (first | (with_reducible exact Nat.le_refl _) | (with_reducible assumption) | omega | (simp <;> omega))) (by simp [go_sem, *])
            have nof3 := frozK (g := w.heap.size + 1 + 1 + 1) (i := 3) hb2 (by (first | (with_reducible exact Nat.le_refl _) | (with_reducible assumption) | omega | (simp <;> omega))) (by simp [go_sem, *])
            have no0 := cellK (g := w.heap.size + 1 + 1 + 1) (i := 0) (v := .int .i64 0) hb2 (by (first | (with_reducible exact Nat.le_refl _) | (with_reducible assumption) | omega | (simp <;> omega))) (by simp [go_sem, *])
            have no1 := cellK (g := w.heap.size + 1 + 1 + 1) (i := 1) (v := .slice none 0 0) hb2 (by (first | (with_reducible exact Nat.le_refl _) | (with_reducible assumption) | omega | (simp <;> omega))) (by simp [go_sem, *])
            have no2 := cellK (g := w.heap.size + 1 + 1 + 1) (i := 2) (v := .bool false) hb2 (by (first | (with_reducible exact Nat.le_refl _) | (with_reducible assumption) | omega | (simp <;> omega))) (by simp [go_sem, *])
            have no3 := cellK (g := w.heap.size + 1 + 1 + 1) (i := 3) (v := .bool false) hb2 (by (first | (with_reducible exact Nat.le_refl _) | (with_reducible assumption) | omega | (simp <;> omega))) (by simp [go_sem, *])
            clear kb0 kb1 kb2 kb3 kb4 kb5 ki0 ki1 ki2 ki3 kr0 kr1 kr2 kr3 kr4 kr5 ko0 ko1 ko2 ko3 kbf0 kbf1 kbf2 kbf3 kbf4 kbf5 krf0 krf1 krf2 krf3 krf4 krf5 kof0 kof1 kof2 kof3
            have kb0 := nb0
            have kb1 := nb1
            have kb2 := nb2
            have kb3 := nb3
            have kb4 := nb4
            have kb5 := nb5
            have ki0 := ni0
            have ki1 := ni1
            have ki2 := ni2
            have ki3 := ni3
            have kr0 := nr0
            have kr1 := nr1
            have kr2 := nr2
            have kr3 := nr3
            have kr4 := nr4
            have kr5 := nr5
            have ko0 := no0
            have ko1 := no1
            have ko2 := no2
            have ko3 := no3
            have kbf0 := nbf0
            have kbf1 := nbf1
            have kbf2 := nbf2
            have kbf3 := nbf3
            have kbf4 := nbf4
            have kbf5 := nbf5
            have krf0 := nrf0
            have krf1 := nrf1
            have krf2 := nrf2
            have krf3 := nrf3
            have krf4 := nrf4
            have krf5 := nrf5
            have kof0 := nof0
            have kof1 := nof1
            have kof2 := nof2
            have kof3 := nof3
            clear nb0 nb1 nb2 nb3 nb4 nb5 ni0 ni1 ni2 ni3 nr0 nr1 nr2 nr3 nr4 nr5 no0 no1 no2 no3 nbf0 nbf1 nbf2 nbf3 nbf4 nbf5 nrf0 nrf1 nrf2 nrf3 nrf4 nrf5 nof0 nof1 nof2 nof3
            have l0 : w.heap.size < w2.heap.size := by omega
            have l1 : w.heap.size + 1 < w2.heap.size := by omega
            have l2 : w.heap.size + 1 + 1 < w2.heap.size := by omega
            have l3 : w.heap.size + 1 + 1 + 1 < w2.heap.size := by omega
            clear hb2 hB1 hs1
            go_wp2_with fail
            obtain ⟨Ah, ch, hvh, hH⟩ := HL.out
            have hH2 : Hid (Has w A bs.length 1 (byteVals bs)) := by
              simp only [Value.agg.injEq, Array.mk.injEq, List.cons.injEq, Value.slice.injEq, and_true, true_and] at hvh
              obtain ⟨rfl, rfl⟩ := hvh
              exact hH
            clear hH hvh
            go_region_held3 (fun w' => w'.cell? ⟨w.heap.size, 0, none⟩ = some (.int .i64 f) ∧ w'.cell? ⟨w.heap.size, 1, none⟩ = some (.int .i64 t) ∧ w'.cell? ⟨w.heap.size, 2, none⟩ = some (.int .i64 c) ∧ w'.cell? ⟨w.heap.size, 3, none⟩ = some (.int .i64 (n + 1)) ∧ w'.cell? ⟨w.heap.size, 4, none⟩ = some (.bool s) ∧ w'.cell? ⟨w.heap.size, 5, none⟩ = some (.bool x) ∧ w'.cell? ⟨w.heap.size + 1, 1, none⟩ = some (.slice A bs.length cc) ∧ w'.cell? ⟨w.heap.size + 1, 3, none⟩ = some (.bool false)) (simp [go_sem, *]) (first | (go_at_call 67; refine (clone_any A bs.length cc bs _ (hH2.out.below (by (repeat' (first | (with_reducible exact Below.refl _ _) | (with_reducible assumption) | (with_reducible refine Below.alloc ?_ ?_ _) | (with_reducible refine Below.drew ?_) | (with_reducible refine below_drewN ?_ _) | (with_reducible refine Below.setCell ?_ ?_ _) | (with_reducible exact Nat.le_refl _) | omega | (simp <;> omega))))) hn).mono ?_; rintro e w3 ⟨A3, c3, rfl, hown, hb3⟩; have hs3 := hb3.size; simp only [World.size_setCell, World.size_drew] at hs3 hown; have hB3 := (show Below w.heap.size w _ by (repeat' (first | (with_reducible exact Below.refl _ _) | (with_reducible assumption) | (with_reducible refine Below.alloc ?_ ?_ _) | (with_reducible refine Below.drew ?_) | (with_reducible refine below_drewN ?_ _) | (with_reducible refine Below.setCell ?_ ?_ _) | (with_reducible exact Nat.le_refl _) | omega | (simp <;> omega)))).trans (hb3.mono (show w.heap.size ≤ _ by (first | (with_reducible exact Nat.le_refl _) | (with_reducible assumption) | omega | (simp <;> omega)))); have sb0 := cellK (g := w.heap.size) (i := 0) (v := .int .i64 f) hb3 (by (first | (with_reducible exact Nat.le_refl _) | (with_reducible assumption) | omega | (simp <;> omega))) (by simp [go_sem, *]); have sb1 := cellK (g := w.heap.size) (i := 1) (v := .int .i64 t) hb3 (by (first | (with_reducible exact Nat.le_refl _) | (with_reducible assumption) | omega | (simp <;> omega))) (by simp [go_sem, *]); have sb2 := cellK (g := w.heap.size) (i := 2) (v := .int .i64 c) hb3 (by (first | (with_reducible exact Nat.le_refl _) | (with_reducible assumption) | omega | (simp <;> omega))) (by simp [go_sem, *]); have sb3 := cellK (g := w.heap.size) (i := 3) (v := .int .i64 (n + 1)) hb3 (by (first | (with_reducible exact Nat.le_refl _) | (with_reducible assumption) | omega | (simp <;> omega))) (by simp [go_sem, *]); have sb4 := cellK (g := w.heap.size) (i := 4) (v := .bool s) hb3 (by (first | (with_reducible exact Nat.le_refl _) | (with_reducible assumption) | omega | (simp <;> omega))) (by simp [go_sem, *]); have sb5 := cellK (g := w.heap.size) (i := 5) (v := .bool x) hb3 (by (first | (with_reducible exact Nat.le_refl _) | (with_reducible assumption) | omega | (simp <;> omega))) (by simp [go_sem, *]); have si0 := cellK (g := w.heap.size + 1) (i := 0) (v := .int .i64 (f + n)) hb3 (by (first | (with_reducible exact Nat.le_refl _) | (with_reducible assumption) | omega | (simp <;> omega))) (by simp [go_sem, *]); have si1 := cellK (g := w.heap.size + 1) (i := 1) (v := .slice A bs.length cc) hb3 (by (first | (with_reducible exact Nat.le_refl _) | (with_reducible assumption) | omega | (simp <;> omega))) (by simp [go_sem, *]); have si2 := cellK (g := w.heap.size + 1) (i := 2) (v := .bool d) hb3 (by (first | (with_reducible exact Nat.le_refl _) | (with_reducible assumption) | omega | (simp <;> omega))) (by simp [go_sem, *]); have si3 := cellK (g := w.heap.size + 1) (i := 3) (v := .bool false) hb3 (by (first | (with_reducible exact Nat.le_refl _) | (with_reducible assumption) | omega | (simp <;> omega))) (by simp [go_sem, *]); have sr0 := cellK (g := w.heap.size + 1 + 1) (i := 0) (v := .int .i64 0) hb3 (by (first | (with_reducible exact Nat.le_refl _) | (with_reducible assumption) | omega | (simp <;> omega))) (by simp [go_sem, *]); have srf0 := frozK (g := w.heap.size + 1 + 1) (i := 0) hb3 (by (first | (with_reducible exact Nat.le_refl _) | (with_reducible assumption) | omega | (simp <;> omega))) (by simp [go_sem, *]); have sr1 := cellK (g := w.heap.size + 1 + 1) (i := 1) (v := .int .i64 0) hb3 (by (first | (with_reducible exact Nat.le_refl _) | (with_reducible assumption) | omega | (simp <;> omega))) (by simp [go_sem, *]); have srf1 := frozK (g := w.heap.size + 1 + 1) (i := 1) hb3 (by (first | (with_reducible exact Nat.le_refl _) | (with_reducible assumption) | omega | (simp <;> omega))) (by simp [go_sem, *]); have sr2 := cellK (g := w.heap.size + 1 + 1) (i := 2) (v := .int .i64 0) hb3 (by (first | (with_reducible exact Nat.le_refl _) | (with_reducible assumption) | omega | (simp <;> omega))) (by simp [go_sem, *]); have srf2 := frozK (g := w.heap.size + 1 + 1) (i := 2) hb3 (by (first | (with_reducible exact Nat.le_refl _) | (with_reducible assumption) | omega | (simp <;> omega))) (by simp [go_sem, *]); have sr3 := cellK (g := w.heap.size + 1 + 1) (i := 3) (v := .int .i64 0) hb3 (by (first | (with_reducible exact Nat.le_refl _) | (with_reducible assumption) | omega | (simp <;> omega))) (by simp [go_sem, *]); have srf3 := frozK (g := w.heap.size + 1 + 1) (i := 3) hb3 (by (first | (with_reducible exact Nat.le_refl _) | (with_reducible assumption) | omega | (simp <;> omega))) (by simp [go_sem, *]); have sr4 := cellK (g := w.heap.size + 1 + 1) (i := 4) (v := .bool false) hb3 (by (first | (with_reducible exact Nat.le_refl _) | (with_reducible assumption) | omega | (simp <;> omega))) (by simp [go_sem, *]); have srf4 := frozK (g := w.heap.size + 1 + 1) (i := 4) hb3 (by (first | (with_reducible exact Nat.le_refl _) | (with_reducible assumption) | omega | (simp <;> omega))) (by simp [go_sem, *]); have sr5 := cellK (g := w.heap.size + 1 + 1) (i := 5) (v := .bool false) hb3 (by (first | (with_reducible exact Nat.le_refl _) | (with_reducible assumption) | omega | (simp <;> omega))) (by simp [go_sem, *]); have srf5 := frozK (g := w.heap.size + 1 + 1) (i := 5) hb3 (by (first | (with_reducible exact Nat.le_refl _) | (with_reducible assumption) | omega | (simp <;> omega))) (by simp [go_sem, *]); have so0 := cellK (g := w.heap.size + 1 + 1 + 1) (i := 0) (v := .int .i64 0) hb3 (by (first | (with_reducible exact Nat.le_refl _) | (with_reducible assumption) | omega | (simp <;> omega))) (by simp [go_sem, *]); have sof0 := frozK (g := w.heap.size + 1 + 1 + 1) (i := 0) hb3 (by (first | (with_reducible exact Nat.le_refl _) | (with_reducible assumption) | omega | (simp <;> omega))) (by simp [go_sem, *]); have so1 := cellK (g := w.heap.size + 1 + 1 + 1) (i := 1) (v := .slice none 0 0) hb3 (by (first | (with_reducible exact Nat.le_refl _) | (with_reducible assumption) | omega | (simp <;> omega))) (by simp [go_sem, *]); have sof1 := frozK (g := w.heap.size + 1 + 1 + 1) (i := 1) hb3 (by (first | (with_reducible exact Nat.le_refl _) | (with_reducible assumption) | omega | (simp <;> omega))) (by simp [go_sem, *]); have so2 := cellK (g := w.heap.size + 1 + 1 + 1) (i := 2) (v := .bool false) hb3 (by (first | (with_reducible exact Nat.le_refl _) | (with_reducible assumption) | omega | (simp <;> omega))) (by simp [go_sem, *]); have sof2 := frozK (g := w.heap.size + 1 + 1 + 1) (i := 2) hb3 (by (first | (with_reducible exact Nat.le_refl _) | (with_reducible assumption) | omega | (simp <;> omega))) (by simp [go_sem, *]); have so3 := cellK (g := w.heap.size + 1 + 1 + 1) (i := 3) (v := .bool false) hb3 (by (first | (with_reducible exact Nat.le_refl _) | (with_reducible assumption) | omega | (simp <;> omega))) (by simp [go_sem, *]); have sof3 := frozK (g := w.heap.size + 1 + 1 + 1) (i := 3) hb3 (by (first | (with_reducible exact Nat.le_refl _) | (with_reducible assumption) | omega | (simp <;> omega))) (by simp [go_sem, *])))
            have hB2s := hB2.size
            go_wp2_with fail
            refine bodyPost_ret (v := .tuple #[.agg #[.int .i64 f, .int .i64 t, .int .i64 c, .int .i64 (n + 1), .bool s, .bool x], .agg #[.int .i64 (t + n), .slice A3 bs.length c3, .bool true, .bool false], .int .i64 0]) (by simp [results, Try.results47, go_sem, *]) rfl ?_
            refine ⟨_, rfl, ⟨A3, c3, rfl, ?_⟩, by (repeat' (first | (with_reducible exact Below.refl _ _) | (with_reducible assumption) | (with_reducible refine Below.alloc ?_ ?_ _) | (with_reducible refine Below.drew ?_) | (with_reducible refine below_drewN ?_ _) | (with_reducible refine Below.setCell ?_ ?_ _) | (with_reducible exact Nat.le_refl _) | omega | (simp <;> omega)))⟩
            refine ownsRow_base (B := w2.heap.size) ?_ (by omega)
            (repeat' (first | (with_reducible assumption) | (with_reducible refine own_put ?_ ?_ _) | (with_reducible refine own_new ?_ _) | (with_reducible refine own_drew ?_) | (with_reducible refine own_drewN ?_ _) | omega))
          · have htok : True := trivial
            obtain rfl : s = false := by simpa using hps'
            go_enter Try.func47, Try.ntmps47
            go_wp2_with fail
            refine (dnext_any _ _ _ _ _ _ _ h0).mono ?_
            simp only [nextA, nextB, HLV.out, if_true]
            rintro e w1 ⟨rfl, hb1⟩
            have hs1 := hb1.size
            simp only [World.size_alloc] at hs1
            have hB1 := (show Below w.heap.size w _ by (repeat' (first | (with_reducible exact Below.refl _ _) | (with_reducible assumption) | (with_reducible refine Below.alloc ?_ ?_ _) | (with_reducible refine Below.drew ?_) | (with_reducible refine below_drewN ?_ _) | (with_reducible refine Below.setCell ?_ ?_ _) | (with_reducible exact Nat.le_refl _) | omega | (simp <;> omega)))).trans (hb1.mono (show w.heap.size ≤ _ by (first | (with_reducible exact Nat.le_refl _) | (with_reducible assumption) | omega | (simp <;> omega))))
            have nbf0 := frozK (g := w.heap.size) (i := 0) hb1 (by (first | (with_reducible exact Nat.le_refl _) | (with_reducible assumption) | omega | (simp <;> omega))) (by simp [go_sem, *])
            have nbf1 := frozK (g := w.heap.size) (i := 1) hb1 (by (first | (with_reducible exact Nat.le_refl _) | (with_reducible assumption) | omega | (simp <;> omega))) (by simp [go_sem, *])
            have nbf2 := frozK (g := w.heap.size) (i := 2) hb1 (by (first | (with_reducible exact Nat.le_refl _) | (with_reducible assumption) | omega | (simp <;> omega))) (by simp [go_sem, *])
            have nbf3 := frozK (g := w.heap.size) (i := 3) hb1 (by (first | (with_reducible exact Nat.le_refl _) | (with_reducible assumption) | omega | (simp <;> omega))) (by simp [go_sem, *])
            have nbf4 := frozK (g := w.heap.size) (i := 4) hb1 (by (first | (with_reducible exact Nat.le_refl _) | (with_reducible assumption) | omega | (simp <;> omega))) (by simp [go_sem, *])
            have nbf5 := frozK (g := w.heap.size) (i := 5) hb1 (by (first | (with_reducible exact Nat.le_refl _) | (with_reducible assumption) | omega | (simp <;> omega))) (by simp [go_sem, *])
            have nb0 := cellK (g := w.heap.size) (i := 0) (v := .int .i64 f) hb1 (by (first | (with_reducible exact Nat.le_refl _) | (with_reducible assumption) | omega | (simp <;> omega))) (by simp [go_sem, *])
            have nb1 := cellK (g := w.heap.size) (i := 1) (v := .int .i64 t) hb1 (by (first | (with_reducible exact Nat.le_refl _) | (with_reducible assumption) | omega | (simp <;> omega))) (by simp [go_sem, *])
            have nb2 := cellK (g := w.heap.size) (i := 2) (v := .int .i64 c) hb1 (by (first | (with_reducible exact Nat.le_refl _) | (with_reducible assumption) | omega | (simp <;> omega))) (by simp [go_sem, *])
            have nb3 := cellK (g := w.heap.size) (i := 3) (v := .int .i64 n) hb1 (by (first | (with_reducible exact Nat.le_refl _) | (with_reducible assumption) | omega | (simp <;> omega))) (by simp [go_sem, *])
            have nb4 := cellK (g := w.heap.size) (i := 4) (v := .bool false) hb1 (by (first | (with_reducible exact Nat.le_refl _) | (with_reducible assumption) | omega | (simp <;> omega))) (by simp [go_sem, *])
            have nb5 := cellK (g := w.heap.size) (i := 5) (v := .bool x) hb1 (by (first | (with_reducible exact Nat.le_refl _) | (with_reducible assumption) | omega | (simp <;> omega))) (by simp [go_sem, *])
            have ni0 := cellK (g := w.heap.size + 1) (i := 0) (v := .int .i64 (f + n)) hb1 (by (first | (with_reducible exact Nat.le_refl _) | (with_reducible assumption) | omega | (simp <;> omega))) (by simp [go_sem, *])
            have ni1 := cellK (g := w.heap.size + 1) (i := 1) (v := .slice A bs.length cc) hb1 (by (first | (with_reducible exact Nat.le_refl _) | (with_reducible assumption) | omega | (simp <;> omega))) (by simp [go_sem, *])
            have ni2 := cellK (g := w.heap.size + 1) (i := 2) (v := .bool d) hb1 (by (first | (with_reducible exact Nat.le_refl _) | (with_reducible assumption) | omega | (simp <;> omega))) (by simp [go_sem, *])
            have ni3 := cellK (g := w.heap.size + 1) (i := 3) (v := .bool true) hb1 (by (first | (with_reducible exact Nat.le_refl _) | (with_reducible assumption) | omega | (simp <;> omega))) (by simp [go_sem, *])
            have nrf0 := frozK (g := w.heap.size + 1 + 1) (i := 0) hb1 (by (first | (with_reducible exact Nat.le_refl _) | (with_reducible assumption) | omega | (simp <;> omega))) (by simp [go_sem, *])
            have nrf1 := frozK (g := w.heap.size + 1 + 1) (i := 1) hb1 (by (first | (with_reducible exact Nat.le_refl _) | (with_reducible assumption) | omega | (simp <;> omega))) (by simp [go_sem, *])
            have nrf2 := frozK (g := w.heap.size + 1 + 1) (i := 2) hb1 (by (first | (with_reducible exact Nat.le_refl _) | (with_reducible assumption) | omega | (simp <;> omega))) (by simp [go_sem, *])
            have nrf3 := frozK (g := w.heap.size + 1 + 1) (i := 3) hb1 (by (first | (with_reducible exact Nat.le_refl _) | (with_reducible assumption) | omega | (simp <;> omega))) (by simp [go_sem, *])
            have nrf4 := frozK (g := w.heap.size + 1 + 1) (i := 4) hb1 (by (first | (with_reducible exact Nat.le_refl _) | (with_reducible assumption) | omega | (simp <;> omega))) (by simp [go_sem, *])
            have nrf5 := frozK (g := w.heap.size + 1 + 1) (i := 5) hb1 (by (first | (with_reducible exact Nat.le_refl _) | (with_reducible assumption) | omega | (simp <;> omega))) (by simp [go_sem, *])
            have nr0 := cellK (g := w.heap.size + 1 + 1) (i := 0) (v := .int .i64 0) hb1 (by (first | (with_reducible exact Nat.le_refl _) | (with_reducible assumption) | omega | (simp <;> omega))) (by simp [go_sem, *])
            have nr1 := cellK (g := w.heap.size + 1 + 1) (i := 1) (v := .int .i64 0) hb1 (by (first | (with_reducible exact Nat.le_refl _) | (with_reducible assumption) | omega | (simp <;> omega))) (by simp [go_sem, *])
            have nr2 := cellK (g := w.heap.size + 1 + 1) (i := 2) (v := .int .i64 0) hb1 (by (first | (with_reducible exact Nat.le_refl _) | (with_reducible assumption) | omega | (simp <;> omega))) (by simp [go_sem, *])
            have nr3 := cellK (g := w.heap.size + 1 + 1) (i := 3) (v := .int .i64 0) hb1 (by (first | (with_reducible exact Nat.le_refl _) | (with_reducible assumption) | omega | (simp <;> omega))) (by simp [go_sem, *])
            have nr4 := cellK (g := w.heap.size + 1 + 1) (i := 4) (v := .bool false) hb1 (by (first | (with_reducible exact Nat.le_refl _) | (with_reducible assumption) | omega | (simp <;> omega))) (by simp [go_sem, *])
            have nr5 := cellK (g := w.heap.size + 1 + 1) (i := 5) (v := .bool false) hb1 (by (first | (with_reducible exact Nat.le_refl _) | (with_reducible assumption) | omega | (simp <;> omega))) (by simp [go_sem, *])
            have nof0 := frozK (g := w.heap.size + 1 + 1 + 1) (i := 0) hb1 (by (first | (with_reducible exact Nat.le_refl _) | (with_reducible assumption) | omega | (simp <;> omega))) (by simp [go_sem, *])
            have nof1 := frozK (g := w.heap.size + 1 + 1 + 1) (i := 1) hb1 (by (first | (with_reducible exact Nat.le_refl _) | (with_reducible assumption) | omega | (simp <;> omega))) (by simp [go_sem, *])
            have nof2 := frozK (g := w.heap.size + 1 + 1 + 1) (i := 2) hb1 (by (first | (with_reducible exact Nat.le_refl _) | (with_reducible assumption) | omega | (simp <;> omega))) (by simp [go_sem, *])
            have nof3 := frozK (g := w.heap.size + 1 + 1 + 1) (i := 3) hb1 (by (first | (with_reducible exact Nat.le_refl _) | (with_reducible assumption) | omega | (simp <;> omega))) (by simp [go_sem, *])
            have no0 := cellK (g := w.heap.size + 1 + 1 + 1) (i := 0) (v := .int .i64 0) hb1 (by (first | (with_reducible exact Nat.le_refl _) | (with_reducible assumption) | omega | (simp <;> omega))) (by simp [go_sem, *])
            have no1 := cellK (g := w.heap.size + 1 + 1 + 1) (i := 1) (v := .slice none 0 0) hb1 (by (first | (with_reducible exact Nat.le_refl _) | (with_reducible assumption) | omega | (simp <;> omega))) (by simp [go_sem, *])
            have no2 := cellK (g := w.heap.size + 1 + 1 + 1) (i := 2) (v := .bool false) hb1 (by (first | (with_reducible exact Nat.le_refl _) | (with_reducible assumption) | omega | (simp <;> omega))) (by simp [go_sem, *])
            have no3 := cellK (g := w.heap.size + 1 + 1 + 1) (i := 3) (v := .bool false) hb1 (by (first | (with_reducible exact Nat.le_refl _) | (with_reducible assumption) | omega | (simp <;> omega))) (by simp [go_sem, *])
            have kb0 := nb0
            have kb1 := nb1
            have kb2 := nb2
            have kb3 := nb3
            have kb4 := nb4
            have kb5 := nb5
            have ki0 := ni0
            have ki1 := ni1
            have ki2 := ni2
            have ki3 := ni3
            have kr0 := nr0
            have kr1 := nr1
            have kr2 := nr2
            have kr3 := nr3
            have kr4 := nr4
            have kr5 := nr5
            have ko0 := no0
            have ko1 := no1
            have ko2 := no2
            have ko3 := no3
            have kbf0 := nbf0
            have kbf1 := nbf1
            have kbf2 := nbf2
            have kbf3 := nbf3
            have kbf4 := nbf4
            have kbf5 := nbf5
            have krf0 := nrf0
            have krf1 := nrf1
            have krf2 := nrf2
            have krf3 := nrf3
            have krf4 := nrf4
            have krf5 := nrf5
            have kof0 := nof0
            have kof1 := nof1
            have kof2 := nof2
            have kof3 := nof3
            clear nb0 nb1 nb2 nb3 nb4 nb5 ni0 ni1 ni2 ni3 nr0 nr1 nr2 nr3 nr4 nr5 no0 no1 no2 no3 nbf0 nbf1 nbf2 nbf3 nbf4 nbf5 nrf0 nrf1 nrf2 nrf3 nrf4 nrf5 nof0 nof1 nof2 nof3
            clear hb1
            go_wp2_with fail
            refine (dvalid_any _ _ _ _ _ _ _ h0).mono ?_
            rewrite [HV.out]
            rintro e w2 ⟨rfl, hb2⟩
            have hs2 := hb2.size
            have hB2 := hB1.trans (hb2.mono hB1.size)
            have nbf0 := frozK (g := w.heap.size) (i := 0) hb2 (by (first | (with_reducible exact Nat.le_refl _) | (with_reducible assumption) | omega | (simp <;> omega))) (by simp [go_sem, *])
            have nbf1 := frozK (g := w.heap.size) (i := 1) hb2 (by (first | (with_reducible exact Nat.le_refl _) | (with_reducible assumption) | omega | (simp <;> omega))) (by simp [go_sem, *])
            have nbf2 := frozK (g := w.heap.size) (i := 2) hb2 (by (first | (with_reducible exact Nat.le_refl _) | (with_reducible assumption) | omega | (simp <;> omega))) (by simp [go_sem, *])
            have nbf3 := frozK (g := w.heap.size) (i := 3) hb2 (by (first | (with_reducible exact Nat.le_refl _) | (with_reducible assumption) | omega | (simp <;> omega))) (by simp [go_sem, *])
            have nbf4 := frozK (g := w.heap.size) (i := 4) hb2 (by (first | (with_reducible exact Nat.le_refl _) | (with_reducible assumption) | omega | (simp <;> omega))) (by simp [go_sem, *])
            have nbf5 := frozK (g := w.heap.size) (i := 5) hb2 (by (first | (with_reducible exact Nat.le_refl _) | (with_reducible assumption) | omega | (simp <;> omega))) (by simp [go_sem, *])
            have nb0 := cellK (g := w.heap.size) (i := 0) (v := .int .i64 f) hb2 (by (first | (with_reducible exact Nat.le_refl _) | (with_reducible assumption) | omega | (simp <;> omega))) (by simp [go_sem, *])
            have nb1 := cellK (g := w.heap.size) (i := 1) (v := .int .i64 t) hb2 (by (first | (with_reducible exact Nat.le_refl _) | (with_reducible assumption) | omega | (simp <;> omega))) (by simp [go_sem, *])
            have nb2 := cellK (g := w.heap.size) (i := 2) (v := .int .i64 c) hb2 (by (first | (with_reducible exact Nat.le_refl _) | (with_reducible assumption) | omega | (simp <;> omega))) (by simp [go_sem, *])
            have nb3 := cellK (g := w.heap.size) (i := 3) (v := .int .i64 n) hb2 (by (first | (with_reducible exact Nat.le_refl _) | (with_reducible assumption) | omega | (simp <;> omega))) (by simp [go_sem, *])
            have nb4 := cellK (g := w.heap.size) (i := 4) (v := .bool false) hb2 (by (first | (with_reducible exact Nat.le_refl _) | (with_reducible assumption) | omega | (simp <;> omega))) (by simp [go_sem, *])
            have nb5 := cellK (g := w.heap.size) (i := 5) (v := .bool x) hb2 (by (first | (with_reducible exact Nat.le_refl _) | (with_reducible assumption) | omega | (simp <;> omega))) (by simp [go_sem, *])
            have ni0 := cellK (g := w.heap.size + 1) (i := 0) (v := .int .i64 (f + n)) hb2 (by (first | (with_reducible exact Nat.le_refl _) | (with_reducible assumption) | omega | (simp <;> omega))) (by simp [go_sem, *])
            have ni1 := cellK (g := w.heap.size + 1) (i := 1) (v := .slice A bs.length cc) hb2 (by (first | (with_reducible exact Nat.le_refl _) | (with_reducible assumption) | omega | (simp <;> omega))) (by simp [go_sem, *])
            have ni2 := cellK (g := w.heap.size + 1) (i := 2) (v := .bool d) hb2 (by (first | (with_reducible exact Nat.le_refl _) | (with_reducible assumption) | omega | (simp <;> omega))) (by simp [go_sem, *])
            have ni3 := cellK (g := w.heap.size + 1) (i := 3) (v := .bool true) hb2 (by (first | (with_reducible exact Nat.le_refl _) | (with_reducible assumption) | omega | (simp <;> omega))) (by simp [go_sem, *])
            have nrf0 := frozK (g := w.heap.size + 1 + 1) (i := 0) hb2 (by (first | (with_reducible exact Nat.le_refl _) | (with_reducible assumption) | omega | (simp <;> omega))) (by simp [go_sem, *])
            have nrf1 := frozK (g := w.heap.size + 1 + 1) (i := 1) hb2 (by (first | (with_reducible exact Nat.le_refl _) | (with_reducible assumption) | omega | (simp <;> omega))) (by simp [go_sem, *])
            have nrf2 := frozK (g := w.heap.size + 1 + 1) (i := 2) hb2 (by (first | (with_reducible exact Nat.le_refl _) | (with_reducible assumption) | omega | (simp <;> omega))) (by simp [go_sem, *])
            have nrf3 := frozK (g := w.heap.size + 1 + 1) (i := 3) hb2 (by (first | (with_reducible exact Nat.le_refl _) | (with_reducible assumption) | omega | (simp <;> omega))) (by simp [go_sem, *])
            have nrf4 := frozK (g := w.heap.size + 1 + 1) (i := 4) hb2 (by (first | (with_reducible exact Nat.le_refl _) | (with_reducible assumption) | omega | (simp <;> omega))) (by simp [go_sem, *])
            have nrf5 := frozK (g := w.heap.size + 1 + 1) (i := 5) hb2 (by (first | (with_reducible exact Nat.le_refl _) | (with_reducible assumption) | omega | (simp <;> omega))) (by simp [go_sem, *])
            have nr0 := cellK (g := w.heap.size + 1 + 1) (i := 0) (v := .int .i64 0) hb2 (by (first | (with_reducible exact Nat.le_refl _) | (with_reducible assumption) | omega | (simp <;> omega))) (by simp [go_sem, *])
            have nr1 := cellK (g := w.heap.size + 1 + 1) (i := 1) (v := .int .i64 0) hb2 (by (first | (with_reducible exact Nat.le_refl _) | (with_reducible assumption) | omega | (simp <;> omega))) (by simp [go_sem, *])
            have nr2 := cellK (g := w.heap.size + 1 + 1) (i := 2) (v := .int .i64 0) hb2 (by (first | (with_reducible exact Nat.le_refl _) | (with_reducible assumption) | omega | (simp <;> omega))) (by simp [go_sem, *])
            have nr3 := cellK (g := w.heap.size + 1 + 1) (i := 3) (v := .int .i64 0) hb2 (by (first | (with_reducible exact Nat.le_refl _) | (with_reducible assumption) | omega | (simp <;> omega))) (by simp [go_sem, *])
            have nr4 := cellK (g := w.heap.size + 1 + 1) (i := 4) (v := .bool false) hb2 (by (first | (with_reducible exact Nat.le_refl _) | (with_reducible assumption) | omega | (simp <;> omega))) (by simp [go_sem, *])
            have nr5 := cellK (g := w.heap.size + 1 + 1) (i := 5) (v := .bool false) hb2 (by (first | (with_reducible exact Nat.le_refl _) | (with_reducible assumption) | omega | (simp <;> omega))) (by simp [go_sem, *])
            have nof0 := frozK (g := w.heap.size + 1 + 1 + 1) (i := 0) hb2 (by (first | (with_reducible exact Nat.le_refl _) | (with_reducible assumption) | omega | (simp <;> omega))) (by simp [go_sem, *])
            have nof1 := frozK (g := w.heap.size + 1 + 1 + 1) (i := 1) hb2 (by (first | (with_reducible exact Nat.le_refl _) | (with_reducible assumption) | omega | (simp <;> omega))) (by simp [go_sem, *])
            have nof2 := frozK (g := w.heap.size + 1 + 1 + 1) (i := 2) hb2 (by (first | (with_reducible exact Nat.le_refl _) | (with_reducible assumption) | omega | (simp <;> omega))) (by simp [go_sem, *])
            have nof3 := frozK (g := w.heap.size + 1 + 1 + 1) (i := 3) hb2 (by (first | (with_reducible exact Nat.le_refl _) | (with_reducible assumption) | omega | (simp <;> omega))) (by simp [go_sem, *])
            have no0 := cellK (g := w.heap.size + 1 + 1 + 1) (i := 0) (v := .int .i64 0) hb2 (by (first | (with_reducible exact Nat.le_refl _) | (with_reducible assumption) | omega | (simp <;> omega))) (by simp [go_sem, *])
            have no1 := cellK (g := w.heap.size + 1 + 1 + 1) (i := 1) (v := .slice none 0 0) hb2 (by (first | (with_reducible exact Nat.le_refl _) | (with_reducible assumption) | omega | (simp <;> omega))) (by simp [go_sem, *])
            have no2 := cellK (g := w.heap.size + 1 + 1 + 1) (i := 2) (v := .bool false) hb2 (by (first | (with_reducible exact Nat.le_refl _) | (with_reducible assumption) | omega | (simp <;> omega))) (by simp [go_sem, *])
            have no3 := cellK (g := w.heap.size + 1 + 1 + 1) (i := 3) (v := .bool false) hb2 (by (first | (with_reducible exact Nat.le_refl _) | (with_reducible assumption) | omega | (simp <;> omega))) (by simp [go_sem, *])
            clear kb0 kb1 kb2 kb3 kb4 kb5 ki0 ki1 ki2 ki3 kr0 kr1 kr2 kr3 kr4 kr5 ko0 ko1 ko2 ko3 kbf0 kbf1 kbf2 kbf3 kbf4 kbf5 krf0 krf1 krf2 krf3 krf4 krf5 kof0 kof1 kof2 kof3
            have kb0 := nb0
            have kb1 := nb1
            have kb2 := nb2
            have kb3 := nb3
            have kb4 := nb4
            have kb5 := nb5
            have ki0 := ni0
            have ki1 := ni1
            have ki2 := ni2
            have ki3 := ni3
            have kr0 := nr0
            have kr1 := nr1
            have kr2 := nr2
            have kr3 := nr3
            have kr4 := nr4
            have kr5 := nr5
            have ko0 := no0
            have ko1 := no1
            have ko2 := no2
            have ko3 := no3
            have kbf0 := nbf0
            have kbf1 := nbf1
            have kbf2 := nbf2
            have kbf3 := nbf3
            have kbf4 := nbf4
            have kbf5 := nbf5
            have krf0 := nrf0
            have krf1 := nrf1
            have krf2 := nrf2
            have krf3 := nrf3
            have krf4 := nrf4
            have krf5 := nrf5
            have kof0 := nof0
            have kof1 := nof1
            have kof2 := nof2
            have kof3 := nof3
            clear nb0 nb1 nb2 nb3 nb4 nb5 ni0 ni1 ni2 ni3 nr0 nr1 nr2 nr3 nr4 nr5 no0 no1 no2 no3 nbf0 nbf1 nbf2 nbf3 nbf4 nbf5 nrf0 nrf1 nrf2 nrf3 nrf4 nrf5 nof0 nof1 nof2 nof3
            have l0 : w.heap.size < w2.heap.size := by omega
            have l1 : w.heap.size + 1 < w2.heap.size := by omega
            have l2 : w.heap.size + 1 + 1 < w2.heap.size := by omega
            have l3 : w.heap.size + 1 + 1 + 1 < w2.heap.size := by omega
            clear hb2 hB1 hs1
            go_wp2_with fail
            obtain ⟨Ah, ch, hvh, hH⟩ := HL.out
            have hH2 : Hid (Has w A bs.length 1 (byteVals bs)) := by
              simp only [Value.agg.injEq, Array.mk.injEq, List.cons.injEq, Value.slice.injEq, and_true, true_and] at hvh
              obtain ⟨rfl, rfl⟩ := hvh
              exact hH
            clear hH hvh
            go_region_held3 (fun w' => w'.cell? ⟨w.heap.size, 0, none⟩ = some (.int .i64 f) ∧ w'.cell? ⟨w.heap.size, 1, none⟩ = some (.int .i64 t) ∧ w'.cell? ⟨w.heap.size, 2, none⟩ = some (.int .i64 c) ∧ w'.cell? ⟨w.heap.size, 3, none⟩ = some (.int .i64 (n + 1)) ∧ w'.cell? ⟨w.heap.size, 4, none⟩ = some (.bool false) ∧ w'.cell? ⟨w.heap.size, 5, none⟩ = some (.bool x) ∧ w'.cell? ⟨w.heap.size + 1, 1, none⟩ = some (.slice A bs.length cc) ∧ w'.cell? ⟨w.heap.size + 1, 3, none⟩ = some (.bool true)) (simp [go_sem, *]) (first | (go_at_call 67; refine (clone_any A bs.length cc bs _ (hH2.out.below (by (repeat' (first | (with_reducible exact Below.refl _ _) | (with_reducible assumption) | (with_reducible refine Below.alloc ?_ ?_ _) | (with_reducible refine Below.drew ?_) | (with_reducible refine below_drewN ?_ _) | (with_reducible refine Below.setCell ?_ ?_ _) | (with_reducible exact Nat.le_refl _) | omega | (simp <;> omega))))) hn).mono ?_; rintro e w3 ⟨A3, c3, rfl, hown, hb3⟩; have hs3 := hb3.size; simp only [World.size_setCell, World.size_drew] at hs3 hown; have hB3 := (show Below w.heap.size w _ by (repeat' (first | (with_reducible exact Below.refl _ _) | (with_reducible assumption) | (with_reducible refine Below.alloc ?_ ?_ _) | (with_reducible refine Below.drew ?_) | (with_reducible refine below_drewN ?_ _) | (with_reducible refine Below.setCell ?_ ?_ _) | (with_reducible exact Nat.le_refl _) | omega | (simp <;> omega)))).trans (hb3.mono (show w.heap.size ≤ _ by (first | (with_reducible exact Nat.le_refl _) | (with_reducible assumption) | omega | (simp <;> omega)))); have sb0 := cellK (g := w.heap.size) (i := 0) (v := .int .i64 f) hb3 (by (first | (with_reducible exact Nat.le_refl _) | (with_reducible assumption) | omega | (simp <;> omega))) (by simp [go_sem, *]); have sb1 := cellK (g := w.heap.size) (i := 1) (v := .int .i64 t) hb3 (by (first | (with_reducible exact Nat.le_refl _) | (with_reducible assumption) | omega | (simp <;> omega))) (by simp [go_sem, *]); have sb2 := cellK (g := w.heap.size) (i := 2) (v := .int .i64 c) hb3 (by (first | (with_reducible exact Nat.le_refl _) | (with_reducible assumption) | omega | (simp <;> omega))) (by simp [go_sem, *]); have sb3 := cellK (g := w.heap.size) (i := 3) (v := .int .i64 (n + 1)) hb3 (by (first | (with_reducible exact Nat.le_refl _) | (with_reducible assumption) | omega | (simp <;> omega))) (by simp [go_sem, *]); have sb4 := cellK (g := w.heap.size) (i := 4) (v := .bool false) hb3 (by (first | (with_reducible exact Nat.le_refl _) | (with_reducible assumption) | omega | (simp <;> omega))) (by simp [go_sem, *]); have sb5 := cellK (g := w.heap.size) (i := 5) (v := .bool x) hb3 (by (first | (with_reducible exact Nat.le_refl _) | (with_reducible assumption) | omega | (simp <;> omega))) (by simp [go_sem, *]); have si0 := cellK (g := w.heap.size + 1) (i := 0) (v := .int .i64 (f + n)) hb3 (by (first | (with_reducible exact Nat.le_refl _) | (with_reducible assumption) | omega | (simp <;> omega))) (by simp [go_sem, *]); have si1 := cellK (g := w.heap.size + 1) (i := 1) (v := .slice A bs.length cc) hb3 (by (first | (with_reducible exact Nat.le_refl _) | (with_reducible assumption) | omega | (simp <;> omega))) (by simp [go_sem, *]); have si2 := cellK (g := w.heap.size + 1) (i := 2) (v := .bool d) hb3 (by (first | (with_reducible exact Nat.le_refl _) | (with_reducible assumption) | omega | (simp <;> omega))) (by simp [go_sem, *]); have si3 := cellK (g := w.heap.size + 1) (i := 3) (v := .bool true) hb3 (by (first | (with_reducible exact Nat.le_refl _) | (with_reducible assumption) | omega | (simp <;> omega))) (by simp [go_sem, *]); have sr0 := cellK (g := w.heap.size + 1 + 1) (i := 0) (v := .int .i64 0) hb3 (by (first | (with_reducible exact Nat.le_refl _) | (with_reducible assumption) | omega | (simp <;> omega))) (by simp [go_sem, *]); have srf0 := frozK (g := w.heap.size + 1 + 1) (i := 0) hb3 (by (first | (with_reducible exact Nat.le_refl _) | (with_reducible assumption) | omega | (simp <;> omega))) (by simp [go_sem, *]); have sr1 := cellK (g := w.heap.size + 1 + 1) (i := 1) (v := .int .i64 0) hb3 (by (first | (with_reducible exact Nat.le_refl _) | (with_reducible assumption) | omega | (simp <;> omega))) (by simp [go_sem, *]); have srf1 := frozK (g := w.heap.size + 1 + 1) (i := 1) hb3 (by (first | (with_reducible exact Nat.le_refl _) | (with_reducible assumption) | omega | (simp <;> omega))) (by simp [go_sem, *]); have sr2 := cellK (g := w.heap.size + 1 + 1) (i := 2) (v := .int .i64 0) hb3 (by (first | (with_reducible exact Nat.le_refl _) | (with_reducible assumption) | omega | (simp <;> omega))) (by simp [go_sem, *]); have srf2 := frozK (g := w.heap.size + 1 + 1) (i := 2) hb3 (by (first | (with_reducible exact Nat.le_refl _) | (with_reducible assumption) | omega | (simp <;> omega))) (by simp [go_sem, *]); have sr3 := cellK (g := w.heap.size + 1 + 1) (i := 3) (v := .int .i64 0) hb3 (by (first | (with_reducible exact Nat.le_refl _) | (with_reducible assumption) | omega | (simp <;> omega))) (by simp [go_sem, *]); have srf3 := frozK (g := w.heap.size + 1 + 1) (i := 3) hb3 (by (first | (with_reducible exact Nat.le_refl _) | (with_reducible assumption) | omega | (simp <;> omega))) (by simp [go_sem, *]); have sr4 := cellK (g := w.heap.size + 1 + 1) (i := 4) (v := .bool false) hb3 (by (first | (with_reducible exact Nat.le_refl _) | (with_reducible assumption) | omega | (simp <;> omega))) (by simp [go_sem, *]); have srf4 := frozK (g := w.heap.size + 1 + 1) (i := 4) hb3 (by (first | (with_reducible exact Nat.le_refl _) | (with_reducible assumption) | omega | (simp <;> omega))) (by simp [go_sem, *]); have sr5 := cellK (g := w.heap.size + 1 + 1) (i := 5) (v := .bool false) hb3 (by (first | (with_reducible exact Nat.le_refl _) | (with_reducible assumption) | omega | (simp <;> omega))) (by simp [go_sem, *]); have srf5 := frozK (g := w.heap.size + 1 + 1) (i := 5) hb3 (by (first | (with_reducible exact Nat.le_refl _) | (with_reducible assumption) | omega | (simp <;> omega))) (by simp [go_sem, *]); have so0 := cellK (g := w.heap.size + 1 + 1 + 1) (i := 0) (v := .int .i64 0) hb3 (by (first | (with_reducible exact Nat.le_refl _) | (with_reducible assumption) | omega | (simp <;> omega))) (by simp [go_sem, *]); have sof0 := frozK (g := w.heap.size + 1 + 1 + 1) (i := 0) hb3 (by (first | (with_reducible exact Nat.le_refl _) | (with_reducible assumption) | omega | (simp <;> omega))) (by simp [go_sem, *]); have so1 := cellK (g := w.heap.size + 1 + 1 + 1) (i := 1) (v := .slice none 0 0) hb3 (by (first | (with_reducible exact Nat.le_refl _) | (with_reducible assumption) | omega | (simp <;> omega))) (by simp [go_sem, *]); have sof1 := frozK (g := w.heap.size + 1 + 1 + 1) (i := 1) hb3 (by (first | (with_reducible exact Nat.le_refl _) | (with_reducible assumption) | omega | (simp <;> omega))) (by simp [go_sem, *]); have so2 := cellK (g := w.heap.size + 1 + 1 + 1) (i := 2) (v := .bool false) hb3 (by (first | (with_reducible exact Nat.le_refl _) | (with_reducible assumption) | omega | (simp <;> omega))) (by simp [go_sem, *]); have sof2 := frozK (g := w.heap.size + 1 + 1 + 1) (i := 2) hb3 (by (first | (with_reducible exact Nat.le_refl _) | (with_reducible assumption) | omega | (simp <;> omega))) (by simp [go_sem, *]); have so3 := cellK (g := w.heap.size + 1 + 1 + 1) (i := 3) (v := .bool false) hb3 (by (first | (with_reducible exact Nat.le_refl _) | (with_reducible assumption) | omega | (simp <;> omega))) (by simp [go_sem, *]); have sof3 := frozK (g := w.heap.size + 1 + 1 + 1) (i := 3) hb3 (by (first | (with_reducible exact Nat.le_refl _) | (with_reducible assumption) | omega | (simp <;> omega))) (by simp [go_sem, *])))
            have hB2s := hB2.size
            go_wp2_with fail
            refine bodyPost_ret (v := .tuple #[.agg #[.int .i64 f, .int .i64 t, .int .i64 c, .int .i64 (n + 1), .bool false, .bool x], .agg #[.int .i64 (t + n), .slice A3 bs.length c3, .bool true, .bool true], .int .i64 0]) (by simp [results, Try.results47, go_sem, *]) rfl ?_
            refine ⟨_, rfl, ⟨A3, c3, rfl, ?_⟩, by (repeat' (first | (with_reducible exact Below.refl _ _) | (with_reducible assumption) | (with_reducible refine Below.alloc ?_ ?_ _) | (with_reducible refine Below.drew ?_) | (with_reducible refine below_drewN ?_ _) | (with_reducible refine Below.setCell ?_ ?_ _) | (with_reducible exact Nat.le_refl _) | omega | (simp <;> omega)))⟩
            refine ownsRow_base (B := w2.heap.size) ?_ (by omega)
            (repeat' (first | (with_reducible assumption) | (with_reducible refine own_put ?_ ?_ _) | (with_reducible refine own_new ?_ _) | (with_reducible refine own_drew ?_) | (with_reducible refine own_drewN ?_ _) | omega))
      · have hne : (a != f + n) = true := by simp [ha]
        have e1 : stepT ⟨f, t, c, n, s, x⟩ ⟨a, bs, d, p⟩ = ⟨f, t, c, n, s, x⟩ := by simp [stepT, ha]
        have e2 : stepL ⟨f, t, c, n, s, x⟩ ⟨a, bs, d, p⟩ = LineD.zero := by simp [stepL, ha]
        have e3 : stepE ⟨f, t, c, n, s, x⟩ ⟨a, bs, d, p⟩ = 17 := by simp [stepE, ha, hl, hv]
        rewrite [e1, e2, e3]
        clear e1 e2 e3
        have HV := Lib.hid hv
        have HLV := Lib.hid hl
        clear hv hl ha
        go_enter Try.func47, Try.ntmps47
        go_wp2_with fail
        refine (dnext_any _ _ _ _ _ _ _ h0).mono ?_
        simp only [nextA, nextB, HLV.out, if_true]
        rintro e w1 ⟨rfl, hb1⟩
        have hs1 := hb1.size
        simp only [World.size_alloc] at hs1
        have hB1 := (show Below w.heap.size w _ by (repeat' (first | (with_reducible exact Below.refl _ _) | (with_reducible assumption) | (with_reducible refine Below.alloc ?_ ?_ _) | (with_reducible refine Below.drew ?_) | (with_reducible refine below_drewN ?_ _) | (with_reducible refine Below.setCell ?_ ?_ _) | (with_reducible exact Nat.le_refl _) | omega | (simp <;> omega)))).trans (hb1.mono (show w.heap.size ≤ _ by (first | (with_reducible exact Nat.le_refl _) | (with_reducible assumption) | omega | (simp <;> omega))))
        have nbf0 := frozK (g := w.heap.size) (i := 0) hb1 (by (first | (with_reducible exact Nat.le_refl _) | (with_reducible assumption) | omega | (simp <;> omega))) (by simp [go_sem, *])
        have nbf1 := frozK (g := w.heap.size) (i := 1) hb1 (by (first | (with_reducible exact Nat.le_refl _) | (with_reducible assumption) | omega | (simp <;> omega))) (by simp [go_sem, *])
        have nbf2 := frozK (g := w.heap.size) (i := 2) hb1 (by (first | (with_reducible exact Nat.le_refl _) | (with_reducible assumption) | omega | (simp <;> omega))) (by simp [go_sem, *])
        have nbf3 := frozK (g := w.heap.size) (i := 3) hb1 (by (first | (with_reducible exact Nat.le_refl _) | (with_reducible assumption) | omega | (simp <;> omega))) (by simp [go_sem, *])
        have nbf4 := frozK (g := w.heap.size) (i := 4) hb1 (by (first | (with_reducible exact Nat.le_refl _) | (with_reducible assumption) | omega | (simp <;> omega))) (by simp [go_sem, *])
        have nbf5 := frozK (g := w.heap.size) (i := 5) hb1 (by (first | (with_reducible exact Nat.le_refl _) | (with_reducible assumption) | omega | (simp <;> omega))) (by simp [go_sem, *])
        have nb0 := cellK (g := w.heap.size) (i := 0) (v := .int .i64 f) hb1 (by (first | (with_reducible exact Nat.le_refl _) | (with_reducible assumption) | omega | (simp <;> omega))) (by simp [go_sem, *])
        have nb1 := cellK (g := w.heap.size) (i := 1) (v := .int .i64 t) hb1 (by (first | (with_reducible exact Nat.le_refl _) | (with_reducible assumption) | omega | (simp <;> omega))) (by simp [go_sem, *])
        have nb2 := cellK (g := w.heap.size) (i := 2) (v := .int .i64 c) hb1 (by (first | (with_reducible exact Nat.le_refl _) | (with_reducible assumption) | omega | (simp <;> omega))) (by simp [go_sem, *])
        have nb3 := cellK (g := w.heap.size) (i := 3) (v := .int .i64 n) hb1 (by (first | (with_reducible exact Nat.le_refl _) | (with_reducible assumption) | omega | (simp <;> omega))) (by simp [go_sem, *])
        have nb4 := cellK (g := w.heap.size) (i := 4) (v := .bool s) hb1 (by (first | (with_reducible exact Nat.le_refl _) | (with_reducible assumption) | omega | (simp <;> omega))) (by simp [go_sem, *])
        have nb5 := cellK (g := w.heap.size) (i := 5) (v := .bool x) hb1 (by (first | (with_reducible exact Nat.le_refl _) | (with_reducible assumption) | omega | (simp <;> omega))) (by simp [go_sem, *])
        have ni0 := cellK (g := w.heap.size + 1) (i := 0) (v := .int .i64 a) hb1 (by (first | (with_reducible exact Nat.le_refl _) | (with_reducible assumption) | omega | (simp <;> omega))) (by simp [go_sem, *])
        have ni1 := cellK (g := w.heap.size + 1) (i := 1) (v := .slice A bs.length cc) hb1 (by (first | (with_reducible exact Nat.le_refl _) | (with_reducible assumption) | omega | (simp <;> omega))) (by simp [go_sem, *])
        have ni2 := cellK (g := w.heap.size + 1) (i := 2) (v := .bool d) hb1 (by (first | (with_reducible exact Nat.le_refl _) | (with_reducible assumption) | omega | (simp <;> omega))) (by simp [go_sem, *])
        have ni3 := cellK (g := w.heap.size + 1) (i := 3) (v := .bool p) hb1 (by (first | (with_reducible exact Nat.le_refl _) | (with_reducible assumption) | omega | (simp <;> omega))) (by simp [go_sem, *])
        have nrf0 := frozK (g := w.heap.size + 1 + 1) (i := 0) hb1 (by (first | (with_reducible exact Nat.le_refl _) | (with_reducible assumption) | omega | (simp <;> omega))) (by simp [go_sem, *])
        have nrf1 := frozK (g := w.heap.size + 1 + 1) (i := 1) hb1 (by (first | (with_reducible exact Nat.le_refl _) | (with_reducible assumption) | omega | (simp <;> omega))) (by simp [go_sem, *])
        have nrf2 := frozK (g := w.heap.size + 1 + 1) (i := 2) hb1 (by (first | (with_reducible exact Nat.le_refl _) | (with_reducible assumption) | omega | (simp <;> omega))) (by simp [go_sem, *])
        have nrf3 := frozK (g := w.heap.size + 1 + 1) (i := 3) hb1 (by (first | (with_reducible exact Nat.le_refl _) | (with_reducible assumption) | omega | (simp <;> omega))) (by simp [go_sem, *])
        have nrf4 := frozK (g := w.heap.size + 1 + 1) (i := 4) hb1 (by (first | (with_reducible exact Nat.le_refl _) | (with_reducible assumption) | omega | (simp <;> omega))) (by simp [go_sem, *])
        have nrf5 := frozK (g := w.heap.size + 1 + 1) (i := 5) hb1 (by (first | (with_reducible exact Nat.le_refl _) | (with_reducible assumption) | omega | (simp <;> omega))) (by simp [go_sem, *])
        have nr0 := cellK (g := w.heap.size + 1 + 1) (i := 0) (v := .int .i64 0) hb1 (by (first | (with_reducible exact Nat.le_refl _) | (with_reducible assumption) | omega | (simp <;> omega))) (by simp [go_sem, *])
        have nr1 := cellK (g := w.heap.size + 1 + 1) (i := 1) (v := .int .i64 0) hb1 (by (first | (with_reducible exact Nat.le_refl _) | (with_reducible assumption) | omega | (simp <;> omega))) (by simp [go_sem, *])
        have nr2 := cellK (g := w.heap.size + 1 + 1) (i := 2) (v := .int .i64 0) hb1 (by (first | (with_reducible exact Nat.le_refl _) | (with_reducible assumption) | omega | (simp <;> omega))) (by simp [go_sem, *])
        have nr3 := cellK (g := w.heap.size + 1 + 1) (i := 3) (v := .int .i64 0) hb1 (by (first | (with_reducible exact Nat.le_refl _) | (with_reducible assumption) | omega | (simp <;> omega))) (by simp [go_sem, *])
        have nr4 := cellK (g := w.heap.size + 1 + 1) (i := 4) (v := .bool false) hb1 (by (first | (with_reducible exact Nat.le_refl _) | (with_reducible assumption) | omega | (simp <;> omega))) (by simp [go_sem, *])
        have nr5 := cellK (g := w.heap.size + 1 + 1) (i := 5) (v := .bool false) hb1 (by (first | (with_reducible exact Nat.le_refl _) | (with_reducible assumption) | omega | (simp <;> omega))) (by simp [go_sem, *])
        have nof0 := frozK (g := w.heap.size + 1 + 1 + 1) (i := 0) hb1 (by (first | (with_reducible exact Nat.le_refl _) | (with_reducible assumption) | omega | (simp <;> omega))) (by simp [go_sem, *])
        have nof1 := frozK (g := w.heap.size + 1 + 1 + 1) (i := 1) hb1 (by (first | (with_reducible exact Nat.le_refl _) | (with_reducible assumption) | omega | (simp <;> omega))) (by simp [go_sem, *])
        have nof2 := frozK (g := w.heap.size + 1 + 1 + 1) (i := 2) hb1 (by (first | (with_reducible exact Nat.le_refl _) | (with_reducible assumption) | omega | (simp <;> omega))) (by simp [go_sem, *])
        have nof3 := frozK (g := w.heap.size + 1 + 1 + 1) (i := 3) hb1 (by (first | (with_reducible exact Nat.le_refl _) | (with_reducible assumption) | omega | (simp <;> omega))) (by simp [go_sem, *])
        have no0 := cellK (g := w.heap.size + 1 + 1 + 1) (i := 0) (v := .int .i64 0) hb1 (by (first | (with_reducible exact Nat.le_refl _) | (with_reducible assumption) | omega | (simp <;> omega))) (by simp [go_sem, *])
        have no1 := cellK (g := w.heap.size + 1 + 1 + 1) (i := 1) (v := .slice none 0 0) hb1 (by (first | (with_reducible exact Nat.le_refl _) | (with_reducible assumption) | omega | (simp <;> omega))) (by simp [go_sem, *])
        have no2 := cellK (g := w.heap.size + 1 + 1 + 1) (i := 2) (v := .bool false) hb1 (by (first | (with_reducible exact Nat.le_refl _) | (with_reducible assumption) | omega | (simp <;> omega))) (by simp [go_sem, *])
        have no3 := cellK (g := w.heap.size + 1 + 1 + 1) (i := 3) (v := .bool false) hb1 (by (first | (with_reducible exact Nat.le_refl _) | (with_reducible assumption) | omega | (simp <;> omega))) (by simp [go_sem, *])
        have kb0 := nb0
        have kb1 := nb1
        have kb2 := nb2
        have kb3 := nb3
        have kb4 := nb4
        have kb5 := nb5
        have ki0 := ni0
        have ki1 := ni1
        have ki2 := ni2
        have ki3 := ni3
        have kr0 := nr0
        have kr1 := nr1
        have kr2 := nr2
        have kr3 := nr3
        have kr4 := nr4
        have kr5 := nr5
        have ko0 := no0
        have ko1 := no1
        have ko2 := no2
        have ko3 := no3
        have kbf0 := nbf0
        have kbf1 := nbf1
        have kbf2 := nbf2
        have kbf3 := nbf3
        have kbf4 := nbf4
        have kbf5 := nbf5
        have krf0 := nrf0
        have krf1 := nrf1
        have krf2 := nrf2
        have krf3 := nrf3
        have krf4 := nrf4
        have krf5 := nrf5
        have kof0 := nof0
        have kof1 := nof1
        have kof2 := nof2
        have kof3 := nof3
        clear nb0 nb1 nb2 nb3 nb4 nb5 ni0 ni1 ni2 ni3 nr0 nr1 nr2 nr3 nr4 nr5 no0 no1 no2 no3 nbf0 nbf1 nbf2 nbf3 nbf4 nbf5 nrf0 nrf1 nrf2 nrf3 nrf4 nrf5 nof0 nof1 nof2 nof3
        clear hb1
        go_wp2_with fail
        refine (dvalid_any _ _ _ _ _ _ _ h0).mono ?_
        rewrite [HV.out]
        rintro e w2 ⟨rfl, hb2⟩
        have hs2 := hb2.size
        have hB2 := hB1.trans (hb2.mono hB1.size)
        have nbf0 := frozK (g := w.heap.size) (i := 0) hb2 (by (first | (with_reducible exact Nat.le_refl _) | (with_reducible assumption) | omega | (simp <;> omega))) (by simp [go_sem, *])
        have nbf1 := frozK (g := w.heap.size) (i := 1) hb2 (by (first | (with_reducible exact Nat.le_refl _) | (with_reducible assumption) | omega | (simp <;> omega))) (by simp [go_sem, *])
        have nbf2 := frozK (g := w.heap.size) (i := 2) hb2 (by (first | (with_reducible exact Nat.le_refl _) | (with_reducible assumption) | omega | (simp <;> omega))) (by simp [go_sem, *])
        have nbf3 := frozK (g := w.heap.size) (i := 3) hb2 (by (first | (with_reducible exact Nat.le_refl _) | (with_reducible assumption) | omega | (simp <;> omega))) (by simp [go_sem, *])
        have nbf4 := frozK (g := w.heap.size) (i := 4) hb2 (by (first | (with_reducible exact Nat.le_refl _) | (with_reducible assumption) | omega | (simp <;> omega))) (by simp [go_sem, *])
        have nbf5 := frozK (g := w.heap.size) (i := 5) hb2 (by (first | (with_reducible exact Nat.le_refl _) | (with_reducible assumption) | omega | (simp <;> omega))) (by simp [go_sem, *])
        have nb0 := cellK (g := w.heap.size) (i := 0) (v := .int .i64 f) hb2 (by (first | (with_reducible exact Nat.le_refl _) | (with_reducible assumption) | omega | (simp <;> omega))) (by simp [go_sem, *])
        have nb1 := cellK (g := w.heap.size) (i := 1) (v := .int .i64 t) hb2 (by (first | (with_reducible exact Nat.le_refl _) | (with_reducible assumption) | omega | (simp <;> omega))) (by simp [go_sem, *])
        have nb2 := cellK (g := w.heap.size) (i := 2) (v := .int .i64 c) hb2 (by (first | (with_reducible exact Nat.le_refl _) | (with_reducible assumption) | omega | (simp <;> omega))) (by simp [go_sem, *])
        have nb3 := cellK (g := w.heap.size) (i := 3) (v := .int .i64 n) hb2 (by (first | (with_reducible exact Nat.le_refl _) | (with_reducible assumption) | omega | (simp <;> omega))) (by simp [go_sem, *])
        have nb4 := cellK (g := w.heap.size) (i := 4) (v := .bool s) hb2 (by (first | (with_reducible exact Nat.le_refl _) | (with_reducible assumption) | omega | (simp <;> omega))) (by simp [go_sem, *])
        have nb5 := cellK (g := w.heap.size) (i := 5) (v := .bool x) hb2 (by (first | (with_reducible exact Nat.le_refl _) | (with_reducible assumption) | omega | (simp <;> omega))) (by simp [go_sem, *])
        have ni0 := cellK (g := w.heap.size + 1) (i := 0) (v := .int .i64 a) hb2 (by (first | (with_reducible exact Nat.le_refl _) | (with_reducible assumption) | omega | (simp <;> omega))) (by simp [go_sem, *])
        have ni1 := cellK (g := w.heap.size + 1) (i := 1) (v := .slice A bs.length cc) hb2 (by (first | (with_reducible exact Nat.le_refl _) | (with_reducible assumption) | omega | (simp <;> omega))) (by simp [go_sem, *])
        have ni2 := cellK (g := w.heap.size + 1) (i := 2) (v := .bool d) hb2 (by (first | (with_reducible exact Nat.le_refl _) | (with_reducible assumption) | omega | (simp <;> omega))) (by simp [go_sem, *])
        have ni3 := cellK (g := w.heap.size + 1) (i := 3) (v := .bool p) hb2 (by (first | (with_reducible exact Nat.le_refl _) | (with_reducible assumption) | omega | (simp <;> omega))) (by simp [go_sem, *])
        have nrf0 := frozK (g := w.heap.size + 1 + 1) (i := 0) hb2 (by (first | (with_reducible exact Nat.le_refl _) | (with_reducible assumption) | omega | (simp <;> omega))) (by simp [go_sem, *])
        have nrf1 := frozK (g := w.heap.size + 1 + 1) (i := 1) hb2 (by (first | (with_reducible exact Nat.le_refl _) | (with_reducible assumption) | omega | (simp <;> omega))) (by simp [go_sem, *])
        have nrf2 := frozK (g := w.heap.size + 1 + 1) (i := 2) hb2 (by (first | (with_reducible exact Nat.le_refl _) | (with_reducible assumption) | omega | (simp <;> omega))) (by simp [go_sem, *])
        have nrf3 := frozK (g := w.heap.size + 1 + 1) (i := 3) hb2 (by (first | (with_reducible exact Nat.le_refl _) | (with_reducible assumption) | omega | (simp <;> omega))) (by simp [go_sem, *])
        have nrf4 := frozK (g := w.heap.size + 1 + 1) (i := 4) hb2 (by (first | (with_reducible exact Nat.le_refl _) | (with_reducible assumption) | omega | (simp <;> omega))) (by simp [go_sem, *])
        have nrf5 := frozK (g := w.heap.size + 1 + 1) (i := 5) hb2 (by (first | (with_reducible exact Nat.le_refl _) | (with_reducible assumption) | omega | (simp <;> omega))) (by simp [go_sem, *])
        have nr0 := cellK (g := w.heap.size + 1 + 1) (i := 0) (v := .int .i64 0) hb2 (by (first | (with_reducible exact Nat.le_refl _) | (with_reducible assumption) | omega | (simp <;> omega))) (by simp [go_sem, *])
        have nr1 := cellK (g := w.heap.size + 1 + 1) (i := 1) (v := .int .i64 0) hb2 (by (first | (with_reducible exact Nat.le_refl _) | (with_reducible assumption) | omega | (simp <;> omega))) (by simp [go_sem, *])
        have nr2 := cellK (g := w.heap.size + 1 + 1) (i := 2) (v := .int .i64 0) hb2 (by (first | (with_reducible exact Nat.le_refl _) | (with_reducible assumption) | omega | (simp <;> omega))) (by simp [go_sem, *])
        have nr3 := cellK (g := w.heap.size + 1 + 1) (i := 3) (v := .int .i64 0) hb2 (by (first | (with_reducible exact Nat.le_refl _) | (with_reducible assumption) | omega | (simp <;> omega))) (by simp [go_sem, *])
        have nr4 := cellK (g := w.heap.size + 1 + 1) (i := 4) (v := .bool false) hb2 (by (first | (with_reducible exact Nat.le_refl _) | (with_reducible assumption) | omega | (simp <;> omega))) (by simp [go_sem, *])
        have nr5 := cellK (g := w.heap.size + 1 + 1) (i := 5) (v := .bool false) hb2 (by (first | (with_reducible exact Nat.le_refl _) | (with_reducible assumption) | omega | (simp <;> omega))) (by simp [go_sem, *])
        have nof0 := frozK (g := w.heap.size + 1 + 1 + 1) (i := 0) hb2 (by (first | (with_reducible exact Nat.le_refl _) | (with_reducible assumption) | omega | (simp <;> omega))) (by simp [go_sem, *])
        have nof1 := frozK (g := w.heap.size + 1 + 1 + 1) (i := 1) hb2 (by (first | (with_reducible exact Nat.le_refl _) | (with_reducible assumption) | omega | (simp <;> omega))) (by simp [go_sem, *])
        have nof2 := frozK (g := w.heap.size + 1 + 1 + 1) (i := 2) hb2 (by (first | (with_reducible exact Nat.le_refl _) | (with_reducible assumption) | omega | (simp <;> omega))) (by simp [go_sem, *])
        have nof3 := frozK (g := w.heap.size + 1 + 1 + 1) (i := 3) hb2 (by (first | (with_reducible exact Nat.le_refl _) | (with_reducible assumption) | omega | (simp <;> omega))) (by simp [go_sem, *])
        have no0 := cellK (g := w.heap.size + 1 + 1 + 1) (i := 0) (v := .int .i64 0) hb2 (by (first | (with_reducible exact Nat.le_refl _) | (with_reducible assumption) | omega | (simp <;> omega))) (by simp [go_sem, *])
        have no1 := cellK (g := w.heap.size + 1 + 1 + 1) (i := 1) (v := .slice none 0 0) hb2 (by (first | (with_reducible exact Nat.le_refl _) | (with_reducible assumption) | omega | (simp <;> omega))) (by simp [go_sem, *])
        have no2 := cellK (g := w.heap.size + 1 + 1 + 1) (i := 2) (v := .bool false) hb2 (by (first | (with_reducible exact Nat.le_refl _) | (with_reducible assumption) | omega | (simp <;> omega))) (by simp [go_sem, *])
        have no3 := cellK (g := w.heap.size + 1 + 1 + 1) (i := 3) (v := .bool false) hb2 (by (first | (with_reducible exact Nat.le_refl _) | (with_reducible assumption) | omega | (simp <;> omega))) (by simp [go_sem, *])
        clear kb0 kb1 kb2 kb3 kb4 kb5 ki0 ki1 ki2 ki3 kr0 kr1 kr2 kr3 kr4 kr5 ko0 ko1 ko2 ko3 kbf0 kbf1 kbf2 kbf3 kbf4 kbf5 krf0 krf1 krf2 krf3 krf4 krf5 kof0 kof1 kof2 kof3
        have kb0 := nb0
        have kb1 := nb1
        have kb2 := nb2
        have kb3 := nb3
        have kb4 := nb4
        have kb5 := nb5
        have ki0 := ni0
        have ki1 := ni1
        have ki2 := ni2
        have ki3 := ni3
        have kr0 := nr0
        have kr1 := nr1
        have kr2 := nr2
        have kr3 := nr3
        have kr4 := nr4
        have kr5 := nr5
        have ko0 := no0
        have ko1 := no1
        have ko2 := no2
        have ko3 := no3
        have kbf0 := nbf0
        have kbf1 := nbf1
        have kbf2 := nbf2
        have kbf3 := nbf3
        have kbf4 := nbf4
        have kbf5 := nbf5
        have krf0 := nrf0
        have krf1 := nrf1
        have krf2 := nrf2
        have krf3 := nrf3
        have krf4 := nrf4
        have krf5 := nrf5
        have kof0 := nof0
        have kof1 := nof1
        have kof2 := nof2
        have kof3 := nof3
        clear nb0 nb1 nb2 nb3 nb4 nb5 ni0 ni1 ni2 ni3 nr0 nr1 nr2 nr3 nr4 nr5 no0 no1 no2 no3 nbf0 nbf1 nbf2 nbf3 nbf4 nbf5 nrf0 nrf1 nrf2 nrf3 nrf4 nrf5 nof0 nof1 nof2 nof3
        have l0 : w.heap.size < w2.heap.size := by omega
        have l1 : w.heap.size + 1 < w2.heap.size := by omega
        have l2 : w.heap.size + 1 + 1 < w2.heap.size := by omega
        have l3 : w.heap.size + 1 + 1 + 1 < w2.heap.size := by omega
        clear hb2 hB1 hs1
        go_wp2_with fail
        refine bodyPost_ret (v := .tuple #[.agg #[.int .i64 f, .int .i64 t, .int .i64 c, .int .i64 n, .bool s, .bool x], .agg #[.int .i64 0, .slice none 0 0, .bool false, .bool false], .int .i64 17]) (by simp [results, Try.results47, go_sem, *]) rfl ?_
        exact ⟨_, rfl, OwnLine.zero_ _ _ _, by (repeat' (first | (with_reducible exact Below.refl _ _) | (with_reducible assumption) | (with_reducible refine Below.alloc ?_ ?_ _) | (with_reducible refine Below.drew ?_) | (with_reducible refine below_drewN ?_ _) | (with_reducible refine Below.setCell ?_ ?_ _) | (with_reducible exact Nat.le_refl _) | omega | (simp <;> omega)))⟩
end Go.Proofs.Ytjlmgjpnfppkoaa
