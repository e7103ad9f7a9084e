/-
  The walk of DeviceOver: it returns true, and what was there before is as it was.
-/
import Derived.BigRegion
import Derived.StillTailTactics
import Derived.Test.YtjlmgjpnfppkoaaDAwake
namespace Go.Proofs.Ytjlmgjpnfppkoaa
open Go.RowKit
attribute [local go_sem ↓] Go.wp_at_zero Go.wp_at_succ

theorem still_tail_drew {P : Program} {id : Nat} {Q : Exit → Act → World → Prop} {a : Act} {w : World} {l : List Oper} (n : Nat) (hm : P.follows .mixedOrders = true) (hB : Region.lexTailB .any l.toArray n = true)
    (h : wpStill P l.toArray w.drew (fun a' => wpList P l.toArray Q (l.drop n) a' w.drew) (l.take n) a) : (Code.region id l.toArray true).wp P Q a w := wp_region_still_tail n hm hB h

set_option maxRecDepth 100000 in
set_option maxHeartbeats 2000000 in
theorem dover_long (f t c n : Int) (s x : Bool) (v : Value) (L : LineD) (w : World) (hL : IsLine w v L) (h : 40 < L.data.length) :
    Calls Try.prog 8 #[.agg #[.int .i64 f, .int .i64 t, .int .i64 c, .int .i64 n, .bool s, .bool x], v] w fun e w' => e = .returned (.bool true) ∧ Below w.heap.size w w' := by
  obtain ⟨A, cc, rfl, hL⟩ := hL
  clear hL
  go_enter Try.func8, Try.ntmps8
  go_wp2_with fail
  refine (dawake_any _).mono ?_
  rintro e w1 ⟨rfl, hb1⟩
  have hb1' := (show Below w.heap.size w _ by (repeat' (first | (with_reducible exact Below.refl _ _) | (with_reducible assumption) | (with_reducible refine Below.alloc ?_ ?_ _) | (with_reducible refine Below.drew ?_) | (with_reducible refine below_drewN ?_ _) | (with_reducible refine Below.setCell ?_ ?_ _) | (with_reducible exact Nat.le_refl _) | omega | (simp <;> omega)))).trans (hb1.mono (show w.heap.size ≤ _ by (first | (with_reducible exact Nat.le_refl _) | (with_reducible assumption) | omega | (simp <;> omega))))
  go_wp2_with fail
  go_ret
  exact ⟨rfl, hb1'⟩

set_option maxRecDepth 100000 in
set_option maxHeartbeats 16000000 in
theorem dover_any (f t c n : Int) (s x : Bool) (v : Value) (L : LineD) (w : World) (hL : IsLine w v L) (hn : L.data.length ≤ 40) :
    Calls Try.prog 8 #[.agg #[.int .i64 f, .int .i64 t, .int .i64 c, .int .i64 n, .bool s, .bool x], v] w fun e w' => e = .returned (.bool true) ∧ Below w.heap.size w w' := by
  have HL := Lib.hid hL
  obtain ⟨A, cc, rfl, hL⟩ := hL
  obtain ⟨a, bs, d, p⟩ := L
  clear hL
  have hn40 : bs.length ≤ 40 := hn
  replace hn : (LineD.mk a bs d p).data.length ≤ 1048576 := by show bs.length ≤ _; omega
  obtain ⟨r1, r1'⟩ := mod_range c 9 (by omega)
  obtain ⟨r2, r2'⟩ := mod_range f 100 (by omega)
  obtain ⟨r3, r3'⟩ := mod_range t 50 (by omega)
  obtain ⟨C, hC⟩ : ∃ C, 1 + mod c 9 = C := ⟨_, rfl⟩
  obtain ⟨F, hF⟩ : ∃ F, mod f 100 = F := ⟨_, rfl⟩
  obtain ⟨M, hM⟩ : ∃ M, mod t 50 = M := ⟨_, rfl⟩
  obtain ⟨r4, r4'⟩ := mod_range n (C + 1) (by omega)
  obtain ⟨D, hDD⟩ : ∃ D, mod n (C + 1) = D := ⟨_, rfl⟩
  have C1 : 1 ≤ C := by omega
  have C2 : C ≤ 9 := by omega
  have F1 : 0 ≤ F := by omega
  have F2 : F < 100 := by omega
  have M1 : 0 ≤ M := by omega
  have M2 : M < 50 := by omega
  have D1 : 0 ≤ D := by omega
  have D2 : D ≤ C := by omega
  obtain ⟨TT, hTT⟩ : ∃ TT, F + C + M = TT := ⟨_, rfl⟩
  have T1 : F + C ≤ TT := by omega
  have T2 : TT < 200 := by omega
  have hp : placedB F TT C = true := by simp only [placedB, decide_eq_true_eq]; omega
  have hap : apartB F TT C = true := by simp only [apartB, decide_eq_true_eq]; omega
  have HV : Hid (∀ s x, (x = true → s = true ∧ D < C) → validT ⟨F, TT, C, D, s, x⟩ = true) := by
    intro s x hx
    cases x
    · simp [validT, hp, hap]; omega
    · obtain ⟨rfl, h⟩ := hx rfl; simp [validT, hp, hap]; omega
  have HO : Hid (∀ s x, (x = true ∨ D = C) → liveT ⟨F, TT, C, D, s, x⟩ = false) := by
    intro s x hx
    rcases hx with rfl | h <;> simp [liveT, overT, *]
  have HS : Hid (∀ s x, (x = true ∨ D = C) → (x = true → s = true ∧ D < C) → stepT ⟨F, TT, C, D, s, x⟩ ⟨a, bs, d, p⟩ = ⟨F, TT, C, D, s, x⟩ ∧ stepL ⟨F, TT, C, D, s, x⟩ ⟨a, bs, d, p⟩ = LineD.zero ∧ stepE ⟨F, TT, C, D, s, x⟩ ⟨a, bs, d, p⟩ = 40) := by
    intro s x hx hy
    have h1 := HO.out s x hx
    have h2 := HV.out s x hy
    exact ⟨by simp [stepT, h1], by simp [stepL, h1], by simp [stepE, h1, h2]⟩
  have hw1 : IntKind.i64.wrap (F + C) = F + C := IntWalk.i64_in _ (by omega)
  have hw2 : IntKind.i64.wrap (F + C + M) = TT := by rw [hTT]; exact IntWalk.i64_in _ (by omega)
  have hw3 : IntKind.i64.wrap TT = TT := IntWalk.i64_in _ (by omega)
  clear hp hap
  by_cases hD : D = C
  · subst hD
    cases x
    · have htok : True := trivial
      have HO1 := Lib.hid (HO.out s false (.inr rfl))
      have HV1 := Lib.hid (HV.out s false (by intro h; cases h))
      have HS1 := Lib.hid ((HS.out s false (.inr rfl) (by intro h; cases h)).1)
      have HS2 := Lib.hid ((HS.out s false (.inr rfl) (by intro h; cases h)).2.1)
      have HS3 := Lib.hid ((HS.out s false (.inr rfl) (by intro h; cases h)).2.2)
      clear HO HV HS
      go_enter Try.func8, Try.ntmps8
      go_wp2_with (first | (go_at_call 20; refine (mod_any _ _ _ (by omega)).mono ?_; rintro e w' ⟨rfl, rfl⟩))
      refine still_tail_drew 10 (by kernel_rfl) (by kernel_rfl) ?_
      simp only [List.take_succ_cons, List.take_zero, List.drop_succ_cons, List.drop_zero]
      repeat still_step
      still_call ((mod_any t 50 _ (by omega)).mono fun _ _ h => ⟨h.1, h.2.symm⟩)
      repeat still_step
      refine wpStill_nil ?_
      go_wp2_with (first | (go_at_call 20; refine (mod_any _ _ _ (by omega)).mono ?_; rintro e w' ⟨rfl, rfl⟩))
      refine (dnext_any _ _ _ _ _ _ _ (by omega)).mono ?_
      simp only [nextA, nextB, HO1.out, Bool.false_eq_true, if_false]
      rintro e w1 ⟨rfl, hb1⟩
      have hs1 := hb1.size
      simp only [World.size_alloc, World.size_drew] at hs1
      have hB1 := (show Below w.heap.size w _ by (repeat' (first | (with_reducible exact Below.refl _ _) | (with_reducible assumption) | (with_reducible refine Below.alloc ?_ ?_ _) | (with_reducible refine Below.drew ?_) | (with_reducible refine below_drewN ?_ _) | (with_reducible refine Below.setCell ?_ ?_ _) | (with_reducible exact Nat.le_refl _) | omega | (simp <;> omega)))).trans (hb1.mono (show w.heap.size ≤ _ by (first | (with_reducible exact Nat.le_refl _) | (with_reducible assumption) | omega | (simp <;> omega))))
      obtain ⟨k1, f1⟩ := bkeep hb1 w.heap.size (by (first | (with_reducible exact Nat.le_refl _) | (with_reducible assumption) | omega | (simp <;> omega)))
      obtain ⟨k2, f2⟩ := bkeep hb1 (w.heap.size + 1) (by (first | (with_reducible exact Nat.le_refl _) | (with_reducible assumption) | omega | (simp <;> omega)))
      have l1 : w.heap.size < w1.heap.size := by omega
      have l2 : w.heap.size + 1 < w1.heap.size := by omega
      clear hb1
      go_wp2_with fail
      refine (dstep_any _ _ _ _ _ _ _ ⟨a, bs, d, p⟩ _ (by omega) (HL.out.below hB1) hn).mono ?_
      simp only [HS1.out, HS2.out, HS3.out]
      rintro e w2 ⟨v2, rfl, ⟨A2, c2, rfl, -⟩, hb2⟩
      simp only [TrV, LineD.zero, List.length_nil]
      have hs2 := hb2.size
      have hB2 := hB1.trans (hb2.mono hB1.size)
      obtain ⟨m1, -⟩ := bkeep hb2 w.heap.size l1
      obtain ⟨m2, -⟩ := bkeep hb2 (w.heap.size + 1) l2
      simp only [k1, k2] at m1 m2
      have l3 : w.heap.size < w2.heap.size := by omega
      have l4 : w.heap.size + 1 < w2.heap.size := by omega
      clear hb2 k1 k2 f1 f2 l1 l2 hB1 hs1
      have hz2 := hB2.size
      go_wp2_with fail
      refine (dvalid_any _ _ _ _ _ _ _ (by omega)).mono ?_
      rewrite [HV1.out]
      rintro e w3 ⟨rfl, hb3⟩
      have hs3 := hb3.size
      simp only [World.size_alloc] at hs3
      have hB3 := (show Below w.heap.size w _ by (repeat' (first | (with_reducible exact Below.refl _ _) | (with_reducible assumption) | (with_reducible refine Below.alloc ?_ ?_ _) | (with_reducible refine Below.drew ?_) | (with_reducible refine below_drewN ?_ _) | (with_reducible refine Below.setCell ?_ ?_ _) | (with_reducible exact Nat.le_refl _) | omega | (simp <;> omega)))).trans (hb3.mono (show w.heap.size ≤ _ by (first | (with_reducible exact Nat.le_refl _) | (with_reducible assumption) | omega | (simp <;> omega))))
      obtain ⟨p1, -⟩ := bkeep hb3 w.heap.size (by (first | (with_reducible exact Nat.le_refl _) | (with_reducible assumption) | omega | (simp <;> omega)))
      obtain ⟨p2, -⟩ := bkeep hb3 (w.heap.size + 1) (by (first | (with_reducible exact Nat.le_refl _) | (with_reducible assumption) | omega | (simp <;> omega)))
      obtain ⟨p3, -⟩ := bkeep hb3 w2.heap.size (by (first | (with_reducible exact Nat.le_refl _) | (with_reducible assumption) | omega | (simp <;> omega)))
      obtain ⟨p4, -⟩ := bkeep hb3 (w2.heap.size + 1) (by (first | (with_reducible exact Nat.le_refl _) | (with_reducible assumption) | omega | (simp <;> omega)))
      clear hb3
      go_wp2_with fail
      refine (dawake_any _).mono ?_
      rintro e w10 ⟨rfl, hb10⟩
      have hB10 := hB3.trans (hb10.mono hB3.size)
      clear hB3 hb10 p1 p2 p3 p4 m1 m2
      go_wp2_with fail
      go_ret
      exact ⟨rfl, hB10⟩
    · cases s
      · have htok : True := trivial
        have HO1 := Lib.hid (HO.out false false (.inr rfl))
        have HV1 := Lib.hid (HV.out false false (by intro h; cases h))
        have HS1 := Lib.hid ((HS.out false false (.inr rfl) (by intro h; cases h)).1)
        have HS2 := Lib.hid ((HS.out false false (.inr rfl) (by intro h; cases h)).2.1)
        have HS3 := Lib.hid ((HS.out false false (.inr rfl) (by intro h; cases h)).2.2)
        clear HO HV HS
        go_enter Try.func8, Try.ntmps8
        go_wp2_with (first | (go_at_call 20; refine (mod_any _ _ _ (by omega)).mono ?_; rintro e w' ⟨rfl, rfl⟩))
        refine still_tail_drew 10 (by kernel_rfl) (by kernel_rfl) ?_
        simp only [List.take_succ_cons, List.take_zero, List.drop_succ_cons, List.drop_zero]
        repeat still_step
        still_call ((mod_any t 50 _ (by omega)).mono fun _ _ h => ⟨h.1, h.2.symm⟩)
        repeat still_step
        refine wpStill_nil ?_
        go_wp2_with (first | (go_at_call 20; refine (mod_any _ _ _ (by omega)).mono ?_; rintro e w' ⟨rfl, rfl⟩))
        refine (dnext_any _ _ _ _ _ _ _ (by omega)).mono ?_
        simp only [nextA, nextB, HO1.out, Bool.false_eq_true, if_false]
        rintro e w1 ⟨rfl, hb1⟩
        have hs1 := hb1.size
        simp only [World.size_alloc, World.size_drew] at hs1
        have hB1 := (show Below w.heap.size w _ by (repeat' (first | (with_reducible exact Below.refl _ _) | (with_reducible assumption) | (with_reducible refine Below.alloc ?_ ?_ _) | (with_reducible refine Below.drew ?_) | (with_reducible refine below_drewN ?_ _) | (with_reducible refine Below.setCell ?_ ?_ _) | (with_reducible exact Nat.le_refl _) | omega | (simp <;> omega)))).trans (hb1.mono (show w.heap.size ≤ _ by (first | (with_reducible exact Nat.le_refl _) | (with_reducible assumption) | omega | (simp <;> omega))))
        obtain ⟨k1, f1⟩ := bkeep hb1 w.heap.size (by (first | (with_reducible exact Nat.le_refl _) | (with_reducible assumption) | omega | (simp <;> omega)))
        obtain ⟨k2, f2⟩ := bkeep hb1 (w.heap.size + 1) (by (first | (with_reducible exact Nat.le_refl _) | (with_reducible assumption) | omega | (simp <;> omega)))
        have l1 : w.heap.size < w1.heap.size := by omega
        have l2 : w.heap.size + 1 < w1.heap.size := by omega
        clear hb1
        go_wp2_with fail
        refine (dstep_any _ _ _ _ _ _ _ ⟨a, bs, d, p⟩ _ (by omega) (HL.out.below hB1) hn).mono ?_
        simp only [HS1.out, HS2.out, HS3.out]
        rintro e w2 ⟨v2, rfl, ⟨A2, c2, rfl, -⟩, hb2⟩
        simp only [TrV, LineD.zero, List.length_nil]
        have hs2 := hb2.size
        have hB2 := hB1.trans (hb2.mono hB1.size)
        obtain ⟨m1, -⟩ := bkeep hb2 w.heap.size l1
        obtain ⟨m2, -⟩ := bkeep hb2 (w.heap.size + 1) l2
        simp only [k1, k2] at m1 m2
        have l3 : w.heap.size < w2.heap.size := by omega
        have l4 : w.heap.size + 1 < w2.heap.size := by omega
        clear hb2 k1 k2 f1 f2 l1 l2 hB1 hs1
        have hz2 := hB2.size
        go_wp2_with fail
        refine (dvalid_any _ _ _ _ _ _ _ (by omega)).mono ?_
        rewrite [HV1.out]
        rintro e w3 ⟨rfl, hb3⟩
        have hs3 := hb3.size
        simp only [World.size_alloc] at hs3
        have hB3 := (show Below w.heap.size w _ by (repeat' (first | (with_reducible exact Below.refl _ _) | (with_reducible assumption) | (with_reducible refine Below.alloc ?_ ?_ _) | (with_reducible refine Below.drew ?_) | (with_reducible refine below_drewN ?_ _) | (with_reducible refine Below.setCell ?_ ?_ _) | (with_reducible exact Nat.le_refl _) | omega | (simp <;> omega)))).trans (hb3.mono (show w.heap.size ≤ _ by (first | (with_reducible exact Nat.le_refl _) | (with_reducible assumption) | omega | (simp <;> omega))))
        obtain ⟨p1, -⟩ := bkeep hb3 w.heap.size (by (first | (with_reducible exact Nat.le_refl _) | (with_reducible assumption) | omega | (simp <;> omega)))
        obtain ⟨p2, -⟩ := bkeep hb3 (w.heap.size + 1) (by (first | (with_reducible exact Nat.le_refl _) | (with_reducible assumption) | omega | (simp <;> omega)))
        obtain ⟨p3, -⟩ := bkeep hb3 w2.heap.size (by (first | (with_reducible exact Nat.le_refl _) | (with_reducible assumption) | omega | (simp <;> omega)))
        obtain ⟨p4, -⟩ := bkeep hb3 (w2.heap.size + 1) (by (first | (with_reducible exact Nat.le_refl _) | (with_reducible assumption) | omega | (simp <;> omega)))
        clear hb3
        go_wp2_with fail
        refine (dawake_any _).mono ?_
        rintro e w10 ⟨rfl, hb10⟩
        have hB10 := hB3.trans (hb10.mono hB3.size)
        clear hB3 hb10 p1 p2 p3 p4 m1 m2
        go_wp2_with fail
        go_ret
        exact ⟨rfl, hB10⟩
      · have htok : True := trivial
        have HO1 := Lib.hid (HO.out true false (.inr rfl))
        have HV1 := Lib.hid (HV.out true false (by intro h; cases h))
        have HS1 := Lib.hid ((HS.out true false (.inr rfl) (by intro h; cases h)).1)
        have HS2 := Lib.hid ((HS.out true false (.inr rfl) (by intro h; cases h)).2.1)
        have HS3 := Lib.hid ((HS.out true false (.inr rfl) (by intro h; cases h)).2.2)
        clear HO HV HS
        go_enter Try.func8, Try.ntmps8
        go_wp2_with (first | (go_at_call 20; refine (mod_any _ _ _ (by omega)).mono ?_; rintro e w' ⟨rfl, rfl⟩))
        refine still_tail_drew 10 (by kernel_rfl) (by kernel_rfl) ?_
        simp only [List.take_succ_cons, List.take_zero, List.drop_succ_cons, List.drop_zero]
        repeat still_step
        still_call ((mod_any t 50 _ (by omega)).mono fun _ _ h => ⟨h.1, h.2.symm⟩)
        repeat still_step
        refine wpStill_nil ?_
        go_wp2_with (first | (go_at_call 20; refine (mod_any _ _ _ (by omega)).mono ?_; rintro e w' ⟨rfl, rfl⟩))
        refine (dnext_any _ _ _ _ _ _ _ (by omega)).mono ?_
        simp only [nextA, nextB, HO1.out, Bool.false_eq_true, if_false]
        rintro e w1 ⟨rfl, hb1⟩
        have hs1 := hb1.size
        simp only [World.size_alloc, World.size_drew] at hs1
        have hB1 := (show Below w.heap.size w _ by (repeat' (first | (with_reducible exact Below.refl _ _) | (with_reducible assumption) | (with_reducible refine Below.alloc ?_ ?_ _) | (with_reducible refine Below.drew ?_) | (with_reducible refine below_drewN ?_ _) | (with_reducible refine Below.setCell ?_ ?_ _) | (with_reducible exact Nat.le_refl _) | omega | (simp <;> omega)))).trans (hb1.mono (show w.heap.size ≤ _ by (first | (with_reducible exact Nat.le_refl _) | (with_reducible assumption) | omega | (simp <;> omega))))
        obtain ⟨k1, f1⟩ := bkeep hb1 w.heap.size (by (first | (with_reducible exact Nat.le_refl _) | (with_reducible assumption) | omega | (simp <;> omega)))
        obtain ⟨k2, f2⟩ := bkeep hb1 (w.heap.size + 1) (by (first | (with_reducible exact Nat.le_refl _) | (with_reducible assumption) | omega | (simp <;> omega)))
        have l1 : w.heap.size < w1.heap.size := by omega
        have l2 : w.heap.size + 1 < w1.heap.size := by omega
        clear hb1
        go_wp2_with fail
        refine (dstep_any _ _ _ _ _ _ _ ⟨a, bs, d, p⟩ _ (by omega) (HL.out.below hB1) hn).mono ?_
        simp only [HS1.out, HS2.out, HS3.out]
        rintro e w2 ⟨v2, rfl, ⟨A2, c2, rfl, -⟩, hb2⟩
        simp only [TrV, LineD.zero, List.length_nil]
        have hs2 := hb2.size
        have hB2 := hB1.trans (hb2.mono hB1.size)
        obtain ⟨m1, -⟩ := bkeep hb2 w.heap.size l1
        obtain ⟨m2, -⟩ := bkeep hb2 (w.heap.size + 1) l2
        simp only [k1, k2] at m1 m2
        have l3 : w.heap.size < w2.heap.size := by omega
        have l4 : w.heap.size + 1 < w2.heap.size := by omega
        clear hb2 k1 k2 f1 f2 l1 l2 hB1 hs1
        have hz2 := hB2.size
        go_wp2_with fail
        refine (dvalid_any _ _ _ _ _ _ _ (by omega)).mono ?_
        rewrite [HV1.out]
        rintro e w3 ⟨rfl, hb3⟩
        have hs3 := hb3.size
        simp only [World.size_alloc] at hs3
        have hB3 := (show Below w.heap.size w _ by (repeat' (first | (with_reducible exact Below.refl _ _) | (with_reducible assumption) | (with_reducible refine Below.alloc ?_ ?_ _) | (with_reducible refine Below.drew ?_) | (with_reducible refine below_drewN ?_ _) | (with_reducible refine Below.setCell ?_ ?_ _) | (with_reducible exact Nat.le_refl _) | omega | (simp <;> omega)))).trans (hb3.mono (show w.heap.size ≤ _ by (first | (with_reducible exact Nat.le_refl _) | (with_reducible assumption) | omega | (simp <;> omega))))
        obtain ⟨p1, -⟩ := bkeep hb3 w.heap.size (by (first | (with_reducible exact Nat.le_refl _) | (with_reducible assumption) | omega | (simp <;> omega)))
        obtain ⟨p2, -⟩ := bkeep hb3 (w.heap.size + 1) (by (first | (with_reducible exact Nat.le_refl _) | (with_reducible assumption) | omega | (simp <;> omega)))
        obtain ⟨p3, -⟩ := bkeep hb3 w2.heap.size (by (first | (with_reducible exact Nat.le_refl _) | (with_reducible assumption) | omega | (simp <;> omega)))
        obtain ⟨p4, -⟩ := bkeep hb3 (w2.heap.size + 1) (by (first | (with_reducible exact Nat.le_refl _) | (with_reducible assumption) | omega | (simp <;> omega)))
        clear hb3
        go_wp2_with fail
        refine (dawake_any _).mono ?_
        rintro e w10 ⟨rfl, hb10⟩
        have hB10 := hB3.trans (hb10.mono hB3.size)
        clear hB3 hb10 p1 p2 p3 p4 m1 m2
        go_wp2_with fail
        go_ret
        exact ⟨rfl, hB10⟩
  · have hlt : D < C := by omega
    have hne : (D == C) = false := by simp [hD]
    cases x
    · have htok : True := trivial
      have hv := HV.out s false (by intro h; cases h)
      have hlv : liveT ⟨F, TT, C, D, s, false⟩ = true := by simp [liveT, overT, hv, hD]
      have HLV := Lib.hid hlv
      by_cases ha : a = F + D
      · subst ha
        by_cases hps : p = true ∧ s = true
        · obtain ⟨rfl, rfl⟩ := hps
          have hdd : (D == D + 1) = false := by simp; omega
          have e1 : stepT ⟨F, TT, C, D, true, false⟩ ⟨F + D, bs, d, true⟩ = ⟨F, TT, C, D, true, true⟩ := by simp [stepT, hlv]
          have e2 : stepL ⟨F, TT, C, D, true, false⟩ ⟨F + D, bs, d, true⟩ = LineD.zero := by simp [stepL, hlv]
          have e3 : stepE ⟨F, TT, C, D, true, false⟩ ⟨F + D, bs, d, true⟩ = 48 := by simp [stepE, hv, hlv]
          have E1 := Lib.hid e1
          have E2 := Lib.hid e2
          have E3 := Lib.hid e3
          clear e1 e2 e3 hv hlv
          go_enter Try.func8, Try.ntmps8
          go_wp2_with (first | (go_at_call 20; refine (mod_any _ _ _ (by omega)).mono ?_; rintro e w' ⟨rfl, rfl⟩))
          refine still_tail_drew 10 (by kernel_rfl) (by kernel_rfl) ?_
          simp only [List.take_succ_cons, List.take_zero, List.drop_succ_cons, List.drop_zero]
          repeat still_step
          still_call ((mod_any t 50 _ (by omega)).mono fun _ _ h => ⟨h.1, h.2.symm⟩)
          repeat still_step
          refine wpStill_nil ?_
          go_wp2_with (first | (go_at_call 20; refine (mod_any _ _ _ (by omega)).mono ?_; rintro e w' ⟨rfl, rfl⟩))
          refine (dnext_any _ _ _ _ _ _ _ (by omega)).mono ?_
          simp only [nextA, nextB, HLV.out, if_true]
          rintro e w1 ⟨rfl, hb1⟩
          have hs1 := hb1.size
          simp only [World.size_alloc, World.size_drew] at hs1
          have hB1 := (show Below w.heap.size w _ by (repeat' (first | (with_reducible exact Below.refl _ _) | (with_reducible assumption) | (with_reducible refine Below.alloc ?_ ?_ _) | (with_reducible refine Below.drew ?_) | (with_reducible refine below_drewN ?_ _) | (with_reducible refine Below.setCell ?_ ?_ _) | (with_reducible exact Nat.le_refl _) | omega | (simp <;> omega)))).trans (hb1.mono (show w.heap.size ≤ _ by (first | (with_reducible exact Nat.le_refl _) | (with_reducible assumption) | omega | (simp <;> omega))))
          obtain ⟨k1, f1⟩ := bkeep hb1 w.heap.size (by (first | (with_reducible exact Nat.le_refl _) | (with_reducible assumption) | omega | (simp <;> omega)))
          obtain ⟨k2, f2⟩ := bkeep hb1 (w.heap.size + 1) (by (first | (with_reducible exact Nat.le_refl _) | (with_reducible assumption) | omega | (simp <;> omega)))
          have l1 : w.heap.size < w1.heap.size := by omega
          have l2 : w.heap.size + 1 < w1.heap.size := by omega
          clear hb1
          go_wp2_with fail
          refine (dstep_any _ _ _ _ _ _ _ ⟨F + D, bs, d, true⟩ _ (by omega) (HL.out.below hB1) hn).mono ?_
          simp only [E1.out, E2.out, E3.out]
          clear E1 E2 E3
          rintro e w2 ⟨v2, rfl, ⟨A2, c2, rfl, -⟩, hb2⟩
          simp only [TrV, LineD.zero, List.length_nil]
          have hs2 := hb2.size
          have hB2 := hB1.trans (hb2.mono hB1.size)
          obtain ⟨m1, -⟩ := bkeep hb2 w.heap.size l1
          obtain ⟨m2, -⟩ := bkeep hb2 (w.heap.size + 1) l2
          simp only [k1, k2] at m1 m2
          have l3 : w.heap.size < w2.heap.size := by omega
          have l4 : w.heap.size + 1 < w2.heap.size := by omega
          clear hb2 k1 k2 f1 f2 l1 l2 hB1 hs1
          have hz2 := hB2.size
          go_wp2_with fail
          refine (dvalid_any _ _ _ _ _ _ _ (by omega)).mono ?_
          rewrite [HV.out _ _ (by first | (intro h; cases h) | (intro _; exact ⟨rfl, by omega⟩))]
          rintro e w3 ⟨rfl, hb3⟩
          have hs3 := hb3.size
          simp only [World.size_alloc] at hs3
          have hB3 := (show Below w.heap.size w _ by (repeat' (first | (with_reducible exact Below.refl _ _) | (with_reducible assumption) | (with_reducible refine Below.alloc ?_ ?_ _) | (with_reducible refine Below.drew ?_) | (with_reducible refine below_drewN ?_ _) | (with_reducible refine Below.setCell ?_ ?_ _) | (with_reducible exact Nat.le_refl _) | omega | (simp <;> omega)))).trans (hb3.mono (show w.heap.size ≤ _ by (first | (with_reducible exact Nat.le_refl _) | (with_reducible assumption) | omega | (simp <;> omega))))
          obtain ⟨p1, -⟩ := bkeep hb3 w.heap.size (by (first | (with_reducible exact Nat.le_refl _) | (with_reducible assumption) | omega | (simp <;> omega)))
          obtain ⟨p2, -⟩ := bkeep hb3 (w.heap.size + 1) (by (first | (with_reducible exact Nat.le_refl _) | (with_reducible assumption) | omega | (simp <;> omega)))
          obtain ⟨p3, -⟩ := bkeep hb3 w2.heap.size (by (first | (with_reducible exact Nat.le_refl _) | (with_reducible assumption) | omega | (simp <;> omega)))
          obtain ⟨p4, -⟩ := bkeep hb3 (w2.heap.size + 1) (by (first | (with_reducible exact Nat.le_refl _) | (with_reducible assumption) | omega | (simp <;> omega)))
          clear hb3
          go_wp2_with fail
          refine (dawake_any _).mono ?_
          rintro e w10 ⟨rfl, hb10⟩
          have hB10 := hB3.trans (hb10.mono hB3.size)
          clear hB3 hb10 p1 p2 p3 p4 m1 m2
          go_wp2_with fail
          go_ret
          exact ⟨rfl, hB10⟩
        · have e1 : stepT ⟨F, TT, C, D, s, false⟩ ⟨F + D, bs, d, p⟩ = ⟨F, TT, C, D + 1, s, false⟩ := by simp [stepT, hlv]; try (simpa using hps)
          have e2 : stepL ⟨F, TT, C, D, s, false⟩ ⟨F + D, bs, d, p⟩ = ⟨TT + D, bs, true, p⟩ := by simp [stepL, hlv]; try (first | (intro h1 h2; exact absurd ⟨h1, h2⟩ hps) | simpa using hps)
          have e3 : stepE ⟨F, TT, C, D, s, false⟩ ⟨F + D, bs, d, p⟩ = 0 := by simp [stepE, hv, hlv]; try (simpa using hps)
          have E1 := Lib.hid e1
          have E2 := Lib.hid e2
          have E3 := Lib.hid e3
          clear e1 e2 e3 hv hlv hps
          go_enter Try.func8, Try.ntmps8
          go_wp2_with (first | (go_at_call 20; refine (mod_any _ _ _ (by omega)).mono ?_; rintro e w' ⟨rfl, rfl⟩))
          refine still_tail_drew 10 (by kernel_rfl) (by kernel_rfl) ?_
          simp only [List.take_succ_cons, List.take_zero, List.drop_succ_cons, List.drop_zero]
          repeat still_step
          still_call ((mod_any t 50 _ (by omega)).mono fun _ _ h => ⟨h.1, h.2.symm⟩)
          repeat still_step
          refine wpStill_nil ?_
          go_wp2_with (first | (go_at_call 20; refine (mod_any _ _ _ (by omega)).mono ?_; rintro e w' ⟨rfl, rfl⟩))
          refine (dnext_any _ _ _ _ _ _ _ (by omega)).mono ?_
          simp only [nextA, nextB, HLV.out, if_true]
          rintro e w1 ⟨rfl, hb1⟩
          have hs1 := hb1.size
          simp only [World.size_alloc, World.size_drew] at hs1
          have hB1 := (show Below w.heap.size w _ by (repeat' (first | (with_reducible exact Below.refl _ _) | (with_reducible assumption) | (with_reducible refine Below.alloc ?_ ?_ _) | (with_reducible refine Below.drew ?_) | (with_reducible refine below_drewN ?_ _) | (with_reducible refine Below.setCell ?_ ?_ _) | (with_reducible exact Nat.le_refl _) | omega | (simp <;> omega)))).trans (hb1.mono (show w.heap.size ≤ _ by (first | (with_reducible exact Nat.le_refl _) | (with_reducible assumption) | omega | (simp <;> omega))))
          obtain ⟨k1, f1⟩ := bkeep hb1 w.heap.size (by (first | (with_reducible exact Nat.le_refl _) | (with_reducible assumption) | omega | (simp <;> omega)))
          obtain ⟨k2, f2⟩ := bkeep hb1 (w.heap.size + 1) (by (first | (with_reducible exact Nat.le_refl _) | (with_reducible assumption) | omega | (simp <;> omega)))
          have l1 : w.heap.size < w1.heap.size := by omega
          have l2 : w.heap.size + 1 < w1.heap.size := by omega
          clear hb1
          go_wp2_with fail
          refine (dstep_any _ _ _ _ _ _ _ ⟨F + D, bs, d, p⟩ _ (by omega) (HL.out.below hB1) hn).mono ?_
          simp only [E1.out, E2.out, E3.out]
          clear E1 E2 E3
          rintro e w2 ⟨v2, rfl, ⟨A2, c2, rfl, -⟩, hb2⟩
          simp only [TrV, LineD.zero, List.length_nil]
          have hs2 := hb2.size
          have hB2 := hB1.trans (hb2.mono hB1.size)
          obtain ⟨m1, -⟩ := bkeep hb2 w.heap.size l1
          obtain ⟨m2, -⟩ := bkeep hb2 (w.heap.size + 1) l2
          simp only [k1, k2] at m1 m2
          have l3 : w.heap.size < w2.heap.size := by omega
          have l4 : w.heap.size + 1 < w2.heap.size := by omega
          clear hb2 k1 k2 f1 f2 l1 l2 hB1 hs1
          have hz2 := hB2.size
          go_wp2_with fail
          refine (dvalid_any _ _ _ _ _ _ _ (by omega)).mono ?_
          rewrite [HV.out _ _ (by first | (intro h; cases h) | (intro _; exact ⟨rfl, by omega⟩))]
          rintro e w3 ⟨rfl, hb3⟩
          have hs3 := hb3.size
          simp only [World.size_alloc] at hs3
          have hB3 := (show Below w.heap.size w _ by (repeat' (first | (with_reducible exact Below.refl _ _) | (with_reducible assumption) | (with_reducible refine Below.alloc ?_ ?_ _) | (with_reducible refine Below.drew ?_) | (with_reducible refine below_drewN ?_ _) | (with_reducible refine Below.setCell ?_ ?_ _) | (with_reducible exact Nat.le_refl _) | omega | (simp <;> omega)))).trans (hb3.mono (show w.heap.size ≤ _ by (first | (with_reducible exact Nat.le_refl _) | (with_reducible assumption) | omega | (simp <;> omega))))
          obtain ⟨p1, -⟩ := bkeep hb3 w.heap.size (by (first | (with_reducible exact Nat.le_refl _) | (with_reducible assumption) | omega | (simp <;> omega)))
          obtain ⟨p2, -⟩ := bkeep hb3 (w.heap.size + 1) (by (first | (with_reducible exact Nat.le_refl _) | (with_reducible assumption) | omega | (simp <;> omega)))
          obtain ⟨p3, -⟩ := bkeep hb3 w2.heap.size (by (first | (with_reducible exact Nat.le_refl _) | (with_reducible assumption) | omega | (simp <;> omega)))
          obtain ⟨p4, -⟩ := bkeep hb3 (w2.heap.size + 1) (by (first | (with_reducible exact Nat.le_refl _) | (with_reducible assumption) | omega | (simp <;> omega)))
          clear hb3
          go_wp2_with fail
          refine (dawake_any _).mono ?_
          rintro e w10 ⟨rfl, hb10⟩
          have hB10 := hB3.trans (hb10.mono hB3.size)
          clear hB3 hb10 p1 p2 p3 p4 m1 m2
          go_wp2_with fail
          go_ret
          exact ⟨rfl, hB10⟩
      · have hna : (a != F + D) = true := by simp [ha]
        have e1 : stepT ⟨F, TT, C, D, s, false⟩ ⟨a, bs, d, p⟩ = ⟨F, TT, C, D, s, false⟩ := by simp [stepT, ha]
        have e2 : stepL ⟨F, TT, C, D, s, false⟩ ⟨a, bs, d, p⟩ = LineD.zero := by simp [stepL, ha]
        have e3 : stepE ⟨F, TT, C, D, s, false⟩ ⟨a, bs, d, p⟩ = 17 := by simp [stepE, hv, hlv, ha]
        have E1 := Lib.hid e1
        have E2 := Lib.hid e2
        have E3 := Lib.hid e3
        clear e1 e2 e3 hv hlv ha
        go_enter Try.func8, Try.ntmps8
        go_wp2_with (first | (go_at_call 20; refine (mod_any _ _ _ (by omega)).mono ?_; rintro e w' ⟨rfl, rfl⟩))
        refine still_tail_drew 10 (by kernel_rfl) (by kernel_rfl) ?_
        simp only [List.take_succ_cons, List.take_zero, List.drop_succ_cons, List.drop_zero]
        repeat still_step
        still_call ((mod_any t 50 _ (by omega)).mono fun _ _ h => ⟨h.1, h.2.symm⟩)
        repeat still_step
        refine wpStill_nil ?_
        go_wp2_with (first | (go_at_call 20; refine (mod_any _ _ _ (by omega)).mono ?_; rintro e w' ⟨rfl, rfl⟩))
        refine (dnext_any _ _ _ _ _ _ _ (by omega)).mono ?_
        simp only [nextA, nextB, HLV.out, if_true]
        rintro e w1 ⟨rfl, hb1⟩
        have hs1 := hb1.size
        simp only [World.size_alloc, World.size_drew] at hs1
        have hB1 := (show Below w.heap.size w _ by (repeat' (first | (with_reducible exact Below.refl _ _) | (with_reducible assumption) | (with_reducible refine Below.alloc ?_ ?_ _) | (with_reducible refine Below.drew ?_) | (with_reducible refine below_drewN ?_ _) | (with_reducible refine Below.setCell ?_ ?_ _) | (with_reducible exact Nat.le_refl _) | omega | (simp <;> omega)))).trans (hb1.mono (show w.heap.size ≤ _ by (first | (with_reducible exact Nat.le_refl _) | (with_reducible assumption) | omega | (simp <;> omega))))
        obtain ⟨k1, f1⟩ := bkeep hb1 w.heap.size (by (first | (with_reducible exact Nat.le_refl _) | (with_reducible assumption) | omega | (simp <;> omega)))
        obtain ⟨k2, f2⟩ := bkeep hb1 (w.heap.size + 1) (by (first | (with_reducible exact Nat.le_refl _) | (with_reducible assumption) | omega | (simp <;> omega)))
        have l1 : w.heap.size < w1.heap.size := by omega
        have l2 : w.heap.size + 1 < w1.heap.size := by omega
        clear hb1
        go_wp2_with fail
        refine (dstep_any _ _ _ _ _ _ _ ⟨a, bs, d, p⟩ _ (by omega) (HL.out.below hB1) hn).mono ?_
        simp only [E1.out, E2.out, E3.out]
        clear E1 E2 E3
        rintro e w2 ⟨v2, rfl, ⟨A2, c2, rfl, -⟩, hb2⟩
        simp only [TrV, LineD.zero, List.length_nil]
        have hs2 := hb2.size
        have hB2 := hB1.trans (hb2.mono hB1.size)
        obtain ⟨m1, -⟩ := bkeep hb2 w.heap.size l1
        obtain ⟨m2, -⟩ := bkeep hb2 (w.heap.size + 1) l2
        simp only [k1, k2] at m1 m2
        have l3 : w.heap.size < w2.heap.size := by omega
        have l4 : w.heap.size + 1 < w2.heap.size := by omega
        clear hb2 k1 k2 f1 f2 l1 l2 hB1 hs1
        have hz2 := hB2.size
        go_wp2_with fail
        refine (dvalid_any _ _ _ _ _ _ _ (by omega)).mono ?_
        rewrite [HV.out _ _ (by first | (intro h; cases h) | (intro _; exact ⟨rfl, by omega⟩))]
        rintro e w3 ⟨rfl, hb3⟩
        have hs3 := hb3.size
        simp only [World.size_alloc] at hs3
        have hB3 := (show Below w.heap.size w _ by (repeat' (first | (with_reducible exact Below.refl _ _) | (with_reducible assumption) | (with_reducible refine Below.alloc ?_ ?_ _) | (with_reducible refine Below.drew ?_) | (with_reducible refine below_drewN ?_ _) | (with_reducible refine Below.setCell ?_ ?_ _) | (with_reducible exact Nat.le_refl _) | omega | (simp <;> omega)))).trans (hb3.mono (show w.heap.size ≤ _ by (first | (with_reducible exact Nat.le_refl _) | (with_reducible assumption) | omega | (simp <;> omega))))
        obtain ⟨p1, -⟩ := bkeep hb3 w.heap.size (by (first | (with_reducible exact Nat.le_refl _) | (with_reducible assumption) | omega | (simp <;> omega)))
        obtain ⟨p2, -⟩ := bkeep hb3 (w.heap.size + 1) (by (first | (with_reducible exact Nat.le_refl _) | (with_reducible assumption) | omega | (simp <;> omega)))
        obtain ⟨p3, -⟩ := bkeep hb3 w2.heap.size (by (first | (with_reducible exact Nat.le_refl _) | (with_reducible assumption) | omega | (simp <;> omega)))
        obtain ⟨p4, -⟩ := bkeep hb3 (w2.heap.size + 1) (by (first | (with_reducible exact Nat.le_refl _) | (with_reducible assumption) | omega | (simp <;> omega)))
        clear hb3
        go_wp2_with fail
        refine (dawake_any _).mono ?_
        rintro e w10 ⟨rfl, hb10⟩
        have hB10 := hB3.trans (hb10.mono hB3.size)
        clear hB3 hb10 p1 p2 p3 p4 m1 m2
        go_wp2_with fail
        go_ret
        exact ⟨rfl, hB10⟩
    · cases s
      · have htok : True := trivial
        have hv := HV.out false false (by intro h; cases h)
        have hlv : liveT ⟨F, TT, C, D, false, false⟩ = true := by simp [liveT, overT, hv, hD]
        have HLV := Lib.hid hlv
        by_cases ha : a = F + D
        · subst ha
          by_cases hps : p = true ∧ false = true
          · exact absurd hps.2 (by decide)
          · have e1 : stepT ⟨F, TT, C, D, false, false⟩ ⟨F + D, bs, d, p⟩ = ⟨F, TT, C, D + 1, false, false⟩ := by simp [stepT, hlv]; try (simpa using hps)
            have e2 : stepL ⟨F, TT, C, D, false, false⟩ ⟨F + D, bs, d, p⟩ = ⟨TT + D, bs, true, p⟩ := by simp [stepL, hlv]; try (first | (intro h1 h2; exact absurd ⟨h1, h2⟩ hps) | simpa using hps)
            have e3 : stepE ⟨F, TT, C, D, false, false⟩ ⟨F + D, bs, d, p⟩ = 0 := by simp [stepE, hv, hlv]; try (simpa using hps)
            have E1 := Lib.hid e1
            have E2 := Lib.hid e2
            have E3 := Lib.hid e3
            clear e1 e2 e3 hv hlv hps
            go_enter Try.func8, Try.ntmps8
            go_wp2_with (first | (go_at_call 20; refine (mod_any _ _ _ (by omega)).mono ?_; rintro e w' ⟨rfl, rfl⟩))
            refine still_tail_drew 10 (by kernel_rfl) (by kernel_rfl) ?_
            simp only [List.take_succ_cons, List.take_zero, List.drop_succ_cons, List.drop_zero]
            repeat still_step
            still_call ((mod_any t 50 _ (by omega)).mono fun _ _ h => ⟨h.1, h.2.symm⟩)
            repeat still_step
            refine wpStill_nil ?_
            go_wp2_with (first | (go_at_call 20; refine (mod_any _ _ _ (by omega)).mono ?_; rintro e w' ⟨rfl, rfl⟩))
            refine (dnext_any _ _ _ _ _ _ _ (by omega)).mono ?_
            simp only [nextA, nextB, HLV.out, if_true]
            rintro e w1 ⟨rfl, hb1⟩
            have hs1 := hb1.size
            simp only [World.size_alloc, World.size_drew] at hs1
            have hB1 := (show Below w.heap.size w _ by (repeat' (first | (with_reducible exact Below.refl _ _) | (with_reducible assumption) | (with_reducible refine Below.alloc ?_ ?_ _) | (with_reducible refine Below.drew ?_) | (with_reducible refine below_drewN ?_ _) | (with_reducible refine Below.setCell ?_ ?_ _) | (with_reducible exact Nat.le_refl _) | omega | (simp <;> omega)))).trans (hb1.mono (show w.heap.size ≤ _ by (first | (with_reducible exact Nat.le_refl _) | (with_reducible assumption) | omega | (simp <;> omega))))
            obtain ⟨k1, f1⟩ := bkeep hb1 w.heap.size (by (first | (with_reducible exact Nat.le_refl _) | (with_reducible assumption) | omega | (simp <;> omega)))
            obtain ⟨k2, f2⟩ := bkeep hb1 (w.heap.size + 1) (by (first | (with_reducible exact Nat.le_refl _) | (with_reducible assumption) | omega | (simp <;> omega)))
            have l1 : w.heap.size < w1.heap.size := by omega
            have l2 : w.heap.size + 1 < w1.heap.size := by omega
            clear hb1
            go_wp2_with fail
            refine (dstep_any _ _ _ _ _ _ _ ⟨F + D, bs, d, p⟩ _ (by omega) (HL.out.below hB1) hn).mono ?_
            simp only [E1.out, E2.out, E3.out]
            clear E1 E2 E3
            rintro e w2 ⟨v2, rfl, ⟨A2, c2, rfl, -⟩, hb2⟩
            simp only [TrV, LineD.zero, List.length_nil]
            have hs2 := hb2.size
            have hB2 := hB1.trans (hb2.mono hB1.size)
            obtain ⟨m1, -⟩ := bkeep hb2 w.heap.size l1
            obtain ⟨m2, -⟩ := bkeep hb2 (w.heap.size + 1) l2
            simp only [k1, k2] at m1 m2
            have l3 : w.heap.size < w2.heap.size := by omega
            have l4 : w.heap.size + 1 < w2.heap.size := by omega
            clear hb2 k1 k2 f1 f2 l1 l2 hB1 hs1
            have hz2 := hB2.size
            go_wp2_with fail
            refine (dvalid_any _ _ _ _ _ _ _ (by omega)).mono ?_
            rewrite [HV.out _ _ (by first | (intro h; cases h) | (intro _; exact ⟨rfl, by omega⟩))]
            rintro e w3 ⟨rfl, hb3⟩
            have hs3 := hb3.size
            simp only [World.size_alloc] at hs3
            have hB3 := (show Below w.heap.size w _ by (repeat' (first | (with_reducible exact Below.refl _ _) | (with_reducible assumption) | (with_reducible refine Below.alloc ?_ ?_ _) | (with_reducible refine Below.drew ?_) | (with_reducible refine below_drewN ?_ _) | (with_reducible refine Below.setCell ?_ ?_ _) | (with_reducible exact Nat.le_refl _) | omega | (simp <;> omega)))).trans (hb3.mono (show w.heap.size ≤ _ by (first | (with_reducible exact Nat.le_refl _) | (with_reducible assumption) | omega | (simp <;> omega))))
            obtain ⟨p1, -⟩ := bkeep hb3 w.heap.size (by (first | (with_reducible exact Nat.le_refl _) | (with_reducible assumption) | omega | (simp <;> omega)))
            obtain ⟨p2, -⟩ := bkeep hb3 (w.heap.size + 1) (by (first | (with_reducible exact Nat.le_refl _) | (with_reducible assumption) | omega | (simp <;> omega)))
            obtain ⟨p3, -⟩ := bkeep hb3 w2.heap.size (by (first | (with_reducible exact Nat.le_refl _) | (with_reducible assumption) | omega | (simp <;> omega)))
            obtain ⟨p4, -⟩ := bkeep hb3 (w2.heap.size + 1) (by (first | (with_reducible exact Nat.le_refl _) | (with_reducible assumption) | omega | (simp <;> omega)))
            clear hb3
            go_wp2_with fail
            refine (dawake_any _).mono ?_
            rintro e w10 ⟨rfl, hb10⟩
            have hB10 := hB3.trans (hb10.mono hB3.size)
            clear hB3 hb10 p1 p2 p3 p4 m1 m2
            go_wp2_with fail
            go_ret
            exact ⟨rfl, hB10⟩
        · have hna : (a != F + D) = true := by simp [ha]
          have e1 : stepT ⟨F, TT, C, D, false, false⟩ ⟨a, bs, d, p⟩ = ⟨F, TT, C, D, false, false⟩ := by simp [stepT, ha]
          have e2 : stepL ⟨F, TT, C, D, false, false⟩ ⟨a, bs, d, p⟩ = LineD.zero := by simp [stepL, ha]
          have e3 : stepE ⟨F, TT, C, D, false, false⟩ ⟨a, bs, d, p⟩ = 17 := by simp [stepE, hv, hlv, ha]
          have E1 := Lib.hid e1
          have E2 := Lib.hid e2
          have E3 := Lib.hid e3
          clear e1 e2 e3 hv hlv ha
          go_enter Try.func8, Try.ntmps8
          go_wp2_with (first | (go_at_call 20; refine (mod_any _ _ _ (by omega)).mono ?_; rintro e w' ⟨rfl, rfl⟩))
          refine still_tail_drew 10 (by kernel_rfl) (by kernel_rfl) ?_
          simp only [List.take_succ_cons, List.take_zero, List.drop_succ_cons, List.drop_zero]
          repeat still_step
          still_call ((mod_any t 50 _ (by omega)).mono fun _ _ h => ⟨h.1, h.2.symm⟩)
          repeat still_step
          refine wpStill_nil ?_
          go_wp2_with (first | (go_at_call 20; refine (mod_any _ _ _ (by omega)).mono ?_; rintro e w' ⟨rfl, rfl⟩))
          refine (dnext_any _ _ _ _ _ _ _ (by omega)).mono ?_
          simp only [nextA, nextB, HLV.out, if_true]
          rintro e w1 ⟨rfl, hb1⟩
          have hs1 := hb1.size
          simp only [World.size_alloc, World.size_drew] at hs1
          have hB1 := (show Below w.heap.size w _ by (repeat' (first | (with_reducible exact Below.refl _ _) | (with_reducible assumption) | (with_reducible refine Below.alloc ?_ ?_ _) | (with_reducible refine Below.drew ?_) | (with_reducible refine below_drewN ?_ _) | (with_reducible refine Below.setCell ?_ ?_ _) | (with_reducible exact Nat.le_refl _) | omega | (simp <;> omega)))).trans (hb1.mono (show w.heap.size ≤ _ by (first | (with_reducible exact Nat.le_refl _) | (with_reducible assumption) | omega | (simp <;> omega))))
          obtain ⟨k1, f1⟩ := bkeep hb1 w.heap.size (by (first | (with_reducible exact Nat.le_refl _) | (with_reducible assumption) | omega | (simp <;> omega)))
          obtain ⟨k2, f2⟩ := bkeep hb1 (w.heap.size + 1) (by (first | (with_reducible exact Nat.le_refl _) | (with_reducible assumption) | omega | (simp <;> omega)))
          have l1 : w.heap.size < w1.heap.size := by omega
          have l2 : w.heap.size + 1 < w1.heap.size := by omega
          clear hb1
          go_wp2_with fail
          refine (dstep_any _ _ _ _ _ _ _ ⟨a, bs, d, p⟩ _ (by omega) (HL.out.below hB1) hn).mono ?_
          simp only [E1.out, E2.out, E3.out]
          clear E1 E2 E3
          rintro e w2 ⟨v2, rfl, ⟨A2, c2, rfl, -⟩, hb2⟩
          simp only [TrV, LineD.zero, List.length_nil]
          have hs2 := hb2.size
          have hB2 := hB1.trans (hb2.mono hB1.size)
          obtain ⟨m1, -⟩ := bkeep hb2 w.heap.size l1
          obtain ⟨m2, -⟩ := bkeep hb2 (w.heap.size + 1) l2
          simp only [k1, k2] at m1 m2
          have l3 : w.heap.size < w2.heap.size := by omega
          have l4 : w.heap.size + 1 < w2.heap.size := by omega
          clear hb2 k1 k2 f1 f2 l1 l2 hB1 hs1
          have hz2 := hB2.size
          go_wp2_with fail
          refine (dvalid_any _ _ _ _ _ _ _ (by omega)).mono ?_
          rewrite [HV.out _ _ (by first | (intro h; cases h) | (intro _; exact ⟨rfl, by omega⟩))]
          rintro e w3 ⟨rfl, hb3⟩
          have hs3 := hb3.size
          simp only [World.size_alloc] at hs3
          have hB3 := (show Below w.heap.size w _ by (repeat' (first | (with_reducible exact Below.refl _ _) | (with_reducible assumption) | (with_reducible refine Below.alloc ?_ ?_ _) | (with_reducible refine Below.drew ?_) | (with_reducible refine below_drewN ?_ _) | (with_reducible refine Below.setCell ?_ ?_ _) | (with_reducible exact Nat.le_refl _) | omega | (simp <;> omega)))).trans (hb3.mono (show w.heap.size ≤ _ by (first | (with_reducible exact Nat.le_refl _) | (with_reducible assumption) | omega | (simp <;> omega))))
          obtain ⟨p1, -⟩ := bkeep hb3 w.heap.size (by (first | (with_reducible exact Nat.le_refl _) | (with_reducible assumption) | omega | (simp <;> omega)))
          obtain ⟨p2, -⟩ := bkeep hb3 (w.heap.size + 1) (by (first | (with_reducible exact Nat.le_refl _) | (with_reducible assumption) | omega | (simp <;> omega)))
          obtain ⟨p3, -⟩ := bkeep hb3 w2.heap.size (by (first | (with_reducible exact Nat.le_refl _) | (with_reducible assumption) | omega | (simp <;> omega)))
          obtain ⟨p4, -⟩ := bkeep hb3 (w2.heap.size + 1) (by (first | (with_reducible exact Nat.le_refl _) | (with_reducible assumption) | omega | (simp <;> omega)))
          clear hb3
          go_wp2_with fail
          refine (dawake_any _).mono ?_
          rintro e w10 ⟨rfl, hb10⟩
          have hB10 := hB3.trans (hb10.mono hB3.size)
          clear hB3 hb10 p1 p2 p3 p4 m1 m2
          go_wp2_with fail
          go_ret
          exact ⟨rfl, hB10⟩
      · have htok : True := trivial
        have HO1 := Lib.hid (HO.out true true (.inl rfl))
        have HV1 := Lib.hid (HV.out true true (fun _ => ⟨rfl, hlt⟩))
        have HS1 := Lib.hid ((HS.out true true (.inl rfl) (fun _ => ⟨rfl, hlt⟩)).1)
        have HS2 := Lib.hid ((HS.out true true (.inl rfl) (fun _ => ⟨rfl, hlt⟩)).2.1)
        have HS3 := Lib.hid ((HS.out true true (.inl rfl) (fun _ => ⟨rfl, hlt⟩)).2.2)
        clear HO HV HS
        go_enter Try.func8, Try.ntmps8
        go_wp2_with (first | (go_at_call 20; refine (mod_any _ _ _ (by omega)).mono ?_; rintro e w' ⟨rfl, rfl⟩))
        refine still_tail_drew 10 (by kernel_rfl) (by kernel_rfl) ?_
        simp only [List.take_succ_cons, List.take_zero, List.drop_succ_cons, List.drop_zero]
        repeat still_step
        still_call ((mod_any t 50 _ (by omega)).mono fun _ _ h => ⟨h.1, h.2.symm⟩)
        repeat still_step
        refine wpStill_nil ?_
        go_wp2_with (first | (go_at_call 20; refine (mod_any _ _ _ (by omega)).mono ?_; rintro e w' ⟨rfl, rfl⟩))
        refine (dnext_any _ _ _ _ _ _ _ (by omega)).mono ?_
        simp only [nextA, nextB, HO1.out, Bool.false_eq_true, if_false]
        rintro e w1 ⟨rfl, hb1⟩
        have hs1 := hb1.size
        simp only [World.size_alloc, World.size_drew] at hs1
        have hB1 := (show Below w.heap.size w _ by (repeat' (first | (with_reducible exact Below.refl _ _) | (with_reducible assumption) | (with_reducible refine Below.alloc ?_ ?_ _) | (with_reducible refine Below.drew ?_) | (with_reducible refine below_drewN ?_ _) | (with_reducible refine Below.setCell ?_ ?_ _) | (with_reducible exact Nat.le_refl _) | omega | (simp <;> omega)))).trans (hb1.mono (show w.heap.size ≤ _ by (first | (with_reducible exact Nat.le_refl _) | (with_reducible assumption) | omega | (simp <;> omega))))
        obtain ⟨k1, f1⟩ := bkeep hb1 w.heap.size (by (first | (with_reducible exact Nat.le_refl _) | (with_reducible assumption) | omega | (simp <;> omega)))
        obtain ⟨k2, f2⟩ := bkeep hb1 (w.heap.size + 1) (by (first | (with_reducible exact Nat.le_refl _) | (with_reducible assumption) | omega | (simp <;> omega)))
        have l1 : w.heap.size < w1.heap.size := by omega
        have l2 : w.heap.size + 1 < w1.heap.size := by omega
        clear hb1
        go_wp2_with fail
        refine (dstep_any _ _ _ _ _ _ _ ⟨a, bs, d, p⟩ _ (by omega) (HL.out.below hB1) hn).mono ?_
        simp only [HS1.out, HS2.out, HS3.out]
        rintro e w2 ⟨v2, rfl, ⟨A2, c2, rfl, -⟩, hb2⟩
        simp only [TrV, LineD.zero, List.length_nil]
        have hs2 := hb2.size
        have hB2 := hB1.trans (hb2.mono hB1.size)
        obtain ⟨m1, -⟩ := bkeep hb2 w.heap.size l1
        obtain ⟨m2, -⟩ := bkeep hb2 (w.heap.size + 1) l2
        simp only [k1, k2] at m1 m2
        have l3 : w.heap.size < w2.heap.size := by omega
        have l4 : w.heap.size + 1 < w2.heap.size := by omega
        clear hb2 k1 k2 f1 f2 l1 l2 hB1 hs1
        have hz2 := hB2.size
        go_wp2_with fail
        refine (dvalid_any _ _ _ _ _ _ _ (by omega)).mono ?_
        rewrite [HV1.out]
        rintro e w3 ⟨rfl, hb3⟩
        have hs3 := hb3.size
        simp only [World.size_alloc] at hs3
        have hB3 := (show Below w.heap.size w _ by (repeat' (first | (with_reducible exact Below.refl _ _) | (with_reducible assumption) | (with_reducible refine Below.alloc ?_ ?_ _) | (with_reducible refine Below.drew ?_) | (with_reducible refine below_drewN ?_ _) | (with_reducible refine Below.setCell ?_ ?_ _) | (with_reducible exact Nat.le_refl _) | omega | (simp <;> omega)))).trans (hb3.mono (show w.heap.size ≤ _ by (first | (with_reducible exact Nat.le_refl _) | (with_reducible assumption) | omega | (simp <;> omega))))
        obtain ⟨p1, -⟩ := bkeep hb3 w.heap.size (by (first | (with_reducible exact Nat.le_refl _) | (with_reducible assumption) | omega | (simp <;> omega)))
        obtain ⟨p2, -⟩ := bkeep hb3 (w.heap.size + 1) (by (first | (with_reducible exact Nat.le_refl _) | (with_reducible assumption) | omega | (simp <;> omega)))
        obtain ⟨p3, -⟩ := bkeep hb3 w2.heap.size (by (first | (with_reducible exact Nat.le_refl _) | (with_reducible assumption) | omega | (simp <;> omega)))
        obtain ⟨p4, -⟩ := bkeep hb3 (w2.heap.size + 1) (by (first | (with_reducible exact Nat.le_refl _) | (with_reducible assumption) | omega | (simp <;> omega)))
        clear hb3
        go_wp2_with fail
        refine (dawake_any _).mono ?_
        rintro e w10 ⟨rfl, hb10⟩
        have hB10 := hB3.trans (hb10.mono hB3.size)
        clear hB3 hb10 p1 p2 p3 p4 m1 m2
        go_wp2_with fail
        go_ret
        exact ⟨rfl, hB10⟩
end Go.Proofs.Ytjlmgjpnfppkoaa
