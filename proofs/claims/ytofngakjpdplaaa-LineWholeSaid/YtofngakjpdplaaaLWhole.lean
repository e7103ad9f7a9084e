/-
  The walk of LineWhole: it returns true, and what was there before is as it was.
-/
import Derived.BigRegion
import Derived.Test.YtofngakjpdplaaaLClone
import Derived.Test.YtofngakjpdplaaaLStore
import Derived.Test.YtofngakjpdplaaaLLoad
import Derived.Test.YtofngakjpdplaaaLDamage
import Derived.Test.YtofngakjpdplaaaLPatch
import Derived.Test.YtofngakjpdplaaaLSame
import Derived.Test.YtofngakjpdplaaaLAwake
namespace Go.Proofs.Ytofngakjpdplaaa
open Go.RowKit
attribute [local go_sem ↓] Go.wp_at_zero Go.wp_at_succ

theorem storeF_of (X : LineD) (bs : List UInt8) (Y : LineD) (ha : Y.addr = X.addr) (hl : Y.data.length = X.data.length) : storeF Y bs = storeF X bs := by
  simp [storeF, ha, hl]
theorem storeE_of (X : LineD) (bs : List UInt8) (Y : LineD) (hl : Y.data.length = X.data.length) : storeE Y bs = storeE X bs := by
  simp [storeE, hl]
theorem storeE_eq (X : LineD) (bs : List UInt8) : (storeE X bs == 0) = ((bs.length : Int) == (X.data.length : Int)) := by
  by_cases h : bs.length = X.data.length
  · simp [storeE, h]
  · have : ¬ ((bs.length : Int) = (X.data.length : Int)) := by omega
    simp [storeE, h, this]
theorem patch_twice (X : LineD) (k : Int) (b : UInt8) : patchF (patchF X k b) k b = patchF X k b := by
  by_cases h : 0 ≤ k ∧ k < X.data.length
  · simp [patchF, h]
  · have : ¬ (0 ≤ k ∧ k < 0) := by omega
    simp [patchF, h, LineD.zero, this]
theorem patchE_twice (X : LineD) (k : Int) (b : UInt8) : patchE (patchF X k b) k = patchE X k := by
  by_cases h : 0 ≤ k ∧ k < X.data.length
  · simp [patchF, patchE, h]
  · have : ¬ (0 ≤ k ∧ k < 0) := by omega
    simp [patchF, patchE, h, LineD.zero, this]
theorem storeF_len (X : LineD) (bs : List UInt8) (h : X.data.length ≤ 1048576) : (storeF X bs).data.length ≤ 1048576 := by
  unfold storeF; split
  · simp_all
  · simp [LineD.zero]
theorem patchF_len (X : LineD) (k : Int) (b : UInt8) (h : X.data.length ≤ 1048576) : (patchF X k b).data.length ≤ 1048576 := by
  unfold patchF; split
  · simpa using h
  · simp [LineD.zero]

set_option maxHeartbeats 1000000 in
theorem whole_long (vx vy : Value) (X Y : LineD) (A2 : Option Addr) (n2 c2 : Nat) (k : Int) (b : UInt8) (w : World) (hx : IsLine w vx X) (hy : IsLine w vy Y)
    (h40 : 40 < X.data.length ∨ 40 < n2) :
    Calls Try.prog 5 #[vx, vy, .slice A2 n2 c2, .int .i64 k, .int .u8 b.toNat] w fun e w' => e = .returned (.bool true) ∧ Below w.heap.size w w' := by
  obtain ⟨A, c, rfl, hx⟩ := hx
  obtain ⟨Ay, cy, rfl, hy⟩ := hy
  clear hx hy
  by_cases h1 : 40 < X.data.length
  all_goals
    go_enter Try.func5, Try.ntmps5
    go_wp2_with fail
    refine (awake_any _).mono ?_
    rintro e w1 ⟨rfl, hb1⟩
    have hb1' := (show Below w.heap.size w _ by (repeat' (first | (with_reducible exact Below.refl _ _) | (with_reducible assumption) | (with_reducible refine Below.alloc ?_ ?_ _) | (with_reducible refine Below.drew ?_) | (with_reducible refine Below.setCell ?_ ?_ _) | (with_reducible exact Nat.le_refl _) | omega | (simp <;> omega)))).trans (hb1.mono (show w.heap.size ≤ _ by (first | (with_reducible exact Nat.le_refl _) | (with_reducible assumption) | omega | (simp <;> omega))))
    go_wp2_with fail
    go_ret
    exact ⟨rfl, hb1'⟩

set_option maxHeartbeats 4000000 in
theorem whole_any (vx vy : Value) (X Y : LineD) (A2 : Option Addr) (n2 c2 : Nat) (bs : List UInt8) (k : Int) (b : UInt8) (w : World) (hx : IsLine w vx X) (hy : IsLine w vy Y)
    (h2 : Has w A2 n2 1 (byteVals bs)) (hn : X.data.length ≤ 40) (hn2 : n2 ≤ 40) :
    Calls Try.prog 5 #[vx, vy, .slice A2 n2 c2, .int .i64 k, .int .u8 b.toNat] w fun e w' => e = .returned (.bool true) ∧ Below w.heap.size w w' := by
  have Hx := Lib.hid hx
  obtain ⟨A, c, rfl, hx⟩ := hx
  obtain ⟨Ay, cy, rfl, hy⟩ := hy
  have hl : bs.length = n2 := by have := h2.1; simp [byteVals] at this; omega
  have H2 := Lib.hid h2
  have HE := Lib.hid (storeE_eq X bs)
  subst hl
  have hmk := run_make_one (P := Try.prog) 22 5 .u8 1 info5 Try.underlying22 X.data.length (by omega) (by omega)
  clear hx hy h2
  obtain ⟨Y', hY'⟩ : ∃ Y', Y' = LineD.mk X.addr (List.replicate X.data.length 0) Y.dirty Y.poison := ⟨_, rfl⟩
  have hlY : Y'.data.length = X.data.length := by rw [hY']; simp
  have HY : Hid (storeF Y' bs = storeF X bs ∧ storeE Y' bs = storeE X bs ∧ Y'.data.length = X.data.length) := ⟨storeF_of X bs Y' (by rw [hY']) hlY, storeE_of X bs Y' hlY, hlY⟩
  have HD : Hid (storeF (damageF X) bs = storeF X bs ∧ storeE (damageF X) bs = storeE X bs ∧ (damageF X).data.length = X.data.length) :=
    ⟨storeF_of X bs _ rfl (by simp [damageF]), storeE_of X bs _ (by simp [damageF]), by simp [damageF]⟩
  have HY' := Lib.hid hY'
  clear hY' hlY
  go_enter Try.func5, Try.ntmps5
  go_wp2_with fail
  go_region
  go_wp2_with fail
  obtain ⟨S, hS⟩ : ∃ S, storeF X bs = S := ⟨_, rfl⟩
  obtain ⟨E, hE⟩ : ∃ E, storeE X bs = E := ⟨_, rfl⟩
  have HS := Lib.hid hS
  have HEE := Lib.hid hE
  clear hS hE
  refine (lstore_any _ X _ _ _ bs _ ((((Hx.out.alloc _).alloc _).alloc _).drew) ((((H2.out.alloc _).alloc _).alloc _).drew) (by omega)).mono ?_
  rintro e w1 ⟨v1, rfl, hO1, hb1⟩
  have hs1 := hb1.size
  simp only [World.size_alloc, World.size_drew] at hs1
  simp only [HS.out, HEE.out] at hO1 ⊢
  obtain ⟨A1, c1, rfl, hown1⟩ := hO1
  have hB1 := (show Below w.heap.size w _ by (repeat' (first | (with_reducible exact Below.refl _ _) | (with_reducible assumption) | (with_reducible refine Below.alloc ?_ ?_ _) | (with_reducible refine Below.drew ?_) | (with_reducible refine Below.setCell ?_ ?_ _) | (with_reducible exact Nat.le_refl _) | omega | (simp <;> omega)))).trans (hb1.mono (show w.heap.size ≤ _ by (first | (with_reducible exact Nat.le_refl _) | (with_reducible assumption) | omega | (simp <;> omega))))
  have Hz1 := Lib.hid ((((own_zeros_at ((w.alloc (.cells #[.int .i64 X.addr, .slice A X.data.length c, .bool X.dirty, .bool X.poison] 24)).alloc (.cells #[.int .i64 X.addr, .slice (some ⟨w.heap.size + 1 + 1, 0, none⟩) X.data.length X.data.length, .bool Y.dirty, .bool Y.poison] 24)) 5 X.data.length 0 (w.heap.size + 1 + 1) (by omega) (by simp) (by omega)) |> Has.of_own).drew).below hb1)
  have Hx1 := Lib.hid (Hx.out.below (hB1))
  have H21 := Lib.hid (H2.out.below (hB1))
  have Hu1 := Lib.hid (Has.of_own hown1)
  have l0 : w.heap.size < w1.heap.size := by omega
  have l1 : w.heap.size + 1 < w1.heap.size := by omega
  have nx0 := cellK (g := w.heap.size) (i := 0) (v := .int .i64 X.addr) hb1 (by (first | (with_reducible exact Nat.le_refl _) | (with_reducible assumption) | omega | (simp <;> omega))) (by simp [go_sem, *])
  have nx1 := cellK (g := w.heap.size) (i := 1) (v := .slice A X.data.length c) hb1 (by (first | (with_reducible exact Nat.le_refl _) | (with_reducible assumption) | omega | (simp <;> omega))) (by simp [go_sem, *])
  have nx2 := cellK (g := w.heap.size) (i := 2) (v := .bool X.dirty) hb1 (by (first | (with_reducible exact Nat.le_refl _) | (with_reducible assumption) | omega | (simp <;> omega))) (by simp [go_sem, *])
  have nx3 := cellK (g := w.heap.size) (i := 3) (v := .bool X.poison) hb1 (by (first | (with_reducible exact Nat.le_refl _) | (with_reducible assumption) | omega | (simp <;> omega))) (by simp [go_sem, *])
  have ny0 := cellK (g := w.heap.size + 1) (i := 0) (v := .int .i64 X.addr) hb1 (by (first | (with_reducible exact Nat.le_refl _) | (with_reducible assumption) | omega | (simp <;> omega))) (by simp [go_sem, *])
  have ny1 := cellK (g := w.heap.size + 1) (i := 1) (v := .slice (some ⟨w.heap.size + 1 + 1, 0, none⟩) X.data.length X.data.length) hb1 (by (first | (with_reducible exact Nat.le_refl _) | (with_reducible assumption) | omega | (simp <;> omega))) (by simp [go_sem, *])
  have ny2 := cellK (g := w.heap.size + 1) (i := 2) (v := .bool Y.dirty) hb1 (by (first | (with_reducible exact Nat.le_refl _) | (with_reducible assumption) | omega | (simp <;> omega))) (by simp [go_sem, *])
  have ny3 := cellK (g := w.heap.size + 1) (i := 3) (v := .bool Y.poison) hb1 (by (first | (with_reducible exact Nat.le_refl _) | (with_reducible assumption) | omega | (simp <;> omega))) (by simp [go_sem, *])
  have kx0 := nx0
  have kx1 := nx1
  have kx2 := nx2
  have kx3 := nx3
  have ky0 := ny0
  have ky1 := ny1
  have ky2 := ny2
  have ky3 := ny3
  clear nx0 nx1 nx2 nx3 ny0 ny1 ny2 ny3
  clear hmk hown1 hb1
  go_wp2_with fail
  refine (lstore_any _ Y' _ _ _ bs _ (by rw [HY'.out]; exact ⟨some ⟨w.heap.size + 1 + 1, 0, none⟩, X.data.length, by simp, by simpa using (Hz1.out.alloc _)⟩) (H21.out.alloc _) (by omega)).mono ?_
  rintro e w2 ⟨v2, rfl, hO2, hb2⟩
  have hs2 := hb2.size
  simp only [World.size_alloc] at hs2
  simp only [HY.out.1, HY.out.2.1, HS.out, HEE.out] at hO2 ⊢
  obtain ⟨A3, c3, rfl, hown2⟩ := hO2
  have hz1 := hB1.size
  have hB2 := (show Below w.heap.size w _ by (repeat' (first | (with_reducible exact Below.refl _ _) | (with_reducible assumption) | (with_reducible refine Below.alloc ?_ ?_ _) | (with_reducible refine Below.drew ?_) | (with_reducible refine Below.setCell ?_ ?_ _) | (with_reducible exact Nat.le_refl _) | omega | (simp <;> omega)))).trans (hb2.mono (show w.heap.size ≤ _ by (first | (with_reducible exact Nat.le_refl _) | (with_reducible assumption) | omega | (simp <;> omega))))
  have Hx2 := Lib.hid (Hx.out.below (hB2))
  have H22 := Lib.hid (H2.out.below (hB2))
  have Hu2 := Lib.hid ((Hu1.out.alloc (.cells #[.int .i64 S.addr, .slice A1 S.data.length c1, .bool S.dirty, .bool S.poison] 24)).below hb2)
  have Hv2 := Lib.hid (Has.of_own hown2)
  have nx0 := cellK (g := w.heap.size) (i := 0) (v := .int .i64 X.addr) hb2 (by (first | (with_reducible exact Nat.le_refl _) | (with_reducible assumption) | omega | (simp <;> omega))) (by simp [go_sem, *])
  have nx1 := cellK (g := w.heap.size) (i := 1) (v := .slice A X.data.length c) hb2 (by (first | (with_reducible exact Nat.le_refl _) | (with_reducible assumption) | omega | (simp <;> omega))) (by simp [go_sem, *])
  have nx2 := cellK (g := w.heap.size) (i := 2) (v := .bool X.dirty) hb2 (by (first | (with_reducible exact Nat.le_refl _) | (with_reducible assumption) | omega | (simp <;> omega))) (by simp [go_sem, *])
  have nx3 := cellK (g := w.heap.size) (i := 3) (v := .bool X.poison) hb2 (by (first | (with_reducible exact Nat.le_refl _) | (with_reducible assumption) | omega | (simp <;> omega))) (by simp [go_sem, *])
  have nu0 := cellK (g := w1.heap.size) (i := 0) (v := .int .i64 S.addr) hb2 (by (first | (with_reducible exact Nat.le_refl _) | (with_reducible assumption) | omega | (simp <;> omega))) (by simp [go_sem, *])
  have nu1 := cellK (g := w1.heap.size) (i := 1) (v := .slice A1 S.data.length c1) hb2 (by (first | (with_reducible exact Nat.le_refl _) | (with_reducible assumption) | omega | (simp <;> omega))) (by simp [go_sem, *])
  have nu2 := cellK (g := w1.heap.size) (i := 2) (v := .bool S.dirty) hb2 (by (first | (with_reducible exact Nat.le_refl _) | (with_reducible assumption) | omega | (simp <;> omega))) (by simp [go_sem, *])
  have nu3 := cellK (g := w1.heap.size) (i := 3) (v := .bool S.poison) hb2 (by (first | (with_reducible exact Nat.le_refl _) | (with_reducible assumption) | omega | (simp <;> omega))) (by simp [go_sem, *])
  clear kx0 kx1 kx2 kx3 ky0 ky1 ky2 ky3
  have kx0 := nx0
  have kx1 := nx1
  have kx2 := nx2
  have kx3 := nx3
  have ku0 := nu0
  have ku1 := nu1
  have ku2 := nu2
  have ku3 := nu3
  clear nx0 nx1 nx2 nx3 nu0 nu1 nu2 nu3
  clear l1
  have l1 : w1.heap.size < w2.heap.size := by omega
  have m0 : w.heap.size < w2.heap.size := by omega
  clear hown2 hb2 l0 Hz1 Hx1 H21 Hu1 hB1 hs2 hs1 HY HY'
  go_wp2_with fail
  refine (ldamage_any _ X _ (Hx2.out.alloc _) (by omega)).mono ?_
  rintro e w3 ⟨v3, rfl, hO3, hb3⟩
  have hs3 := hb3.size
  simp only [World.size_alloc] at hs3
  obtain ⟨A4, c4, rfl, hown3⟩ := hO3
  have hz2 := hB2.size
  have hB3 := (show Below w.heap.size w _ by (repeat' (first | (with_reducible exact Below.refl _ _) | (with_reducible assumption) | (with_reducible refine Below.alloc ?_ ?_ _) | (with_reducible refine Below.drew ?_) | (with_reducible refine Below.setCell ?_ ?_ _) | (with_reducible exact Nat.le_refl _) | omega | (simp <;> omega)))).trans (hb3.mono (show w.heap.size ≤ _ by (first | (with_reducible exact Nat.le_refl _) | (with_reducible assumption) | omega | (simp <;> omega))))
  have Hx3 := Lib.hid (Hx.out.below (hB3))
  have H23 := Lib.hid (H2.out.below (hB3))
  have Hu3 := Lib.hid ((Hu2.out.alloc (.cells #[.int .i64 S.addr, .slice A3 S.data.length c3, .bool S.dirty, .bool S.poison] 24)).below hb3)
  have Hv3 := Lib.hid ((Hv2.out.alloc (.cells #[.int .i64 S.addr, .slice A3 S.data.length c3, .bool S.dirty, .bool S.poison] 24)).below hb3)
  have Hd3 := Lib.hid (Has.of_own hown3)
  have nx0 := cellK (g := w.heap.size) (i := 0) (v := .int .i64 X.addr) hb3 (by (first | (with_reducible exact Nat.le_refl _) | (with_reducible assumption) | omega | (simp <;> omega))) (by simp [go_sem, *])
  have nx1 := cellK (g := w.heap.size) (i := 1) (v := .slice A X.data.length c) hb3 (by (first | (with_reducible exact Nat.le_refl _) | (with_reducible assumption) | omega | (simp <;> omega))) (by simp [go_sem, *])
  have nx2 := cellK (g := w.heap.size) (i := 2) (v := .bool X.dirty) hb3 (by (first | (with_reducible exact Nat.le_refl _) | (with_reducible assumption) | omega | (simp <;> omega))) (by simp [go_sem, *])
  have nx3 := cellK (g := w.heap.size) (i := 3) (v := .bool X.poison) hb3 (by (first | (with_reducible exact Nat.le_refl _) | (with_reducible assumption) | omega | (simp <;> omega))) (by simp [go_sem, *])
  have nu0 := cellK (g := w1.heap.size) (i := 0) (v := .int .i64 S.addr) hb3 (by (first | (with_reducible exact Nat.le_refl _) | (with_reducible assumption) | omega | (simp <;> omega))) (by simp [go_sem, *])
  have nu1 := cellK (g := w1.heap.size) (i := 1) (v := .slice A1 S.data.length c1) hb3 (by (first | (with_reducible exact Nat.le_refl _) | (with_reducible assumption) | omega | (simp <;> omega))) (by simp [go_sem, *])
  have nu2 := cellK (g := w1.heap.size) (i := 2) (v := .bool S.dirty) hb3 (by (first | (with_reducible exact Nat.le_refl _) | (with_reducible assumption) | omega | (simp <;> omega))) (by simp [go_sem, *])
  have nu3 := cellK (g := w1.heap.size) (i := 3) (v := .bool S.poison) hb3 (by (first | (with_reducible exact Nat.le_refl _) | (with_reducible assumption) | omega | (simp <;> omega))) (by simp [go_sem, *])
  have nv0 := cellK (g := w2.heap.size) (i := 0) (v := .int .i64 S.addr) hb3 (by (first | (with_reducible exact Nat.le_refl _) | (with_reducible assumption) | omega | (simp <;> omega))) (by simp [go_sem, *])
  have nv1 := cellK (g := w2.heap.size) (i := 1) (v := .slice A3 S.data.length c3) hb3 (by (first | (with_reducible exact Nat.le_refl _) | (with_reducible assumption) | omega | (simp <;> omega))) (by simp [go_sem, *])
  have nv2 := cellK (g := w2.heap.size) (i := 2) (v := .bool S.dirty) hb3 (by (first | (with_reducible exact Nat.le_refl _) | (with_reducible assumption) | omega | (simp <;> omega))) (by simp [go_sem, *])
  have nv3 := cellK (g := w2.heap.size) (i := 3) (v := .bool S.poison) hb3 (by (first | (with_reducible exact Nat.le_refl _) | (with_reducible assumption) | omega | (simp <;> omega))) (by simp [go_sem, *])
  clear kx0 kx1 kx2 kx3 ku0 ku1 ku2 ku3
  have kx0 := nx0
  have kx1 := nx1
  have kx2 := nx2
  have kx3 := nx3
  have ku0 := nu0
  have ku1 := nu1
  have ku2 := nu2
  have ku3 := nu3
  have kv0 := nv0
  have kv1 := nv1
  have kv2 := nv2
  have kv3 := nv3
  clear nx0 nx1 nx2 nx3 nu0 nu1 nu2 nu3 nv0 nv1 nv2 nv3
  have m1 : w2.heap.size < w3.heap.size := by omega
  have m2 : w1.heap.size < w3.heap.size := by omega
  have m3 : w.heap.size < w3.heap.size := by omega
  clear hown3 hb3 l1 m0 Hx2 H22 Hu2 Hv2 hB2 hs3
  go_wp2_with fail
  refine (lstore_any _ (damageF X) _ _ _ bs _ ⟨_, _, rfl, Hd3.out⟩ H23.out (by omega)).mono ?_
  rintro e w4 ⟨v4, rfl, hO4, hb4⟩
  have hs4 := hb4.size
  simp only [HD.out.1, HD.out.2.1, HS.out, HEE.out] at hO4 ⊢
  obtain ⟨A5, c5, rfl, hown4⟩ := hO4
  have hB4 := hB3.trans (hb4.mono hB3.size)
  have Hx4 := Lib.hid (Hx.out.below (hB4))
  have Hu4 := Lib.hid (Hu3.out.below hb4)
  have Hv4 := Lib.hid (Hv3.out.below hb4)
  have Hw4 := Lib.hid (Has.of_own hown4)
  have nx0 := cellK (g := w.heap.size) (i := 0) (v := .int .i64 X.addr) hb4 (by (first | (with_reducible exact Nat.le_refl _) | (with_reducible assumption) | omega | (simp <;> omega))) (by simp [go_sem, *])
  have nx1 := cellK (g := w.heap.size) (i := 1) (v := .slice A X.data.length c) hb4 (by (first | (with_reducible exact Nat.le_refl _) | (with_reducible assumption) | omega | (simp <;> omega))) (by simp [go_sem, *])
  have nx2 := cellK (g := w.heap.size) (i := 2) (v := .bool X.dirty) hb4 (by (first | (with_reducible exact Nat.le_refl _) | (with_reducible assumption) | omega | (simp <;> omega))) (by simp [go_sem, *])
  have nx3 := cellK (g := w.heap.size) (i := 3) (v := .bool X.poison) hb4 (by (first | (with_reducible exact Nat.le_refl _) | (with_reducible assumption) | omega | (simp <;> omega))) (by simp [go_sem, *])
  have nu0 := cellK (g := w1.heap.size) (i := 0) (v := .int .i64 S.addr) hb4 (by (first | (with_reducible exact Nat.le_refl _) | (with_reducible assumption) | omega | (simp <;> omega))) (by simp [go_sem, *])
  have nu1 := cellK (g := w1.heap.size) (i := 1) (v := .slice A1 S.data.length c1) hb4 (by (first | (with_reducible exact Nat.le_refl _) | (with_reducible assumption) | omega | (simp <;> omega))) (by simp [go_sem, *])
  have nu2 := cellK (g := w1.heap.size) (i := 2) (v := .bool S.dirty) hb4 (by (first | (with_reducible exact Nat.le_refl _) | (with_reducible assumption) | omega | (simp <;> omega))) (by simp [go_sem, *])
  have nu3 := cellK (g := w1.heap.size) (i := 3) (v := .bool S.poison) hb4 (by (first | (with_reducible exact Nat.le_refl _) | (with_reducible assumption) | omega | (simp <;> omega))) (by simp [go_sem, *])
  have nv0 := cellK (g := w2.heap.size) (i := 0) (v := .int .i64 S.addr) hb4 (by (first | (with_reducible exact Nat.le_refl _) | (with_reducible assumption) | omega | (simp <;> omega))) (by simp [go_sem, *])
  have nv1 := cellK (g := w2.heap.size) (i := 1) (v := .slice A3 S.data.length c3) hb4 (by (first | (with_reducible exact Nat.le_refl _) | (with_reducible assumption) | omega | (simp <;> omega))) (by simp [go_sem, *])
  have nv2 := cellK (g := w2.heap.size) (i := 2) (v := .bool S.dirty) hb4 (by (first | (with_reducible exact Nat.le_refl _) | (with_reducible assumption) | omega | (simp <;> omega))) (by simp [go_sem, *])
  have nv3 := cellK (g := w2.heap.size) (i := 3) (v := .bool S.poison) hb4 (by (first | (with_reducible exact Nat.le_refl _) | (with_reducible assumption) | omega | (simp <;> omega))) (by simp [go_sem, *])
  clear kx0 kx1 kx2 kx3 ku0 ku1 ku2 ku3 kv0 kv1 kv2 kv3
  have kx0 := nx0
  have kx1 := nx1
  have kx2 := nx2
  have kx3 := nx3
  have ku0 := nu0
  have ku1 := nu1
  have ku2 := nu2
  have ku3 := nu3
  have kv0 := nv0
  have kv1 := nv1
  have kv2 := nv2
  have kv3 := nv3
  clear nx0 nx1 nx2 nx3 nu0 nu1 nu2 nu3 nv0 nv1 nv2 nv3
  have l1 : w2.heap.size < w4.heap.size := by omega
  have l2 : w1.heap.size < w4.heap.size := by omega
  have l3 : w.heap.size < w4.heap.size := by omega
  have hE0 : (E == 0) = ((bs.length : Int) == (X.data.length : Int)) := by rw [← HEE.out]; exact HE.out
  clear hown4 hb4 m1 m2 m3 Hx3 H23 Hu3 Hv3 Hd3 hB3 hs4 HD HEE H2
  go_wp2_with fail
  refine (same_any _ _ S S _ ⟨_, _, rfl, Hu4.out.alloc _⟩ ⟨_, _, rfl, Hv4.out.alloc _⟩).mono ?_
  rintro e w5 ⟨rfl, hb5⟩
  have hs5 := hb5.size
  simp only [World.size_alloc] at hs5
  simp only [show sameB S S = true from by simp [sameB]]
  have hz4 := hB4.size
  have hB5 := (show Below w.heap.size w _ by (repeat' (first | (with_reducible exact Below.refl _ _) | (with_reducible assumption) | (with_reducible refine Below.alloc ?_ ?_ _) | (with_reducible refine Below.drew ?_) | (with_reducible refine Below.setCell ?_ ?_ _) | (with_reducible exact Nat.le_refl _) | omega | (simp <;> omega)))).trans (hb5.mono (show w.heap.size ≤ _ by (first | (with_reducible exact Nat.le_refl _) | (with_reducible assumption) | omega | (simp <;> omega))))
  have Hx5 := Lib.hid (Hx.out.below (hB5))
  have Hu5 := Lib.hid ((Hu4.out.alloc (.cells #[.int .i64 S.addr, .slice A5 S.data.length c5, .bool S.dirty, .bool S.poison] 24)).below hb5)
  have Hw5 := Lib.hid ((Hw4.out.alloc (.cells #[.int .i64 S.addr, .slice A5 S.data.length c5, .bool S.dirty, .bool S.poison] 24)).below hb5)
  have nx0 := cellK (g := w.heap.size) (i := 0) (v := .int .i64 X.addr) hb5 (by (first | (with_reducible exact Nat.le_refl _) | (with_reducible assumption) | omega | (simp <;> omega))) (by simp [go_sem, *])
  have nx1 := cellK (g := w.heap.size) (i := 1) (v := .slice A X.data.length c) hb5 (by (first | (with_reducible exact Nat.le_refl _) | (with_reducible assumption) | omega | (simp <;> omega))) (by simp [go_sem, *])
  have nx2 := cellK (g := w.heap.size) (i := 2) (v := .bool X.dirty) hb5 (by (first | (with_reducible exact Nat.le_refl _) | (with_reducible assumption) | omega | (simp <;> omega))) (by simp [go_sem, *])
  have nx3 := cellK (g := w.heap.size) (i := 3) (v := .bool X.poison) hb5 (by (first | (with_reducible exact Nat.le_refl _) | (with_reducible assumption) | omega | (simp <;> omega))) (by simp [go_sem, *])
  have nu0 := cellK (g := w1.heap.size) (i := 0) (v := .int .i64 S.addr) hb5 (by (first | (with_reducible exact Nat.le_refl _) | (with_reducible assumption) | omega | (simp <;> omega))) (by simp [go_sem, *])
  have nu1 := cellK (g := w1.heap.size) (i := 1) (v := .slice A1 S.data.length c1) hb5 (by (first | (with_reducible exact Nat.le_refl _) | (with_reducible assumption) | omega | (simp <;> omega))) (by simp [go_sem, *])
  have nu2 := cellK (g := w1.heap.size) (i := 2) (v := .bool S.dirty) hb5 (by (first | (with_reducible exact Nat.le_refl _) | (with_reducible assumption) | omega | (simp <;> omega))) (by simp [go_sem, *])
  have nu3 := cellK (g := w1.heap.size) (i := 3) (v := .bool S.poison) hb5 (by (first | (with_reducible exact Nat.le_refl _) | (with_reducible assumption) | omega | (simp <;> omega))) (by simp [go_sem, *])
  have nww0 := cellK (g := w4.heap.size) (i := 0) (v := .int .i64 S.addr) hb5 (by (first | (with_reducible exact Nat.le_refl _) | (with_reducible assumption) | omega | (simp <;> omega))) (by simp [go_sem, *])
  have nww1 := cellK (g := w4.heap.size) (i := 1) (v := .slice A5 S.data.length c5) hb5 (by (first | (with_reducible exact Nat.le_refl _) | (with_reducible assumption) | omega | (simp <;> omega))) (by simp [go_sem, *])
  have nww2 := cellK (g := w4.heap.size) (i := 2) (v := .bool S.dirty) hb5 (by (first | (with_reducible exact Nat.le_refl _) | (with_reducible assumption) | omega | (simp <;> omega))) (by simp [go_sem, *])
  have nww3 := cellK (g := w4.heap.size) (i := 3) (v := .bool S.poison) hb5 (by (first | (with_reducible exact Nat.le_refl _) | (with_reducible assumption) | omega | (simp <;> omega))) (by simp [go_sem, *])
  clear kx0 kx1 kx2 kx3 ku0 ku1 ku2 ku3 kv0 kv1 kv2 kv3
  have kx0 := nx0
  have kx1 := nx1
  have kx2 := nx2
  have kx3 := nx3
  have ku0 := nu0
  have ku1 := nu1
  have ku2 := nu2
  have ku3 := nu3
  have kww0 := nww0
  have kww1 := nww1
  have kww2 := nww2
  have kww3 := nww3
  clear nx0 nx1 nx2 nx3 nu0 nu1 nu2 nu3 nww0 nww1 nww2 nww3
  have m1 : w4.heap.size < w5.heap.size := by omega
  have m2 : w1.heap.size < w5.heap.size := by omega
  have m3 : w.heap.size < w5.heap.size := by omega
  clear hb5 l1 l2 l3 Hx4 Hu4 Hv4 Hw4 hB4 hs5
  go_wp2_with fail
  refine (same_any _ _ S S _ ⟨_, _, rfl, Hu5.out⟩ ⟨_, _, rfl, Hw5.out⟩).mono ?_
  rintro e w6 ⟨rfl, hb6⟩
  simp only [show sameB S S = true from by simp [sameB]]
  have hs6 := hb6.size
  have hB6 := hB5.trans (hb6.mono hB5.size)
  have Hx6 := Lib.hid (Hx.out.below (hB6))
  have nx0 := cellK (g := w.heap.size) (i := 0) (v := .int .i64 X.addr) hb6 (by (first | (with_reducible exact Nat.le_refl _) | (with_reducible assumption) | omega | (simp <;> omega))) (by simp [go_sem, *])
  have nx1 := cellK (g := w.heap.size) (i := 1) (v := .slice A X.data.length c) hb6 (by (first | (with_reducible exact Nat.le_refl _) | (with_reducible assumption) | omega | (simp <;> omega))) (by simp [go_sem, *])
  have nx2 := cellK (g := w.heap.size) (i := 2) (v := .bool X.dirty) hb6 (by (first | (with_reducible exact Nat.le_refl _) | (with_reducible assumption) | omega | (simp <;> omega))) (by simp [go_sem, *])
  have nx3 := cellK (g := w.heap.size) (i := 3) (v := .bool X.poison) hb6 (by (first | (with_reducible exact Nat.le_refl _) | (with_reducible assumption) | omega | (simp <;> omega))) (by simp [go_sem, *])
  clear kx0 kx1 kx2 kx3 ku0 ku1 ku2 ku3 kww0 kww1 kww2 kww3
  have kx0 := nx0
  have kx1 := nx1
  have kx2 := nx2
  have kx3 := nx3
  clear nx0 nx1 nx2 nx3
  have l3 : w.heap.size < w6.heap.size := by omega
  clear hb6 m1 m2 m3 Hx5 Hu5 Hw5 hB5 hs6
  go_wp2_with fail
  obtain ⟨Q, hQ⟩ : ∃ Q, patchF X k b = Q := ⟨_, rfl⟩
  obtain ⟨F, hF⟩ : ∃ F, patchE X k = F := ⟨_, rfl⟩
  have HQ2 : Hid (patchF Q k b = Q ∧ patchE Q k = F ∧ Q.data.length ≤ 1048576) := by
    rw [← hQ, ← hF]
    exact ⟨patch_twice X k b, patchE_twice X k b, patchF_len X k b (by omega)⟩
  have HQ := Lib.hid hQ
  have HF := Lib.hid hF
  clear hQ hF hE0
  refine (lpatch_any _ X k b _ Hx6.out (by omega)).mono ?_
  rintro e w7 ⟨v7, rfl, hO7, hb7⟩
  have hs7 := hb7.size
  simp only [HQ.out, HF.out] at hO7 ⊢
  obtain ⟨A7, c7, rfl, hown7⟩ := hO7
  have hB7 := hB6.trans (hb7.mono hB6.size)
  have Hp7 := Lib.hid (Has.of_own hown7)
  have nx0 := cellK (g := w.heap.size) (i := 0) (v := .int .i64 X.addr) hb7 (by (first | (with_reducible exact Nat.le_refl _) | (with_reducible assumption) | omega | (simp <;> omega))) (by simp [go_sem, *])
  have nx1 := cellK (g := w.heap.size) (i := 1) (v := .slice A X.data.length c) hb7 (by (first | (with_reducible exact Nat.le_refl _) | (with_reducible assumption) | omega | (simp <;> omega))) (by simp [go_sem, *])
  have nx2 := cellK (g := w.heap.size) (i := 2) (v := .bool X.dirty) hb7 (by (first | (with_reducible exact Nat.le_refl _) | (with_reducible assumption) | omega | (simp <;> omega))) (by simp [go_sem, *])
  have nx3 := cellK (g := w.heap.size) (i := 3) (v := .bool X.poison) hb7 (by (first | (with_reducible exact Nat.le_refl _) | (with_reducible assumption) | omega | (simp <;> omega))) (by simp [go_sem, *])
  clear kx0 kx1 kx2 kx3
  have kx0 := nx0
  have kx1 := nx1
  have kx2 := nx2
  have kx3 := nx3
  clear nx0 nx1 nx2 nx3
  have l5 : w.heap.size < w7.heap.size := by omega
  clear l3
  clear hown7 hb7 Hx6 hB6 hs7
  go_wp2_with fail
  refine (lpatch_any _ Q k b _ ⟨_, _, rfl, Hp7.out.alloc _⟩ HQ2.out.2.2).mono ?_
  rintro e w8 ⟨v8, rfl, hO8, hb8⟩
  have hs8 := hb8.size
  simp only [World.size_alloc] at hs8
  simp only [HQ2.out.1, HQ2.out.2.1] at hO8 ⊢
  obtain ⟨A8, c8, rfl, hown8⟩ := hO8
  have hz7 := hB7.size
  have hB8 := (show Below w.heap.size w _ by (repeat' (first | (with_reducible exact Below.refl _ _) | (with_reducible assumption) | (with_reducible refine Below.alloc ?_ ?_ _) | (with_reducible refine Below.drew ?_) | (with_reducible refine Below.setCell ?_ ?_ _) | (with_reducible exact Nat.le_refl _) | omega | (simp <;> omega)))).trans (hb8.mono (show w.heap.size ≤ _ by (first | (with_reducible exact Nat.le_refl _) | (with_reducible assumption) | omega | (simp <;> omega))))
  have Hp8 := Lib.hid ((Hp7.out.alloc (.cells #[.int .i64 Q.addr, .slice A7 Q.data.length c7, .bool Q.dirty, .bool Q.poison] 24)).below hb8)
  have Hq8 := Lib.hid (Has.of_own hown8)
  have nx0 := cellK (g := w.heap.size) (i := 0) (v := .int .i64 X.addr) hb8 (by (first | (with_reducible exact Nat.le_refl _) | (with_reducible assumption) | omega | (simp <;> omega))) (by simp [go_sem, *])
  have nx1 := cellK (g := w.heap.size) (i := 1) (v := .slice A X.data.length c) hb8 (by (first | (with_reducible exact Nat.le_refl _) | (with_reducible assumption) | omega | (simp <;> omega))) (by simp [go_sem, *])
  have nx2 := cellK (g := w.heap.size) (i := 2) (v := .bool X.dirty) hb8 (by (first | (with_reducible exact Nat.le_refl _) | (with_reducible assumption) | omega | (simp <;> omega))) (by simp [go_sem, *])
  have nx3 := cellK (g := w.heap.size) (i := 3) (v := .bool X.poison) hb8 (by (first | (with_reducible exact Nat.le_refl _) | (with_reducible assumption) | omega | (simp <;> omega))) (by simp [go_sem, *])
  have np0 := cellK (g := w7.heap.size) (i := 0) (v := .int .i64 Q.addr) hb8 (by (first | (with_reducible exact Nat.le_refl _) | (with_reducible assumption) | omega | (simp <;> omega))) (by simp [go_sem, *])
  have np1 := cellK (g := w7.heap.size) (i := 1) (v := .slice A7 Q.data.length c7) hb8 (by (first | (with_reducible exact Nat.le_refl _) | (with_reducible assumption) | omega | (simp <;> omega))) (by simp [go_sem, *])
  have np2 := cellK (g := w7.heap.size) (i := 2) (v := .bool Q.dirty) hb8 (by (first | (with_reducible exact Nat.le_refl _) | (with_reducible assumption) | omega | (simp <;> omega))) (by simp [go_sem, *])
  have np3 := cellK (g := w7.heap.size) (i := 3) (v := .bool Q.poison) hb8 (by (first | (with_reducible exact Nat.le_refl _) | (with_reducible assumption) | omega | (simp <;> omega))) (by simp [go_sem, *])
  clear kx0 kx1 kx2 kx3
  have kx0 := nx0
  have kx1 := nx1
  have kx2 := nx2
  have kx3 := nx3
  have kp0 := np0
  have kp1 := np1
  have kp2 := np2
  have kp3 := np3
  clear nx0 nx1 nx2 nx3 np0 np1 np2 np3
  have l3 : w.heap.size < w8.heap.size := by omega
  clear l5
  have l4 : w7.heap.size < w8.heap.size := by omega
  clear hown8 hb8 Hp7 hB7 hs8 HQ HQ2
  have hz8 := hB8.size
  by_cases hr : 0 ≤ k ∧ k < X.data.length
  · obtain rfl : 0 = F := by rw [← HF.out, patchE, if_pos hr]
    obtain ⟨hr1, hr2⟩ := hr
    clear HF
    go_wp2_with fail
    refine (same_any _ _ Q Q _ ⟨_, _, rfl, Hp8.out.alloc _⟩ ⟨_, _, rfl, Hq8.out.alloc _⟩).mono ?_
    rintro e w9 ⟨rfl, hb9⟩
    simp only [show sameB Q Q = true from by simp [sameB]]
    have hB9 := (show Below w.heap.size w _ by (repeat' (first | (with_reducible exact Below.refl _ _) | (with_reducible assumption) | (with_reducible refine Below.alloc ?_ ?_ _) | (with_reducible refine Below.drew ?_) | (with_reducible refine Below.setCell ?_ ?_ _) | (with_reducible exact Nat.le_refl _) | omega | (simp <;> omega)))).trans (hb9.mono (show w.heap.size ≤ _ by (first | (with_reducible exact Nat.le_refl _) | (with_reducible assumption) | omega | (simp <;> omega))))
    clear Hp8 Hq8 kx0 kx1 kx2 kx3 kp0 kp1 kp2 kp3 hB8 hb9
    go_wp2_with fail
    refine (awake_any _).mono ?_
    rintro e w10 ⟨rfl, hb10⟩
    have hB10 := hB9.trans (hb10.mono hB9.size)
    clear hB9 hb10
    go_wp2_with fail
    go_ret
    exact ⟨rfl, hB10⟩
  · obtain rfl : 2 = F := by rw [← HF.out, patchE, if_neg hr]
    clear HF
    by_cases hr1 : 0 ≤ k
    all_goals
      go_wp2_with fail
      refine (awake_any _).mono ?_
      rintro e w10 ⟨rfl, hb10⟩
      have hB10 := (show Below w.heap.size w _ by (repeat' (first | (with_reducible exact Below.refl _ _) | (with_reducible assumption) | (with_reducible refine Below.alloc ?_ ?_ _) | (with_reducible refine Below.drew ?_) | (with_reducible refine Below.setCell ?_ ?_ _) | (with_reducible exact Nat.le_refl _) | omega | (simp <;> omega)))).trans (hb10.mono (show w.heap.size ≤ _ by (first | (with_reducible exact Nat.le_refl _) | (with_reducible assumption) | omega | (simp <;> omega))))
      clear hB8 hb10
      go_wp2_with fail
      go_ret
      exact ⟨ret_bool (by first | rfl | (simp; omega)), hB10⟩
end Go.Proofs.Ytofngakjpdplaaa
