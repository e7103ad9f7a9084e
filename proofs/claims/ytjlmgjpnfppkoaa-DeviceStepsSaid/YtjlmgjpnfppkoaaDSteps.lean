/-
  The walk of DeviceSteps: it returns true, and what was there before is as it was.
-/
import Derived.LoopTactic
import Derived.BigRegion
import Derived.Test.YtjlmgjpnfppkoaaDEnv
namespace Go.Proofs.Ytjlmgjpnfppkoaa
open Go.RowKit
attribute [local go_sem ↓] Go.wp_at_zero Go.wp_at_succ

theorem begin_cnt {X Y Z : Int} {s : Bool} (h1 : -9223372036854775808 ≤ Z) : -9223372036854775808 ≤ (beginT X Y Z s).cnt := by
  unfold beginT; split
  · exact h1
  · decide


set_option maxRecDepth 100000 in
set_option maxHeartbeats 64000000 in
theorem dsteps_any (w : World) (f0 t0 c0 n0 : Int) (s0 x0 : Bool) (hc0 : -9223372036854775808 ≤ c0) (v : Value) (L : LineD) (hL : IsLine w v L) (from_ to count : Int) (hcount : -9223372036854775808 ≤ count ∧ count ≤ 9223372036854775807) (strict : Bool)
    (A : Option Addr) (n c : Nat) (zs : List Int) (h : Has w A n 1 (zs.map (Value.int .i64))) :
    Calls Try.prog 5 #[.agg #[.int .i64 f0, .int .i64 t0, .int .i64 c0, .int .i64 n0, .bool s0, .bool x0], v, .int .i64 from_, .int .i64 to, .int .i64 count, .bool strict, .slice A n c] w fun e w' => e = .returned (.bool true) ∧ Below w.heap.size w w' := by
  have Hh := Lib.hid h
  obtain ⟨La, bs, Ld, Lp⟩ := L
  obtain ⟨LA, Lc, rfl, hLd⟩ := hL
  dsimp only at hLd ⊢
  obtain ⟨Ln, hLn⟩ : ∃ Ln, bs.length = Ln := ⟨_, rfl⟩
  rw [hLn] at hLd
  rw [hLn]
  have HLD := Lib.hid hLd
  have HLN := Lib.hid hLn
  clear h hLd hLn
  by_cases hl : Ln ≤ 100
  · by_cases hn : n ≤ 400
    · go_enter Try.func5, Try.ntmps5
      go_wp2_with fail
      refine (light_yes A n c _ hn).mono ?_
      rintro e w' ⟨rfl, rfl⟩
      go_wp2_with fail
      refine (roll_any A n c zs _ ((Hh.out.alloc _).alloc _) hn).mono ?_
      rintro e w1 ⟨rfl, hD1, hb1⟩
      have hs1 := hb1.size
      simp only [World.size_alloc] at hs1 hD1
      simp only [World.size_alloc]
      have HT1 := Lib.hid (((TrBox.new w f0 t0 c0 n0 s0 x0 59).alloc (by simp) (.cells #[.int .i64 La, .slice LA Ln Lc, .bool Ld, .bool Lp] 28)).below hb1 (by simp; omega))
      have hX1 := ((LnBox.new (w.alloc (.cells #[.int .i64 f0, .int .i64 t0, .int .i64 c0, .int .i64 n0, .bool s0, .bool x0] 59)) La LA Ln Lc Ld Lp 28).below hb1 (by simp))
      simp only [World.size_alloc] at hX1
      have HX1 := Lib.hid hX1
      clear hX1
      have HD1 := Lib.hid hD1
      have hlt1 := hD1.lt
      have HB1 := Lib.hid ((show Below w.heap.size w _ by (repeat' (first | (with_reducible exact Below.refl _ _) | (with_reducible assumption) | (with_reducible refine Below.alloc ?_ ?_ _) | (with_reducible refine Below.drew ?_) | (with_reducible refine below_drewN ?_ _) | (with_reducible refine Below.setCell ?_ ?_ _) | (with_reducible exact Nat.le_refl _) | omega | (simp <;> omega)))).trans (hb1.mono (show w.heap.size ≤ _ by (first | (with_reducible exact Nat.le_refl _) | (with_reducible assumption) | omega | (simp <;> omega)))))
      clear hb1 hD1
      go_wp2_with fail
      refine (mod_any from_ 20 _ (by omega)).mono ?_
      obtain ⟨ma1, ma2⟩ := mod_range from_ 20 (by omega)
      obtain ⟨ma, hma⟩ : ∃ x, mod from_ 20 = x := ⟨_, rfl⟩
      rw [hma] at ma1 ma2
      rewrite [hma]
      clear hma
      rintro e w' ⟨rfl, rfl⟩
      go_wp2_with fail
      refine (mod_any to 20 _ (by omega)).mono ?_
      obtain ⟨mb1, mb2⟩ := mod_range to 20 (by omega)
      obtain ⟨mb, hmb⟩ : ∃ x, mod to 20 = x := ⟨_, rfl⟩
      rw [hmb] at mb1 mb2
      rewrite [hmb]
      clear hmb
      rintro e w' ⟨rfl, rfl⟩
      go_wp2_with fail
      refine (mod_any count 9 _ (by omega)).mono ?_
      obtain ⟨mc1, mc2⟩ := mod_range count 9 (by omega)
      obtain ⟨mc, hmc⟩ : ∃ x, mod count 9 = x := ⟨_, rfl⟩
      rw [hmc] at mc1 mc2
      rewrite [hmc]
      clear hmc
      rintro e w' ⟨rfl, rfl⟩
      go_wp2_with fail
      refine (mod_any from_ 4 _ (by omega)).mono ?_
      obtain ⟨md1, md2⟩ := mod_range from_ 4 (by omega)
      obtain ⟨md, hmd⟩ : ∃ x, mod from_ 4 = x := ⟨_, rfl⟩
      rw [hmd] at md1 md2
      rewrite [hmd]
      clear hmd
      rintro e w' ⟨rfl, rfl⟩
      go_wp2_with fail
      refine (mod_any to 9 _ (by omega)).mono ?_
      obtain ⟨me1, me2⟩ := mod_range to 9 (by omega)
      obtain ⟨me, hme⟩ : ∃ x, mod to 9 = x := ⟨_, rfl⟩
      rw [hme] at me1 me2
      rewrite [hme]
      clear hme
      rintro e w' ⟨rfl, rfl⟩
      go_wp2_with fail
      refine (mod_any count 4 _ (by omega)).mono ?_
      obtain ⟨mf1, mf2⟩ := mod_range count 4 (by omega)
      obtain ⟨mf, hmf⟩ : ∃ x, mod count 4 = x := ⟨_, rfl⟩
      rw [hmf] at mf1 mf2
      rewrite [hmf]
      clear hmf
      rintro e w' ⟨rfl, rfl⟩
      go_wp2_with fail
      refine (mod_any to 9 _ (by omega)).mono ?_
      obtain ⟨mg1, mg2⟩ := mod_range to 9 (by omega)
      obtain ⟨mg, hmg⟩ : ∃ x, mod to 9 = x := ⟨_, rfl⟩
      rw [hmg] at mg1 mg2
      rewrite [hmg]
      clear hmg
      rintro e w' ⟨rfl, rfl⟩
      go_wp2_with fail
      refine (mod_any from_ 9 _ (by omega)).mono ?_
      obtain ⟨mh1, mh2⟩ := mod_range from_ 9 (by omega)
      obtain ⟨mh, hmh⟩ : ∃ x, mod from_ 9 = x := ⟨_, rfl⟩
      rw [hmh] at mh1 mh2
      rewrite [hmh]
      clear hmh
      rintro e w' ⟨rfl, rfl⟩
      go_wp2_with fail
      refine (mod_any count 4 _ (by omega)).mono ?_
      obtain ⟨mi1, mi2⟩ := mod_range count 4 (by omega)
      obtain ⟨mi, hmi⟩ : ∃ x, mod count 4 = x := ⟨_, rfl⟩
      rw [hmi] at mi1 mi2
      rewrite [hmi]
      clear hmi
      rintro e w' ⟨rfl, rfl⟩
      go_wp2_with fail
      go_loopw [81] (fun i wr => ∃ k : Nat, k ≤ 4 ∧ i = .int .i64 k ∧ Hid (EnvD w ⟨f0, t0, c0, n0, s0, x0⟩ La LA Ln Lc Ld Lp w1.heap.size wr)) (fun i _ => 4 - (intOf i).toNat)
      case atStart =>
        refine ⟨0, by omega, rfl, ?_⟩
        have hb := (Below.refl w1.heap.size w1).alloc (Nat.le_refl _) (.cells #[.int .i64 from_, .int .i64 to, .int .i64 count, .int .i64 ma, .int .i64 mb, .int .i64 mc, .int .i64 (1048511 + md), .int .i64 me, .int .i64 (62 + mf), .int .i64 mg, .int .i64 (1048576 - mh), .int .i64 (1 + mi)] 60)
        exact ⟨HT1.out.below hb (by omega), HX1.out.below hb (by omega), HD1.out.below hb, Rows3b.new _ _ _ _ _ _ _ _ _ _ _ _ _ _ hcount ⟨by omega, by omega⟩ ⟨by omega, by omega⟩ ⟨by omega, by omega⟩, hlt1, by simp, HB1.out.trans (hb.mono HB1.out.size)⟩
      case round =>
        obtain ⟨k, hk, rfl, HE⟩ := hrel
        by_cases hk4 : k < 4
        · obtain ⟨X, Y, Z, zb1, zb2, r0, r1, r2⟩ := HE.out.2.2.2.1 k hk4
          have hk4' : (k : Int) < 4 := by omega
          have hgl := HE.out.lt
          have HTR0 := Lib.hid (Tri.new wr X Y Z 60)
          have HE0 := Lib.hid (HE.out.alloc (.cells #[.int .i64 X, .int .i64 Y, .int .i64 Z] 60))
          go_wp2_with fail
          refine (dbegin_any X Y Z strict _ zb1).mono ?_
          obtain ⟨T1, hT1⟩ : ∃ T, beginT X Y Z strict = T := ⟨_, rfl⟩
          have hcn : -9223372036854775808 ≤ T1.cnt := by rw [← hT1]; exact begin_cnt zb1
          obtain ⟨CE, hCE⟩ : ∃ E, checkF X Y Z = E := ⟨_, rfl⟩
          rewrite [hT1, hCE]
          have HT := Lib.hid hT1
          have HCE := Lib.hid hCE
          clear hT1 hCE r0 r1 r2
          obtain ⟨f1, t1, c1, n1, s1, x1⟩ := T1
          dsimp only at hcn ⊢
          rintro e w2 ⟨rfl, hb2⟩
          have hs2 := hb2.size
          simp only [World.size_alloc] at hs2
          have HE2 := Lib.hid (HE0.out.below hb2)
          have HTR2 := Lib.hid (HTR0.out.below hb2 (by simp))
          have l2 : wr.heap.size < w2.heap.size := by omega
          clear hb2
          obtain ⟨k0, k1, k2⟩ := HTR2.out
          have HX2 := Lib.hid (TrBox.new w2 f1 t1 c1 n1 s1 x1 59)
          have HTR2b := Lib.hid (HTR2.out.below ((Below.refl _ _).alloc (Nat.le_refl _) (.cells #[.int .i64 f1, .int .i64 t1, .int .i64 c1, .int .i64 n1, .bool s1, .bool x1] 59)) l2)
          go_wp2_with fail
          refine (rbegin_any X Y Z strict _ zb1).mono ?_
          rewrite [HT.out, HCE.out]
          dsimp only
          rintro e w3 ⟨rfl, hb3⟩
          have hs3 := hb3.size
          simp only [World.size_alloc] at hs3
          have HE3 := Lib.hid ((HE2.out.alloc _).below hb3)
          have HTR3 := Lib.hid (HTR2b.out.below hb3 (by simp; omega))
          have HX3 := Lib.hid (HX2.out.below hb3 (by simp))
          have l3 : wr.heap.size < w3.heap.size := by omega
          have l3' : w2.heap.size < w3.heap.size := by omega
          clear hb3 k0 k1 k2
          obtain ⟨k0, k1, k2⟩ := HTR3.out
          obtain ⟨a0, a1, a2, a3, a4, a5, -⟩ := HX3.out
          dsimp only at a0 a1 a2 a3 a4 a5
          have zr1 : -64 < Z.tmod 64 := by have := Int.lt_tmod_of_pos Z (show (0 : Int) < 64 by omega); omega
          have zr2 : Z.tmod 64 < 64 := Int.tmod_lt_of_pos Z (show (0 : Int) < 64 by omega)
          go_wp2_with fail
          obtain ⟨u1, u2⟩ := mod_bd from_ (Z.tmod 64 + 2) (by omega)
          refine (mod_any from_ (Z.tmod 64 + 2) _ (by omega)).mono ?_
          obtain ⟨u, hu⟩ : ∃ x, mod from_ (Z.tmod 64 + 2) = x := ⟨_, rfl⟩
          rw [hu] at u1 u2
          rewrite [hu]
          clear hu
          rintro e w' ⟨rfl, rfl⟩
          have HY3 := Lib.hid (TrBox.new w3 f1 t1 c1 n1 s1 x1 59)
          have HE3b := Lib.hid (HE3.out.alloc (.cells #[.int .i64 f1, .int .i64 t1, .int .i64 c1, .int .i64 n1, .bool s1, .bool x1] 59))
          go_wp2_with fail
          refine (next_any _ 2 _ HE3b.out.dice (by omega) (by omega)).mono ?_
          rintro e w4 ⟨z, rfl, z1, z2, hD4, hb4⟩
          have hs4 := hb4.size
          simp only [World.size_alloc] at hs4
          have hlk := HE3.out.lt
          have hlw := HE3.out.2.2.2.2.1
          have HE4 := Lib.hid (HE3b.out.but hb4 hD4)
          have HY4 := Lib.hid (HY3.out.but hb4 (by simp) (by omega))
          have l4 : w3.heap.size < w4.heap.size := by omega
          clear hb4 hD4 k0 k1 k2 a0 a1 a2 a3 a4 a5
          go_wp2_with fail
          refine (next_any _ 3 _ HE4.out.dice (by omega) (by omega)).mono ?_
          rintro e w5 ⟨y, rfl, y1, y2, hD5, hb5⟩
          have hs5 := hb5.size
          have HE5 := Lib.hid (HE4.out.but hb5 hD5)
          have HY5 := Lib.hid (HY4.out.but hb5 l4 (by omega))
          have l5 : w3.heap.size < w5.heap.size := by omega
          clear hb5 hD5
          obtain ⟨a0, a1, a2, a3, a4, a5, a6, a7, a8, a9, a10, a11⟩ := HY5.out
          dsimp only at a0 a1 a2 a3 a4 a5
          obtain ⟨e0, e1, e2, e3, e4, e5, -⟩ := HE5.out.1
          dsimp only at e0 e1 e2 e3 e4 e5
          have l5w : w.heap.size < w5.heap.size := by have := HE5.out.old.size; have := HE5.out.lt; omega
          have hne5 : w.heap.size ≠ w3.heap.size := by omega
          go_wp2_with fail
          go_loopw [133] (fun i wr => ∃ j : Nat, j ≤ 2 ∧ i = .int .i64 j ∧ Hid (EnvD w ⟨f0, t0, c0, n0, s0, x0⟩ La LA Ln Lc Ld Lp w1.heap.size wr) ∧ Hid (Two wr w5.heap.size) ∧ w5.heap.size < wr.heap.size) (fun i _ => 2 - (intOf i).toNat)
          case atStart =>
            refine ⟨0, by omega, rfl, EnvD.alloc ?_ _, ?_, by simp⟩
            · exact (HE5.out.put (by omega) _).put (by omega) _
            · have hz : w5.heap.size = ((w5.setCell ⟨w3.heap.size, 3, none⟩ (.int .i64 (u - z))).setCell ⟨w3.heap.size, 5, none⟩ (.bool (y == 0))).heap.size := by simp
              have := Two.new ((w5.setCell ⟨w3.heap.size, 3, none⟩ (.int .i64 (u - z))).setCell ⟨w3.heap.size, 5, none⟩ (.bool (y == 0))) f1 t1 c1 (u - z) f0 t0 c0 n0 s1 (y == 0) s0 x0 59 hcn hc0
              rwa [← hz] at this
          case round =>
            obtain ⟨j, hj, rfl, HE, HW, hgz⟩ := hrel
            obtain ⟨wm, rfl⟩ : ∃ wm : World, wm = wr := ⟨_, rfl⟩
            by_cases hj2 : j < 2
            · obtain ⟨f, t, cc, m, s, x, hcc, b0, b1, b2, b3, b4, b5⟩ := HW.out j hj2
              have hj2' : (j : Int) < 2 := by omega
              have HZ0 := Lib.hid (TrBox.new wm f t cc m s x 59)
              have HE0 := Lib.hid (HE.out.alloc (.cells #[.int .i64 f, .int .i64 t, .int .i64 cc, .int .i64 m, .bool s, .bool x] 59))
              have HW0 := Lib.hid (HW.out.below ((Below.refl _ _).alloc (Nat.le_refl _) (.cells #[.int .i64 f, .int .i64 t, .int .i64 cc, .int .i64 m, .bool s, .bool x] 59)) hgz)
              go_wp2_with fail
              refine (dnext_any f t cc m s x _ hcc).mono ?_
              obtain ⟨U, hU⟩ : ∃ r, nextA ⟨f, t, cc, m, s, x⟩ = r := ⟨_, rfl⟩
              obtain ⟨V, hV⟩ : ∃ r, nextB ⟨f, t, cc, m, s, x⟩ = r := ⟨_, rfl⟩
              obtain ⟨I, hI⟩ : ∃ r, liveT ⟨f, t, cc, m, s, x⟩ = r := ⟨_, rfl⟩
              have hU1 := nextA_bd (T := ⟨f, t, cc, m, s, x⟩)
              rw [hU] at hU1
              obtain ⟨hU1, hU2⟩ := hU1
              rewrite [hU, hV, hI]
              have HU := Lib.hid hU
              have HV := Lib.hid hV
              have HI := Lib.hid hI
              clear hU hV hI b0 b1 b2 b3 b4 b5
              rintro e w6 ⟨rfl, hb6⟩
              have hs6 := hb6.size
              simp only [World.size_alloc] at hs6
              have HE6 := Lib.hid (HE0.out.below hb6)
              have HZ6 := Lib.hid (HZ0.out.below hb6 (by simp))
              have HW6 := Lib.hid (HW0.out.below hb6 (by simp; omega))
              have l6 : wm.heap.size < w6.heap.size := by omega
              clear hb6
              obtain ⟨b0, b1, b2, b3, b4, b5, -⟩ := HZ6.out
              dsimp only at b0 b1 b2 b3 b4 b5
              go_wp2_with fail
              refine (rnext_any f t cc m s x _ hcc).mono ?_
              rewrite [HU.out, HV.out, HI.out]
              rintro e w7 ⟨rfl, hb7⟩
              have hs7 := hb7.size
              have HE7 := Lib.hid (HE6.out.below hb7)
              have HZ7 := Lib.hid (HZ6.out.below hb7 l6)
              have HW7 := Lib.hid (HW6.out.below hb7 (by omega))
              have l7 : wm.heap.size < w7.heap.size := by omega
              clear hb7 b0 b1 b2 b3 b4 b5
              obtain ⟨b0, b1, b2, b3, b4, b5, -⟩ := HZ7.out
              dsimp only at b0 b1 b2 b3 b4 b5
              obtain ⟨VT, hVT⟩ : ∃ b, validT ⟨f, t, cc, m, s, x⟩ = b := ⟨_, rfl⟩
              have HVT := Lib.hid hVT
              clear hVT
              go_wp2_with fail
              go_region_held3 (fun w' => w'.cell? ⟨wm.heap.size, 0, none⟩ = some (.int .i64 f) ∧ w'.cell? ⟨wm.heap.size, 1, none⟩ = some (.int .i64 t) ∧ w'.cell? ⟨wm.heap.size, 2, none⟩ = some (.int .i64 cc) ∧ w'.cell? ⟨wm.heap.size, 3, none⟩ = some (.int .i64 m) ∧ w'.cell? ⟨wm.heap.size, 4, none⟩ = some (.bool s) ∧ w'.cell? ⟨wm.heap.size, 5, none⟩ = some (.bool x)) (simp [go_sem, *]) (first | (go_at_call 44; refine (dvalid_any f t cc m s x _ hcc).mono ?_; rewrite [HVT.out]; rintro e w8 ⟨rfl, hb8⟩; have hB8 := (show Below w7.heap.size w7 _ by (repeat' (first | (with_reducible exact Below.refl _ _) | (with_reducible assumption) | (with_reducible refine Below.alloc ?_ ?_ _) | (with_reducible refine Below.drew ?_) | (with_reducible refine below_drewN ?_ _) | (with_reducible refine Below.setCell ?_ ?_ _) | (with_reducible exact Nat.le_refl _) | omega | (simp <;> omega)))).trans (hb8.mono (show w7.heap.size ≤ _ by (first | (with_reducible exact Nat.le_refl _) | (with_reducible assumption) | omega | (simp <;> omega)))); have HE8 := Lib.hid (HE7.out.below hB8); have HZ8 := Lib.hid (HZ7.out.below hB8 l7); have HW8 := Lib.hid (HW7.out.below hB8 (by omega)); have hs8 := hB8.size; have l8 := Nat.lt_of_lt_of_le l7 hs8; clear hb8 hB8; obtain ⟨c80, c81, c82, c83, c84, c85, -⟩ := HZ8.out; dsimp only at c80 c81 c82 c83 c84 c85) | (go_at_call 45; refine (rvalid_any f t cc m s x _ hcc).mono ?_; rewrite [HVT.out]; rintro e w9 ⟨rfl, hb9⟩; have hB9 := (show Below w8.heap.size w8 _ by (repeat' (first | (with_reducible exact Below.refl _ _) | (with_reducible assumption) | (with_reducible refine Below.alloc ?_ ?_ _) | (with_reducible refine Below.drew ?_) | (with_reducible refine below_drewN ?_ _) | (with_reducible refine Below.setCell ?_ ?_ _) | (with_reducible exact Nat.le_refl _) | omega | (simp <;> omega)))).trans (hb9.mono (show w8.heap.size ≤ _ by (first | (with_reducible exact Nat.le_refl _) | (with_reducible assumption) | omega | (simp <;> omega)))); have HE9 := Lib.hid (HE8.out.below hB9); have HZ9 := Lib.hid (HZ8.out.below hB9 l8); have HW9 := Lib.hid (HW8.out.below hB9 (by omega)); have hs9 := hB9.size; have l9 := Nat.lt_of_lt_of_le l8 hs9; clear hb9 hB9; obtain ⟨c90, c91, c92, c93, c94, c95, -⟩ := HZ9.out; dsimp only at c90 c91 c92 c93 c94 c95))
              go_wp2_with fail
              have tokA : True := trivial
              obtain ⟨e0, e1, e2, e3⟩ := HE9.out.2.1
              have le9 : w.heap.size + 1 < w9.heap.size := by have := HE9.out.old.size; have := HE9.out.lt; have := HE9.out.2.2.2.2.1; omega
              have hg9 : w.heap.size + 1 + 1 < w9.heap.size := by have := HE9.out.lt; have := HE9.out.2.2.2.2.1; omega
              have hK9 := HE9.out.2.2.2.2.1
              clear b0 b1 b2 b3 b4 b5 c80 c81 c82 c83 c84 c85 c90 c91 c92 c93 c94 c95
              have hgm : w.heap.size + 1 + 1 < wm.heap.size := by have := HE.out.lt; omega
              have hgz5 : w.heap.size + 1 + 1 < w5.heap.size := by omega
              have lz9 : w5.heap.size < w9.heap.size := by omega
              go_region_held3 (fun w' => w'.cell? ⟨w.heap.size + 1, 0, none⟩ = some (.int .i64 La) ∧ w'.cell? ⟨w.heap.size + 1, 1, none⟩ = some (.slice LA Ln Lc) ∧ w'.cell? ⟨w.heap.size + 1, 2, none⟩ = some (.bool Ld) ∧ w'.cell? ⟨w.heap.size + 1, 3, none⟩ = some (.bool Lp)) (simp [go_sem, *]) (first | (go_at_call 46; have _t := tokA; refine (line_any (w.heap.size + 1 + 1) 2 _ _ (by have hd := HE9.out.dice; (repeat' (first | (with_reducible assumption) | (with_reducible refine DiceOk.put ?_ ?_ _) | (with_reducible refine DiceOk.alloc ?_ _) | (with_reducible refine DiceOk.drew ?_) | (with_reducible refine DiceOk.drewN ?_ _) | omega | (simp <;> omega)))) (by omega)).mono ?_; rintro e w10 ⟨v10, ⟨la1, bs1, d1, p1⟩, rfl, -, hbs1, ⟨A1, c1l, rfl, hown1⟩, hD10, hb10⟩; dsimp only at hbs1 hown1 ⊢; rw [hbs1] at hown1; have HBS1 := Lib.hid hbs1; rw [hbs1]; have hO10 := ownsRow_base hown1 (show w9.heap.size ≤ _ by (first | (with_reducible exact Nat.le_refl _) | (with_reducible assumption) | omega | (simp <;> omega))); have hB10 := (show But (w.heap.size + 1 + 1) w9.heap.size w9 _ by (repeat' (first | (with_reducible exact But.refl _ _ _) | (with_reducible assumption) | (with_reducible refine But.alloc ?_ ?_ _) | (with_reducible refine But.drew ?_) | (with_reducible refine But.drewN ?_ _) | (with_reducible refine But.setCell ?_ ?_ _) | (with_reducible exact Nat.le_refl _) | omega | (simp <;> omega) | (left; first | omega | (simp <;> omega))))).trans (hb10.mono (show w9.heap.size ≤ _ by (first | (with_reducible exact Nat.le_refl _) | (with_reducible assumption) | omega | (simp <;> omega)))); have HE10 := Lib.hid (HE9.out.but hB10 hD10); have HZ10 := Lib.hid (HZ9.out.but hB10 l9 (Nat.ne_of_gt hgm)); have HW10 := Lib.hid (HW9.out.but hB10 lz9 (Nat.ne_of_gt hgz5)); have hs10 := hB10.size; have l10 := Nat.lt_of_lt_of_le l9 hs10; have lz10 := Nat.lt_of_lt_of_le lz9 hs10; have hg10 := Nat.lt_of_lt_of_le hg9 hs10; have le10 := Nat.lt_of_lt_of_le le9 hs10; have HO10 := Lib.hid hO10; obtain ⟨e0, e1, e2, e3⟩ := HE10.out.2.1; clear tokA hb10 hB10 hD10 hown1 hO10 hbs1) | (go_at_call 19; refine (next_any (w.heap.size + 1 + 1) 2 _ (by have hd := HE10.out.dice; (repeat' (first | (with_reducible assumption) | (with_reducible refine DiceOk.put ?_ ?_ _) | (with_reducible refine DiceOk.alloc ?_ _) | (with_reducible refine DiceOk.drew ?_) | (with_reducible refine DiceOk.drewN ?_ _) | omega | (simp <;> omega)))) (by omega) (by omega)).mono ?_; rintro e w11 ⟨z11, rfl, -, -, hD11, hb11⟩; have hB11 := (show But (w.heap.size + 1 + 1) w10.heap.size w10 _ by (repeat' (first | (with_reducible exact But.refl _ _ _) | (with_reducible assumption) | (with_reducible refine But.alloc ?_ ?_ _) | (with_reducible refine But.drew ?_) | (with_reducible refine But.drewN ?_ _) | (with_reducible refine But.setCell ?_ ?_ _) | (with_reducible exact Nat.le_refl _) | omega | (simp <;> omega) | (left; first | omega | (simp <;> omega))))).trans (hb11.mono (show w10.heap.size ≤ _ by (first | (with_reducible exact Nat.le_refl _) | (with_reducible assumption) | omega | (simp <;> omega)))); have HE11 := Lib.hid (HE10.out.but hB11 hD11); have HZ11 := Lib.hid (HZ10.out.but hB11 l10 (Nat.ne_of_gt hgm)); have HW11 := Lib.hid (HW10.out.but hB11 lz10 (Nat.ne_of_gt hgz5)); have hs11 := hB11.size; have l11 := Nat.lt_of_lt_of_le l10 hs11; have lz11 := Nat.lt_of_lt_of_le lz10 hs11; have hg11 := Nat.lt_of_lt_of_le hg10 hs11; have le11 := Nat.lt_of_lt_of_le le10 hs11; have HO11 := Lib.hid (row_but HO10.out hB11 hg9); obtain ⟨e0, e1, e2, e3⟩ := HE11.out.2.1; clear hb11 hB11 hD11) | (go_at_call 46; refine (line_any (w.heap.size + 1 + 1) 2 _ _ (by have hd := HE11.out.dice; (repeat' (first | (with_reducible assumption) | (with_reducible refine DiceOk.put ?_ ?_ _) | (with_reducible refine DiceOk.alloc ?_ _) | (with_reducible refine DiceOk.drew ?_) | (with_reducible refine DiceOk.drewN ?_ _) | omega | (simp <;> omega)))) (by omega)).mono ?_; rintro e w12 ⟨v12, ⟨la2, bs2, d2, p2⟩, rfl, -, hbs2, ⟨A2, c2l, rfl, hown2⟩, hD12, hb12⟩; dsimp only at hbs2 hown2 ⊢; rw [hbs2] at hown2; have HBS2 := Lib.hid hbs2; rw [hbs2]; have hB12 := (show But (w.heap.size + 1 + 1) w11.heap.size w11 _ by (repeat' (first | (with_reducible exact But.refl _ _ _) | (with_reducible assumption) | (with_reducible refine But.alloc ?_ ?_ _) | (with_reducible refine But.drew ?_) | (with_reducible refine But.drewN ?_ _) | (with_reducible refine But.setCell ?_ ?_ _) | (with_reducible exact Nat.le_refl _) | omega | (simp <;> omega) | (left; first | omega | (simp <;> omega))))).trans (hb12.mono (show w11.heap.size ≤ _ by (first | (with_reducible exact Nat.le_refl _) | (with_reducible assumption) | omega | (simp <;> omega)))); have HE12 := Lib.hid (HE11.out.but hB12 hD12); have HZ12 := Lib.hid (HZ11.out.but hB12 l11 (Nat.ne_of_gt hgm)); have HW12 := Lib.hid (HW11.out.but hB12 lz11 (Nat.ne_of_gt hgz5)); have hs12 := hB12.size; have l12 := Nat.lt_of_lt_of_le l11 hs12; have lz12 := Nat.lt_of_lt_of_le lz11 hs12; have hg12 := Nat.lt_of_lt_of_le hg11 hs12; have le12 := Nat.lt_of_lt_of_le le11 hs12; have HO12 := Lib.hid (row_but HO11.out hB12 hg9); have HP12 := Lib.hid (Has.of_own hown2); obtain ⟨e0, e1, e2, e3⟩ := HE12.out.2.1; clear hb12 hB12 hD12 hown2 hbs2))
              go_wp2_with fail
              have hIL : IsLines (w12.alloc (.cells #[.int .i64 La, .slice LA Ln Lc, .bool Ld, .bool Lp, .int .i64 la1, .slice A1 2 c1l, .bool d1, .bool p1, .int .i64 la2, .slice A2 2 c2l, .bool d2, .bool p2] 28)) (some ⟨w12.heap.size, 0, none⟩) 3 [⟨⟨La, bs, Ld, Lp⟩, LA, Lc⟩, ⟨⟨la1, bs1, d1, p1⟩, A1, c1l⟩, ⟨⟨la2, bs2, d2, p2⟩, A2, c2l⟩] := by
                refine ⟨Has.lit_at _ _ _ 3 4 _ _ rfl rfl (by simp [lineVals, HLN.out, HBS1.out, HBS2.out]), ?_⟩
                intro x hx
                simp only [List.mem_cons, List.not_mem_nil, or_false] at hx
                rcases hx with rfl | rfl | rfl
                · rw [show (LineV.L ⟨⟨La, bs, Ld, Lp⟩, LA, Lc⟩).data = bs from rfl, HLN.out]; exact (HLD.out.below HE12.out.old).alloc _
                · rw [show (LineV.L ⟨⟨la1, bs1, d1, p1⟩, A1, c1l⟩).data = bs1 from rfl, HBS1.out]; exact (Has.of_own HO12.out).alloc _
                · rw [show (LineV.L ⟨⟨la2, bs2, d2, p2⟩, A2, c2l⟩).data = bs2 from rfl, HBS2.out]; exact HP12.out.alloc _
              have hXL : ∀ x ∈ ([⟨⟨La, bs, Ld, Lp⟩, LA, Lc⟩, ⟨⟨la1, bs1, d1, p1⟩, A1, c1l⟩, ⟨⟨la2, bs2, d2, p2⟩, A2, c2l⟩] : List LineV), x.L.data.length ≤ 100 := by
                intro x hx
                simp only [List.mem_cons, List.not_mem_nil, or_false] at hx
                rcases hx with rfl | rfl | rfl
                · exact Nat.le_trans (Nat.le_of_eq HLN.out) hl
                · exact Nat.le_trans (Nat.le_of_eq HBS1.out) (by omega)
                · exact Nat.le_trans (Nat.le_of_eq HBS2.out) (by omega)
              obtain ⟨XS, hXS⟩ : ∃ XS : List LineV, [⟨⟨La, bs, Ld, Lp⟩, LA, Lc⟩, ⟨⟨la1, bs1, d1, p1⟩, A1, c1l⟩, ⟨⟨la2, bs2, d2, p2⟩, A2, c2l⟩] = XS := ⟨_, rfl⟩
              rw [hXS] at hIL hXL
              have HIL := Lib.hid hIL
              have HXL := Lib.hid hXL
              have HE13 := Lib.hid (HE12.out.alloc (.cells #[.int .i64 La, .slice LA Ln Lc, .bool Ld, .bool Lp, .int .i64 la1, .slice A1 2 c1l, .bool d1, .bool p1, .int .i64 la2, .slice A2 2 c2l, .bool d2, .bool p2] 28))
              have hb13 := (Below.refl w12.heap.size w12).alloc (Nat.le_refl _) (.cells #[.int .i64 La, .slice LA Ln Lc, .bool Ld, .bool Lp, .int .i64 la1, .slice A1 2 c1l, .bool d1, .bool p1, .int .i64 la2, .slice A2 2 c2l, .bool d2, .bool p2] 28)
              have HZ13 := Lib.hid (HZ12.out.below hb13 l12)
              have HW13 := Lib.hid (HW12.out.below hb13 lz12)
              clear hIL hXL hXS hb13 e0 e1 e2 e3
              go_loopw [181] (fun i wr => ∃ q : Nat, q ≤ 3 ∧ i = .int .i64 q ∧ Hid (EnvD w ⟨f0, t0, c0, n0, s0, x0⟩ La LA Ln Lc Ld Lp w1.heap.size wr) ∧ Hid (IsLines wr (some ⟨w12.heap.size, 0, none⟩) 3 XS) ∧ Hid (TrBox wr wm.heap.size ⟨f, t, cc, m, s, x⟩) ∧ Hid (Two wr w5.heap.size) ∧ wm.heap.size < wr.heap.size ∧ w5.heap.size < wr.heap.size) (fun i _ => 3 - (intOf i).toNat)
              case atStart => exact ⟨0, by omega, rfl, HE13.out, HIL.out, HZ13.out, HW13.out, by simp; omega, by simp; omega⟩
              case round =>
                obtain ⟨q, hq, rfl, HE, HI, HZ, HW, hgm, hgz⟩ := hrel
                by_cases hq3 : q < 3
                · obtain ⟨bb, off, e', hbl, d0, d1', d2', d3', hdat⟩ := HI.out.at_ hq3
                  injection e' with e'
                  injection e' with e1 e2
                  subst e1 e2
                  simp only [Nat.zero_add] at d0 d1' d2' d3'
                  have hdl : (XS.getD q LineV.zero).L.data.length ≤ 100 := by
                    have hql : q < XS.length := by rw [HI.out.len]; exact hq3
                    have e : XS.getD q LineV.zero = XS[q] := by simp [List.getD, List.getElem?_eq_getElem hql]
                    rw [e]
                    exact HXL.out _ (List.getElem_mem hql)
                  obtain ⟨⟨⟨a, ds, d, p⟩, A', c'⟩, hx⟩ : ∃ x, XS.getD q LineV.zero = x := ⟨_, rfl⟩
                  rw [hx] at d0 d1' d2' d3' hdat hdl
                  dsimp only at d0 d1' d2' d3' hdat hdl
                  obtain ⟨Dn, hDn⟩ : ∃ Dn, ds.length = Dn := ⟨_, rfl⟩
                  rw [hDn] at d1' hdat hdl
                  have HDn := Lib.hid hDn
                  have Hdat := Lib.hid hdat
                  have hq3' : (q : Int) < 3 := by omega
                  obtain ⟨b0, b1, b2, b3, b4, b5, -⟩ := HZ.out
                  dsimp only at b0 b1 b2 b3 b4 b5
                  have HLB := Lib.hid (LnBox.new wr a A' Dn c' d p 28)
                  clear hx hdat hDn
                  go_wp2_with fail
                  refine (dstep_any f t cc m s x _ ⟨a, ds, d, p⟩ _ hcc (isLine_mk _ _ _ (Hdat.out.alloc _)) (by rw [show LineD.data ⟨a, ds, d, p⟩ = ds from rfl, HDn.out]; omega)).mono ?_
                  obtain ⟨T2, hT2⟩ : ∃ T, stepT ⟨f, t, cc, m, s, x⟩ ⟨a, ds, d, p⟩ = T := ⟨_, rfl⟩
                  obtain ⟨L2, hL2⟩ : ∃ T, stepL ⟨f, t, cc, m, s, x⟩ ⟨a, ds, d, p⟩ = T := ⟨_, rfl⟩
                  obtain ⟨E2, hE2⟩ : ∃ T, stepE ⟨f, t, cc, m, s, x⟩ ⟨a, ds, d, p⟩ = T := ⟨_, rfl⟩
                  rewrite [hT2, hL2, hE2]
                  have HT2 := Lib.hid hT2
                  have HL2 := Lib.hid hL2
                  have HE2' := Lib.hid hE2
                  obtain ⟨f2, t2, cc2, m2, s2, x2⟩ := T2
                  obtain ⟨la, ld, lq, lp⟩ := L2
                  obtain ⟨Nn, hNn⟩ : ∃ Nn, ld.length = Nn := ⟨_, rfl⟩
                  have HNn := Lib.hid hNn
                  simp only [TrV]
                  clear hT2 hL2 hE2 d0 d1' d2' d3'
                  rintro e w14 ⟨v14, rfl, ⟨A14, c14, rfl, hown14⟩, hb14⟩
                  dsimp only at hown14 ⊢
                  rw [hNn] at hown14
                  rw [hNn]
                  have hs14 := hb14.size
                  simp only [World.size_alloc] at hs14
                  have H14 := (show Below wr.heap.size wr _ by (repeat' (first | (with_reducible exact Below.refl _ _) | (with_reducible assumption) | (with_reducible refine Below.alloc ?_ ?_ _) | (with_reducible refine Below.drew ?_) | (with_reducible refine below_drewN ?_ _) | (with_reducible refine Below.setCell ?_ ?_ _) | (with_reducible exact Nat.le_refl _) | omega | (simp <;> omega)))).trans (hb14.mono (show wr.heap.size ≤ _ by (first | (with_reducible exact Nat.le_refl _) | (with_reducible assumption) | omega | (simp <;> omega))))
                  have HLB14 := Lib.hid (HLB.out.below hb14 (by simp))
                  have HZ14 := Lib.hid (HZ.out.below H14 hgm)
                  have Hdat14 := Lib.hid (Hdat.out.below H14)
                  have Hr14 := Lib.hid (Has.of_own hown14)
                  have l14 : wr.heap.size < w14.heap.size := by omega
                  have lm14 : wm.heap.size < w14.heap.size := by omega
                  clear hb14 hown14 hNn b0 b1 b2 b3 b4 b5
                  obtain ⟨b0, b1, b2, b3, b4, b5, -⟩ := HZ14.out
                  dsimp only at b0 b1 b2 b3 b4 b5
                  obtain ⟨g0, g1, g2, g3⟩ := HLB14.out
                  have HB32 := Lib.hid ((TrBox.new w14 f2 t2 cc2 m2 s2 x2 59).alloc (by simp) (.cells #[.int .i64 la, .slice A14 Nn c14, .bool lq, .bool lp] 28))
                  have hB33 := LnBox.new (w14.alloc (.cells #[.int .i64 f2, .int .i64 t2, .int .i64 cc2, .int .i64 m2, .bool s2, .bool x2] 59)) la A14 Nn c14 lq lp 28
                  simp only [World.size_alloc] at hB33
                  have HB33 := Lib.hid hB33
                  clear hB33
                  have H14b := H14
                  go_wp2_with fail
                  refine (rstep_any f t cc m s x _ ⟨a, ds, d, p⟩ _ hcc (isLine_mk _ _ _ ((Hdat14.out.alloc _).alloc _)) (by rw [show LineD.data ⟨a, ds, d, p⟩ = ds from rfl, HDn.out]; omega)).mono ?_
                  rewrite [HT2.out, HL2.out, HE2'.out]
                  simp only [TrV]
                  rintro e w15 ⟨v15, rfl, ⟨A15, c15, rfl, hown15⟩, hb15⟩
                  dsimp only at hown15 ⊢
                  rw [HNn.out] at hown15
                  rw [HNn.out]
                  have hs15 := hb15.size
                  simp only [World.size_alloc] at hs15
                  have H15 := (show Below wr.heap.size wr _ by (repeat' (first | (with_reducible exact Below.refl _ _) | (with_reducible assumption) | (with_reducible refine Below.alloc ?_ ?_ _) | (with_reducible refine Below.drew ?_) | (with_reducible refine below_drewN ?_ _) | (with_reducible refine Below.setCell ?_ ?_ _) | (with_reducible exact Nat.le_refl _) | omega | (simp <;> omega)))).trans (hb15.mono (show wr.heap.size ≤ _ by (first | (with_reducible exact Nat.le_refl _) | (with_reducible assumption) | omega | (simp <;> omega))))
                  have HB32b := Lib.hid (HB32.out.below hb15 (by simp; omega))
                  have HB33b := Lib.hid (HB33.out.below hb15 (by simp))
                  have Hr14b := Lib.hid (((Hr14.out.alloc _).alloc _).below hb15)
                  have Hr15 := Lib.hid (Has.of_own hown15)
                  have l15 : w14.heap.size < w15.heap.size := by omega
                  have l15b : w14.heap.size + 1 < w15.heap.size := by omega
                  clear hb15 hown15 b0 b1 b2 b3 b4 b5 g0 g1 g2 g3
                  obtain ⟨b0, b1, b2, b3, b4, b5, -⟩ := HB32b.out
                  dsimp only at b0 b1 b2 b3 b4 b5
                  obtain ⟨g0, g1, g2, g3⟩ := HB33b.out
                  go_wp2_with fail
                  refine (same_any _ _ ⟨la, ld, lq, lp⟩ ⟨la, ld, lq, lp⟩ _ (isLine_mk _ _ _ ((Hr14b.out.alloc _).alloc _)) (isLine_mk _ _ _ ((Hr15.out.alloc _).alloc _))).mono ?_
                  rewrite [show sameB ⟨la, ld, lq, lp⟩ ⟨la, ld, lq, lp⟩ = true from by simp [sameB]]
                  rintro e w16 ⟨rfl, hb16⟩
                  have H16 := (show Below wr.heap.size wr _ by (repeat' (first | (with_reducible exact Below.refl _ _) | (with_reducible assumption) | (with_reducible refine Below.alloc ?_ ?_ _) | (with_reducible refine Below.drew ?_) | (with_reducible refine below_drewN ?_ _) | (with_reducible refine Below.setCell ?_ ?_ _) | (with_reducible exact Nat.le_refl _) | omega | (simp <;> omega)))).trans (hb16.mono (show wr.heap.size ≤ _ by (first | (with_reducible exact Nat.le_refl _) | (with_reducible assumption) | omega | (simp <;> omega))))
                  clear hb16
                  go_wp2_with fail
                  go_roundw
                  case rel => exact ⟨q + 1, by omega, by go_num, HE.out.below H16, HI.out.below H16, HZ.out.below H16 hgm, HW.out.below H16 hgz, Nat.lt_of_lt_of_le hgm H16.size, Nat.lt_of_lt_of_le hgz H16.size⟩
                  case measure => simp [intOf]; omega
                · have hqq : q = 3 := by omega
                  subst hqq
                  go_wp2_with fail
                  go_roundw
                  case rel => exact ⟨j + 1, by omega, by go_num, HE.out, HW.out, hgz⟩
                  case measure => simp [intOf]; omega
            · have hjj : j = 2 := by omega
              subst hjj
              go_wp2_with fail
              go_roundw
              case rel => exact ⟨k + 1, by omega, by go_num, HE.out⟩
              case measure => simp [intOf]; omega
        · have hkk : k = 4 := by omega
          subst hkk
          go_wp2_with fail
          refine (dawake_any _).mono ?_
          rintro e w7 ⟨rfl, hb7⟩
          have HB7 := Lib.hid (HE.out.old.trans (hb7.mono HE.out.old.size))
          clear hb7
          go_wp2_with fail
          go_ret
          exact ⟨rfl, HB7.out⟩
    · go_enter Try.func5, Try.ntmps5
      go_wp2_with fail
      refine (light_no A n c _ hn).mono ?_
      rintro e w' ⟨rfl, rfl⟩
      go_wp2_with fail
      refine (dawake_any _).mono ?_
      rintro e w7 ⟨rfl, hb7⟩
      have hB7 := (show Below w.heap.size w _ by (repeat' (first | (with_reducible exact Below.refl _ _) | (with_reducible assumption) | (with_reducible refine Below.alloc ?_ ?_ _) | (with_reducible refine Below.drew ?_) | (with_reducible refine below_drewN ?_ _) | (with_reducible refine Below.setCell ?_ ?_ _) | (with_reducible exact Nat.le_refl _) | omega | (simp <;> omega)))).trans (hb7.mono (show w.heap.size ≤ _ by (first | (with_reducible exact Nat.le_refl _) | (with_reducible assumption) | omega | (simp <;> omega))))
      go_wp2_with fail
      go_ret
      exact ⟨rfl, hB7⟩
  · go_enter Try.func5, Try.ntmps5
    go_wp2_with fail
    refine (dawake_any _).mono ?_
    rintro e w7 ⟨rfl, hb7⟩
    have hB7 := (show Below w.heap.size w _ by (repeat' (first | (with_reducible exact Below.refl _ _) | (with_reducible assumption) | (with_reducible refine Below.alloc ?_ ?_ _) | (with_reducible refine Below.drew ?_) | (with_reducible refine below_drewN ?_ _) | (with_reducible refine Below.setCell ?_ ?_ _) | (with_reducible exact Nat.le_refl _) | omega | (simp <;> omega)))).trans (hb7.mono (show w.heap.size ≤ _ by (first | (with_reducible exact Nat.le_refl _) | (with_reducible assumption) | omega | (simp <;> omega))))
    go_wp2_with fail
    go_ret
    exact ⟨rfl, hB7⟩
end Go.Proofs.Ytjlmgjpnfppkoaa
