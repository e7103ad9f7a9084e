/-
  The walk of DeviceWhole: it returns true, and what was there before is as it was.
-/
import Derived.LoopTactic
import Derived.Test.YtjlmgjpnfppkoaaDBox
namespace Go.Proofs.Ytjlmgjpnfppkoaa
open Go.RowKit
attribute [local go_sem ↓] Go.wp_at_zero Go.wp_at_succ

theorem plain_live {a b N k : Int} {s : Bool} (hp : placedB a b N = true) (ha : apartB a b N = true) (h0 : 0 ≤ k) (h1 : k < N) : liveT ⟨a, b, N, k, s, false⟩ = true := by
  have h2 : (k == N) = false := by simp; omega
  have h3 : k ≤ N := by omega
  simp [liveT, validT, overT, hp, ha, h0, h3, h2]
theorem plain_over {a b N : Int} {s : Bool} : liveT ⟨a, b, N, N, s, false⟩ = false := by simp [liveT, overT]
theorem failed_over {a b N k : Int} {s : Bool} : liveT ⟨a, b, N, k, s, true⟩ = false := by simp [liveT, overT]
theorem failed_valid {a b N k : Int} (hp : placedB a b N = true) (ha : apartB a b N = true) (h0 : 0 ≤ k) (h1 : k < N) : validT ⟨a, b, N, k, true, true⟩ = true := by
  have h3 : k ≤ N := by omega
  simp [validT, hp, ha, h0, h3, h1]
theorem begin_ok {a b N : Int} (hp : placedB a b N = true) (ha : apartB a b N = true) : checkF a b N = 0 := by simp [checkF, hp, ha]
theorem valid_new {a b N : Int} {s : Bool} (hp : placedB a b N = true) (ha : apartB a b N = true) : validT ⟨a, b, N, 0, s, false⟩ = true := by
  have := (placed_bd hp).1
  simp [validT, hp, ha]
  omega

set_option maxRecDepth 100000 in
set_option maxHeartbeats 32000000 in
theorem dwhole_any (A : Option Addr) (n c : Nat) (zs : List Int) (from_ to count : Int) (strict : Bool) (w : World) (h : Has w A n 1 (zs.map (Value.int .i64))) :
    Calls Try.prog 6 #[.slice A n c, .int .i64 from_, .int .i64 to, .int .i64 count, .bool strict] w fun e w' => e = .returned (.bool true) ∧ Below w.heap.size w w' := by
  have Hh := Lib.hid h
  clear h
  by_cases hn : n ≤ 400
  · obtain ⟨C, hC⟩ : ∃ C, mod count 12 = C := ⟨_, rfl⟩
    obtain ⟨M, hM⟩ : ∃ M, mod from_ 100 = M := ⟨_, rfl⟩
    obtain ⟨T, hT⟩ : ∃ T, mod to 50 = T := ⟨_, rfl⟩
    obtain ⟨U, hU⟩ : ∃ U, mod to 2 = U := ⟨_, rfl⟩
    have rC := mod_range count 12 (by omega)
    have rM := mod_range from_ 100 (by omega)
    have rT := mod_range to 50 (by omega)
    rw [hC] at rC
    rw [hM] at rM
    rw [hT] at rT
    obtain ⟨C0, C1⟩ := rC
    obtain ⟨M0, M1⟩ := rM
    obtain ⟨T0, T1⟩ := rT
    have HC := Lib.hid hC
    have HM := Lib.hid hM
    have HTo := Lib.hid hT
    have HU := Lib.hid hU
    clear hC hM hT hU
    obtain ⟨N, hN⟩ : ∃ N : Nat, 1 + C = (N : Int) := ⟨(1 + C).toNat, by omega⟩
    obtain ⟨P, hP⟩ : ∃ P : Int, M + (N : Int) + T = P := ⟨_, rfl⟩
    have N0 : 1 ≤ N := by omega
    have N1 : N ≤ 12 := by omega
    have P0 : M + (N : Int) ≤ P := by omega
    have P1 : P ≤ 200 := by omega
    have P2 : 0 ≤ P := by omega
    go_enter Try.func6, Try.ntmps6
    go_wp2_with fail
    refine (light_yes A n c _ hn).mono ?_
    rintro e w' ⟨rfl, rfl⟩
    go_wp2_with fail
    refine (roll_any A n c zs _ Hh.out hn).mono ?_
    rintro e w1 ⟨rfl, hD1, hb1⟩
    have hs1 := hb1.size
    have HB1 := Lib.hid hb1
    have HD1 := Lib.hid hD1
    clear hb1 hD1
    go_wp2_with fail
    refine (mod_any count 12 _ (by omega)).mono ?_
    rewrite [HC.out]
    rintro e w' ⟨rfl, rfl⟩
    go_wp2_with fail
    refine (mod_any from_ 100 _ (by omega)).mono ?_
    rewrite [HM.out]
    rintro e w' ⟨rfl, rfl⟩
    go_wp2_with fail
    refine (mod_any to 50 _ (by omega)).mono ?_
    rewrite [HTo.out]
    rintro e w' ⟨rfl, rfl⟩
    go_wp2_with fail
    refine (mod_any to 2 _ (by omega)).mono ?_
    rewrite [HU.out]
    rintro e w' ⟨rfl, rfl⟩
    have HN := Lib.hid hN
    have HP := Lib.hid hP
    have hzs := HB1.out.size
    by_cases hu : U = 0
    · subst hu
      have hpl : placedB P M N = true := by unfold placedB; exact decide_eq_true (by omega)
      have hap : apartB P M N = true := by unfold apartB; exact decide_eq_true (by omega)
      have HPL := Lib.hid hpl
      have HAP := Lib.hid hap
      have hN1 : (1 : Int) ≤ (N : Int) := by omega
      go_wp2_with fail
      refine (dbegin_any P M N strict _ (by omega)).mono ?_
      have hck := begin_ok HPL.out HAP.out
      have hbg : beginT P M N strict = ⟨P, M, N, 0, strict, false⟩ := by simp [beginT, hck]
      rewrite [hck, hbg]
      clear hck hbg hpl hap
      rintro e w2 ⟨rfl, hb2⟩
      have HD2 := Lib.hid (HD1.out.below hb2)
      have HB2 := Lib.hid (HB1.out.trans (hb2.mono HB1.out.size))
      have hs2 := hb2.size
      clear hb2
      go_wp2_with fail
      refine (dvalid_any P M N 0 strict false _ (by omega)).mono ?_
      rewrite [show validT ⟨P, M, N, 0, strict, false⟩ = true from valid_new HPL.out HAP.out]
      rintro e w3 ⟨rfl, hb3⟩
      have HX3 := Lib.hid ((TrBox.new w2 P M N 0 strict false 59).below hb3 (by (first | (with_reducible exact Nat.le_refl _) | (with_reducible assumption) | omega | (simp <;> omega))))
      have HD3 := Lib.hid ((HD2.out.alloc _).below hb3)
      have HB3 := Lib.hid ((show Below w.heap.size w _ from HB2.out.alloc (by (first | (with_reducible exact Nat.le_refl _) | (with_reducible assumption) | omega | (simp <;> omega))) _).trans (hb3.mono (show w.heap.size ≤ _ by (first | (with_reducible exact Nat.le_refl _) | (with_reducible assumption) | omega | (simp <;> omega)))))
      have hs3 := hb3.size
      simp only [World.size_alloc] at hs3
      have hxg : w.heap.size < w2.heap.size := HD2.out.lt
      clear hb3
      go_wp2_with fail
      go_loopw [72] (fun i wr => ∃ k : Nat, k ≤ N ∧ i = .int .i64 k ∧ w2.heap.size < wr.heap.size ∧ Hid (TrBox wr w2.heap.size ⟨P, M, N, k, strict, false⟩) ∧ Hid (DiceOk wr w.heap.size) ∧ Hid (Below w.heap.size w wr)) (fun i _ => N - (intOf i).toNat)
      case atStart => exact ⟨0, by omega, rfl, by omega, HX3.out, HD3.out, HB3.out⟩
      case round =>
        obtain ⟨k, hk, rfl, hxl, HX, HDr, HBr⟩ := hrel
        have hsz := HBr.out.size
        by_cases hkN : k < N
        · obtain ⟨x0, x1, x2, x3, x4, x5, x6, x7, x8, x9, x10, x11⟩ := HX.out
          dsimp only at x0 x1 x2 x3 x4 x5
          have hkN' : (k : Int) < (N : Int) := by omega
          have hlive := plain_live (s := strict) HPL.out HAP.out (show (0 : Int) ≤ k by omega) hkN'
          have HLV := Lib.hid hlive
          clear hlive
          go_wp2_with fail
          refine (line_any _ 2 (P + k) _ HDr.out (by omega)).mono ?_
          rintro e w4 ⟨v4, ⟨la, bs, d, p⟩, rfl, hla, hbs, ⟨A4, c4, rfl, hown⟩, hD4, hb4⟩
          dsimp only at hla hbs hown ⊢
          subst hla
          rw [hbs] at hown
          have HBS := Lib.hid hbs
          rw [hbs]
          have HX4 := Lib.hid (HX.out.but hb4 hxl (by omega))
          have HH4 := Lib.hid (Has.of_own hown)
          have HD4 := Lib.hid hD4
          have HB4 := Lib.hid (HBr.out.trans (hb4.below hsz (Nat.le_refl _)))
          have hs4 := hb4.size
          have hsw4 := HB4.out.size
          clear hbs hown hD4 hb4 x0 x1 x2 x3 x4 x5 x6 x7 x8 x9 x10 x11
          obtain ⟨x0, x1, x2, x3, x4, x5, x6, x7, x8, x9, x10, x11⟩ := HX4.out
          dsimp only at x0 x1 x2 x3 x4 x5
          have hxl4 : w2.heap.size < w4.heap.size := by omega
          have HLB := Lib.hid (LnBox.new w4 (P + k) A4 2 c4 d p 28)
          go_wp2_with fail
          refine (dnext_any P M N k strict false _ (by omega)).mono ?_
          simp only [nextA, nextB, HLV.out, if_true]
          rintro e w5 ⟨rfl, hb5⟩
          have hs5 := hb5.size
          simp only [World.size_alloc] at hs5
          have HX5 := Lib.hid ((HX4.out.alloc hxl4 _).below hb5 (by (first | (with_reducible exact Nat.le_refl _) | (with_reducible assumption) | omega | (simp <;> omega))))
          have HL5 := Lib.hid (HLB.out.below hb5 (by (first | (with_reducible exact Nat.le_refl _) | (with_reducible assumption) | omega | (simp <;> omega))))
          have HH5 := Lib.hid ((HH4.out.alloc _).below hb5)
          have HD5 := Lib.hid ((HD4.out.alloc _).below hb5)
          have HB5 := Lib.hid ((show Below w.heap.size w _ from HB4.out.alloc (by (first | (with_reducible exact Nat.le_refl _) | (with_reducible assumption) | omega | (simp <;> omega))) _).trans (hb5.mono (show w.heap.size ≤ _ by (first | (with_reducible exact Nat.le_refl _) | (with_reducible assumption) | omega | (simp <;> omega)))))
          clear hb5 x0 x1 x2 x3 x4 x5 x6 x7 x8 x9 x10 x11
          obtain ⟨x0, x1, x2, x3, x4, x5, x6, x7, x8, x9, x10, x11⟩ := HX5.out
          dsimp only at x0 x1 x2 x3 x4 x5
          obtain ⟨l0, l1, l2, l3⟩ := HL5.out
          have hxl5 : w2.heap.size < w5.heap.size := by omega
          have hll5 : w4.heap.size < w5.heap.size := by omega
          by_cases hsp : p = true ∧ strict = true
          · obtain ⟨rfl, rfl⟩ := hsp
            have hT : stepT ⟨P, M, N, k, true, false⟩ ⟨P + k, bs, d, true⟩ = ⟨P, M, N, k, true, true⟩ := by simp [stepT, HLV.out]
            have hL : stepL ⟨P, M, N, k, true, false⟩ ⟨P + k, bs, d, true⟩ = LineD.zero := by simp [stepL, HLV.out]
            have hE : stepE ⟨P, M, N, k, true, false⟩ ⟨P + k, bs, d, true⟩ = 48 := by simp [stepE, HLV.out, live_valid HLV.out]
            have HT := Lib.hid hT
            have HLL := Lib.hid hL
            have HE := Lib.hid hE
            clear hT hL hE
            go_wp2_with fail
            refine (dstep_any P M N k true false _ ⟨P + k, bs, d, true⟩ _ (by omega) (isLine_mk _ _ _ HH5.out) (by rw [show LineD.data ⟨P + k, bs, d, true⟩ = bs from rfl, HBS.out]; omega)).mono ?_
            rewrite [HT.out, HLL.out, HE.out]
            simp only [TrV, LineD.zero]
            rintro e w6 ⟨v6, rfl, ⟨A6, c6, rfl, -⟩, hb6⟩
            simp only [List.length_nil]
            have hs6 := hb6.size
            have HL6 := Lib.hid (HL5.out.below hb6 hll5)
            have HH6 := Lib.hid (HH5.out.below hb6)
            have HB6 := Lib.hid (HB5.out.trans (hb6.mono HB5.out.size))
            clear hb6 x0 x1 x2 x3 x4 x5 x6 x7 x8 x9 x10 x11 l0 l1 l2 l3
            obtain ⟨l0, l1, l2, l3⟩ := HL6.out
            have hll6 : w4.heap.size < w6.heap.size := by omega
            have hsw6 := HB6.out.size
            have HY := Lib.hid (TrBox.new w6 P M N k true true 59)
            go_wp2_with fail
            refine (dnext_any P M N k true true _ (by omega)).mono ?_
            simp only [nextA, nextB, failed_over, if_false, Bool.false_eq_true]
            rintro e w7 ⟨rfl, hb7⟩
            have hs7 := hb7.size
            simp only [World.size_alloc] at hs7
            have HY7 := Lib.hid ((HY.out.alloc (by (first | (with_reducible exact Nat.le_refl _) | (with_reducible assumption) | omega | (simp <;> omega))) _).below hb7 (by (first | (with_reducible exact Nat.le_refl _) | (with_reducible assumption) | omega | (simp <;> omega))))
            have HL7 := Lib.hid (((HL6.out.alloc hll6 _).alloc (by (first | (with_reducible exact Nat.le_refl _) | (with_reducible assumption) | omega | (simp <;> omega))) _).below hb7 (by (first | (with_reducible exact Nat.le_refl _) | (with_reducible assumption) | omega | (simp <;> omega))))
            have HH7 := Lib.hid (((HH6.out.alloc _).alloc _).below hb7)
            have HB7 := Lib.hid ((show Below w.heap.size w _ from (HB6.out.alloc (by (first | (with_reducible exact Nat.le_refl _) | (with_reducible assumption) | omega | (simp <;> omega))) _).alloc (by (first | (with_reducible exact Nat.le_refl _) | (with_reducible assumption) | omega | (simp <;> omega))) _).trans (hb7.mono (show w.heap.size ≤ _ by (first | (with_reducible exact Nat.le_refl _) | (with_reducible assumption) | omega | (simp <;> omega)))))
            clear hb7 l0 l1 l2 l3
            obtain ⟨l0, l1, l2, l3⟩ := HL7.out
            obtain ⟨y0, y1, y2, y3, y4, y5, -⟩ := HY7.out
            dsimp only at y0 y1 y2 y3 y4 y5
            have hll7 : w4.heap.size < w7.heap.size := by omega
            have hyl7 : w6.heap.size < w7.heap.size := by omega
            have hfv := failed_valid HPL.out HAP.out (show (0 : Int) ≤ k by omega) hkN'
            have hT : stepT ⟨P, M, N, k, true, true⟩ ⟨P + k, bs, d, true⟩ = ⟨P, M, N, k, true, true⟩ := by simp [stepT, failed_over]
            have hE : stepE ⟨P, M, N, k, true, true⟩ ⟨P + k, bs, d, true⟩ = 40 := by simp [stepE, failed_over, hfv]
            have HT2 := Lib.hid hT
            have HE2 := Lib.hid hE
            clear hT hE hfv
            go_wp2_with fail
            refine (dstep_any P M N k true true _ ⟨P + k, bs, d, true⟩ _ (by omega) (isLine_mk _ _ _ HH7.out) (by rw [show LineD.data ⟨P + k, bs, d, true⟩ = bs from rfl, HBS.out]; omega)).mono ?_
            rewrite [HT2.out, HE2.out]
            simp only [TrV]
            rintro e w8 ⟨v8, rfl, ⟨A8, c8, rfl, -⟩, hb8⟩
            have hs8 := hb8.size
            have HY8 := Lib.hid (HY7.out.below hb8 hyl7)
            have HB8 := Lib.hid (HB7.out.trans (hb8.mono HB7.out.size))
            clear hb8 l0 l1 l2 l3 y0 y1 y2 y3 y4 y5
            obtain ⟨y0, y1, y2, y3, y4, y5, -⟩ := HY8.out
            dsimp only at y0 y1 y2 y3 y4 y5
            have hyl8 : w6.heap.size < w8.heap.size := by omega
            have hsw8 := HB8.out.size
            go_wp2_with fail
            refine (dawake_any _).mono ?_
            rintro e w9 ⟨rfl, hb9⟩
            have HB9 := Lib.hid ((show Below w.heap.size w _ from (HB8.out.alloc (by (first | (with_reducible exact Nat.le_refl _) | (with_reducible assumption) | omega | (simp <;> omega))) _).alloc (by (first | (with_reducible exact Nat.le_refl _) | (with_reducible assumption) | omega | (simp <;> omega))) _).trans (hb9.mono (show w.heap.size ≤ _ by (first | (with_reducible exact Nat.le_refl _) | (with_reducible assumption) | omega | (simp <;> omega)))))
            clear hb9
            go_wp2_with fail
            go_ret
            exact ⟨rfl, HB9.out⟩
          · have hnp : ¬ ((⟨P + k, bs, d, p⟩ : LineD).poison = true ∧ (⟨P, M, N, k, strict, false⟩ : TrD).strict = true) := hsp
            have hT : stepT ⟨P, M, N, k, strict, false⟩ ⟨P + k, bs, d, p⟩ = ⟨P, M, N, (k : Int) + 1, strict, false⟩ := by rw [stepT, if_pos ⟨HLV.out, rfl⟩, if_neg hnp]
            have hL : stepL ⟨P, M, N, k, strict, false⟩ ⟨P + k, bs, d, p⟩ = ⟨M + k, bs, true, p⟩ := by rw [stepL, if_pos ⟨HLV.out, rfl, hnp⟩]
            have hE : stepE ⟨P, M, N, k, strict, false⟩ ⟨P + k, bs, d, p⟩ = 0 := by rw [stepE, if_pos (live_valid HLV.out), if_pos HLV.out, if_pos rfl, if_neg hnp]
            have HT := Lib.hid hT
            have HLL := Lib.hid hL
            have HE := Lib.hid hE
            clear hT hL hE hnp
            go_wp2_with fail
            refine (dstep_any P M N k strict false _ ⟨P + k, bs, d, p⟩ _ (by omega) (isLine_mk _ _ _ HH5.out) (by rw [show LineD.data ⟨P + k, bs, d, p⟩ = bs from rfl, HBS.out]; omega)).mono ?_
            rewrite [HT.out, HLL.out, HE.out]
            simp only [TrV]
            rintro e w6 ⟨v6, rfl, ⟨A6, c6, rfl, hown6⟩, hb6⟩
            dsimp only at hown6 ⊢
            rw [HBS.out] at hown6
            rw [HBS.out]
            have hs6 := hb6.size
            have HX6 := Lib.hid (HX5.out.below hb6 hxl5)
            have HL6 := Lib.hid (HL5.out.below hb6 hll5)
            have HH6 := HH5.out.below hb6
            have HD6 := Lib.hid (HD5.out.below hb6)
            have HB6 := Lib.hid (HB5.out.trans (hb6.mono HB5.out.size))
            have hO6 := Has.of_own hown6
            have q1 := fun o o' => run_string_has (P := Try.prog) 26 9 5 Try.underlying26 (by kernel_rfl) (by kernel_rfl) ((w6.alloc o).alloc o') A4 2 c4 bs ((HH6.alloc _).alloc _)
            have q2 := fun o o' => run_string_has (P := Try.prog) 26 9 5 Try.underlying26 (by kernel_rfl) (by kernel_rfl) ((w6.alloc o).alloc o') A6 2 c6 bs ((hO6.alloc _).alloc _)
            clear hb6 HH6 hO6 hown6 x0 x1 x2 x3 x4 x5 x6 x7 x8 x9 x10 x11 l0 l1 l2 l3
            obtain ⟨x0, x1, x2, x3, x4, x5, x6, x7, x8, x9, x10, x11⟩ := HX6.out
            dsimp only at x0 x1 x2 x3 x4 x5
            obtain ⟨l0, l1, l2, l3⟩ := HL6.out
            have hxl6 : w2.heap.size < w6.heap.size := by omega
            have hll6 : w4.heap.size < w6.heap.size := by omega
            have hsw6 := HB6.out.size
            have hbb : IntKind.i64.wrap (M + k) = M + k := IntWalk.i64_in _ (by omega)
            cases strict
            · have hB6 := HB6.out
              go_wp2_with fail
              go_roundw
              case rel =>
                refine ⟨k + 1, by omega, by go_num, by simp; omega, ?_, ?_, show Below w.heap.size w _ from by (repeat' (first | (with_reducible exact Below.refl _ _) | (with_reducible assumption) | (with_reducible refine Below.alloc ?_ ?_ _) | (with_reducible refine Below.drew ?_) | (with_reducible refine below_drewN ?_ _) | (with_reducible refine Below.setCell ?_ ?_ _) | (with_reducible exact Nat.le_refl _) | omega | (simp <;> omega)))⟩
                · show TrBox _ _ _; simp [TrBox, go_sem, *]
                · have hd := HD6.out; show DiceOk _ _; (repeat' (first | (with_reducible assumption) | (with_reducible refine DiceOk.put ?_ ?_ _) | (with_reducible refine DiceOk.alloc ?_ _) | (with_reducible refine DiceOk.drew ?_) | (with_reducible refine DiceOk.drewN ?_ _) | omega | (simp <;> omega)))
              case measure => simp [intOf]; omega
            · have hB6 := HB6.out
              have hpf : p = false := by cases p <;> simp_all
              subst hpf
              go_wp2_with fail
              go_roundw
              case rel =>
                refine ⟨k + 1, by omega, by go_num, by simp; omega, ?_, ?_, show Below w.heap.size w _ from by (repeat' (first | (with_reducible exact Below.refl _ _) | (with_reducible assumption) | (with_reducible refine Below.alloc ?_ ?_ _) | (with_reducible refine Below.drew ?_) | (with_reducible refine below_drewN ?_ _) | (with_reducible refine Below.setCell ?_ ?_ _) | (with_reducible exact Nat.le_refl _) | omega | (simp <;> omega)))⟩
                · show TrBox _ _ _; simp [TrBox, go_sem, *]
                · have hd := HD6.out; show DiceOk _ _; (repeat' (first | (with_reducible assumption) | (with_reducible refine DiceOk.put ?_ ?_ _) | (with_reducible refine DiceOk.alloc ?_ _) | (with_reducible refine DiceOk.drew ?_) | (with_reducible refine DiceOk.drewN ?_ _) | omega | (simp <;> omega)))
              case measure => simp [intOf]; omega
        · have hge : N ≤ k := by omega
          have hkk : k = N := by omega
          subst hkk
          clear hkN
          obtain ⟨x0, x1, x2, x3, x4, x5, -⟩ := HX.out
          dsimp only at x0 x1 x2 x3 x4 x5
          go_wp2_with fail
          refine (dnext_any P M k k strict false _ (by omega)).mono ?_
          simp only [nextA, nextB, plain_over, if_false, Bool.false_eq_true]
          rintro e w4 ⟨rfl, hb4⟩
          have HX4 := Lib.hid (HX.out.below hb4 hxl)
          have HB4 := Lib.hid (HBr.out.trans (hb4.mono hsz))
          have hs4 := hb4.size
          clear hb4 x0 x1 x2 x3 x4 x5
          obtain ⟨x0, x1, x2, x3, x4, x5, -⟩ := HX4.out
          dsimp only at x0 x1 x2 x3 x4 x5
          have hxl4 : w2.heap.size < w4.heap.size := by omega
          go_wp2_with fail
          refine (dawake_any _).mono ?_
          rintro e w9 ⟨rfl, hb9⟩
          have HB9 := Lib.hid (HB4.out.trans (hb9.mono HB4.out.size))
          clear hb9
          go_wp2_with fail
          go_ret
          exact ⟨rfl, HB9.out⟩
    · have hu' : (U == 0) = false := by simp [hu]
      have hpl : placedB M P N = true := by unfold placedB; exact decide_eq_true (by omega)
      have hap : apartB M P N = true := by unfold apartB; exact decide_eq_true (by omega)
      have HPL := Lib.hid hpl
      have HAP := Lib.hid hap
      have hN1 : (1 : Int) ≤ (N : Int) := by omega
      go_wp2_with fail
      refine (dbegin_any M P N strict _ (by omega)).mono ?_
      have hck := begin_ok HPL.out HAP.out
      have hbg : beginT M P N strict = ⟨M, P, N, 0, strict, false⟩ := by simp [beginT, hck]
      rewrite [hck, hbg]
      clear hck hbg hpl hap
      rintro e w2 ⟨rfl, hb2⟩
      have HD2 := Lib.hid (HD1.out.below hb2)
      have HB2 := Lib.hid (HB1.out.trans (hb2.mono HB1.out.size))
      have hs2 := hb2.size
      clear hb2
      go_wp2_with fail
      refine (dvalid_any M P N 0 strict false _ (by omega)).mono ?_
      rewrite [show validT ⟨M, P, N, 0, strict, false⟩ = true from valid_new HPL.out HAP.out]
      rintro e w3 ⟨rfl, hb3⟩
      have HX3 := Lib.hid ((TrBox.new w2 M P N 0 strict false 59).below hb3 (by (first | (with_reducible exact Nat.le_refl _) | (with_reducible assumption) | omega | (simp <;> omega))))
      have HD3 := Lib.hid ((HD2.out.alloc _).below hb3)
      have HB3 := Lib.hid ((show Below w.heap.size w _ from HB2.out.alloc (by (first | (with_reducible exact Nat.le_refl _) | (with_reducible assumption) | omega | (simp <;> omega))) _).trans (hb3.mono (show w.heap.size ≤ _ by (first | (with_reducible exact Nat.le_refl _) | (with_reducible assumption) | omega | (simp <;> omega)))))
      have hs3 := hb3.size
      simp only [World.size_alloc] at hs3
      have hxg : w.heap.size < w2.heap.size := HD2.out.lt
      clear hb3
      go_wp2_with fail
      go_loopw [72] (fun i wr => ∃ k : Nat, k ≤ N ∧ i = .int .i64 k ∧ w2.heap.size < wr.heap.size ∧ Hid (TrBox wr w2.heap.size ⟨M, P, N, k, strict, false⟩) ∧ Hid (DiceOk wr w.heap.size) ∧ Hid (Below w.heap.size w wr)) (fun i _ => N - (intOf i).toNat)
      case atStart => exact ⟨0, by omega, rfl, by omega, HX3.out, HD3.out, HB3.out⟩
      case round =>
        obtain ⟨k, hk, rfl, hxl, HX, HDr, HBr⟩ := hrel
        have hsz := HBr.out.size
        by_cases hkN : k < N
        · obtain ⟨x0, x1, x2, x3, x4, x5, x6, x7, x8, x9, x10, x11⟩ := HX.out
          dsimp only at x0 x1 x2 x3 x4 x5
          have hkN' : (k : Int) < (N : Int) := by omega
          have hlive := plain_live (s := strict) HPL.out HAP.out (show (0 : Int) ≤ k by omega) hkN'
          have HLV := Lib.hid hlive
          clear hlive
          go_wp2_with fail
          refine (line_any _ 2 (M + k) _ HDr.out (by omega)).mono ?_
          rintro e w4 ⟨v4, ⟨la, bs, d, p⟩, rfl, hla, hbs, ⟨A4, c4, rfl, hown⟩, hD4, hb4⟩
          dsimp only at hla hbs hown ⊢
          subst hla
          rw [hbs] at hown
          have HBS := Lib.hid hbs
          rw [hbs]
          have HX4 := Lib.hid (HX.out.but hb4 hxl (by omega))
          have HH4 := Lib.hid (Has.of_own hown)
          have HD4 := Lib.hid hD4
          have HB4 := Lib.hid (HBr.out.trans (hb4.below hsz (Nat.le_refl _)))
          have hs4 := hb4.size
          have hsw4 := HB4.out.size
          clear hbs hown hD4 hb4 x0 x1 x2 x3 x4 x5 x6 x7 x8 x9 x10 x11
          obtain ⟨x0, x1, x2, x3, x4, x5, x6, x7, x8, x9, x10, x11⟩ := HX4.out
          dsimp only at x0 x1 x2 x3 x4 x5
          have hxl4 : w2.heap.size < w4.heap.size := by omega
          have HLB := Lib.hid (LnBox.new w4 (M + k) A4 2 c4 d p 28)
          go_wp2_with fail
          refine (dnext_any M P N k strict false _ (by omega)).mono ?_
          simp only [nextA, nextB, HLV.out, if_true]
          rintro e w5 ⟨rfl, hb5⟩
          have hs5 := hb5.size
          simp only [World.size_alloc] at hs5
          have HX5 := Lib.hid ((HX4.out.alloc hxl4 _).below hb5 (by (first | (with_reducible exact Nat.le_refl _) | (with_reducible assumption) | omega | (simp <;> omega))))
          have HL5 := Lib.hid (HLB.out.below hb5 (by (first | (with_reducible exact Nat.le_refl _) | (with_reducible assumption) | omega | (simp <;> omega))))
          have HH5 := Lib.hid ((HH4.out.alloc _).below hb5)
          have HD5 := Lib.hid ((HD4.out.alloc _).below hb5)
          have HB5 := Lib.hid ((show Below w.heap.size w _ from HB4.out.alloc (by (first | (with_reducible exact Nat.le_refl _) | (with_reducible assumption) | omega | (simp <;> omega))) _).trans (hb5.mono (show w.heap.size ≤ _ by (first | (with_reducible exact Nat.le_refl _) | (with_reducible assumption) | omega | (simp <;> omega)))))
          clear hb5 x0 x1 x2 x3 x4 x5 x6 x7 x8 x9 x10 x11
          obtain ⟨x0, x1, x2, x3, x4, x5, x6, x7, x8, x9, x10, x11⟩ := HX5.out
          dsimp only at x0 x1 x2 x3 x4 x5
          obtain ⟨l0, l1, l2, l3⟩ := HL5.out
          have hxl5 : w2.heap.size < w5.heap.size := by omega
          have hll5 : w4.heap.size < w5.heap.size := by omega
          by_cases hsp : p = true ∧ strict = true
          · obtain ⟨rfl, rfl⟩ := hsp
            have hT : stepT ⟨M, P, N, k, true, false⟩ ⟨M + k, bs, d, true⟩ = ⟨M, P, N, k, true, true⟩ := by simp [stepT, HLV.out]
            have hL : stepL ⟨M, P, N, k, true, false⟩ ⟨M + k, bs, d, true⟩ = LineD.zero := by simp [stepL, HLV.out]
            have hE : stepE ⟨M, P, N, k, true, false⟩ ⟨M + k, bs, d, true⟩ = 48 := by simp [stepE, HLV.out, live_valid HLV.out]
            have HT := Lib.hid hT
            have HLL := Lib.hid hL
            have HE := Lib.hid hE
            clear hT hL hE
            go_wp2_with fail
            refine (dstep_any M P N k true false _ ⟨M + k, bs, d, true⟩ _ (by omega) (isLine_mk _ _ _ HH5.out) (by rw [show LineD.data ⟨M + k, bs, d, true⟩ = bs from rfl, HBS.out]; omega)).mono ?_
            rewrite [HT.out, HLL.out, HE.out]
            simp only [TrV, LineD.zero]
            rintro e w6 ⟨v6, rfl, ⟨A6, c6, rfl, -⟩, hb6⟩
            simp only [List.length_nil]
            have hs6 := hb6.size
            have HL6 := Lib.hid (HL5.out.below hb6 hll5)
            have HH6 := Lib.hid (HH5.out.below hb6)
            have HB6 := Lib.hid (HB5.out.trans (hb6.mono HB5.out.size))
            clear hb6 x0 x1 x2 x3 x4 x5 x6 x7 x8 x9 x10 x11 l0 l1 l2 l3
            obtain ⟨l0, l1, l2, l3⟩ := HL6.out
            have hll6 : w4.heap.size < w6.heap.size := by omega
            have hsw6 := HB6.out.size
            have HY := Lib.hid (TrBox.new w6 M P N k true true 59)
            go_wp2_with fail
            refine (dnext_any M P N k true true _ (by omega)).mono ?_
            simp only [nextA, nextB, failed_over, if_false, Bool.false_eq_true]
            rintro e w7 ⟨rfl, hb7⟩
            have hs7 := hb7.size
            simp only [World.size_alloc] at hs7
            have HY7 := Lib.hid ((HY.out.alloc (by (first | (with_reducible exact Nat.le_refl _) | (with_reducible assumption) | omega | (simp <;> omega))) _).below hb7 (by (first | (with_reducible exact Nat.le_refl _) | (with_reducible assumption) | omega | (simp <;> omega))))
            have HL7 := Lib.hid (((HL6.out.alloc hll6 _).alloc (by (first | (with_reducible exact Nat.le_refl _) | (with_reducible assumption) | omega | (simp <;> omega))) _).below hb7 (by (first | (with_reducible exact Nat.le_refl _) | (with_reducible assumption) | omega | (simp <;> omega))))
            have HH7 := Lib.hid (((HH6.out.alloc _).alloc _).below hb7)
            have HB7 := Lib.hid ((show Below w.heap.size w _ from (HB6.out.alloc (by (first | (with_reducible exact Nat.le_refl _) | (with_reducible assumption) | omega | (simp <;> omega))) _).alloc (by (first | (with_reducible exact Nat.le_refl _) | (with_reducible assumption) | omega | (simp <;> omega))) _).trans (hb7.mono (show w.heap.size ≤ _ by (first | (with_reducible exact Nat.le_refl _) | (with_reducible assumption) | omega | (simp <;> omega)))))
            clear hb7 l0 l1 l2 l3
            obtain ⟨l0, l1, l2, l3⟩ := HL7.out
            obtain ⟨y0, y1, y2, y3, y4, y5, -⟩ := HY7.out
            dsimp only at y0 y1 y2 y3 y4 y5
            have hll7 : w4.heap.size < w7.heap.size := by omega
            have hyl7 : w6.heap.size < w7.heap.size := by omega
            have hfv := failed_valid HPL.out HAP.out (show (0 : Int) ≤ k by omega) hkN'
            have hT : stepT ⟨M, P, N, k, true, true⟩ ⟨M + k, bs, d, true⟩ = ⟨M, P, N, k, true, true⟩ := by simp [stepT, failed_over]
            have hE : stepE ⟨M, P, N, k, true, true⟩ ⟨M + k, bs, d, true⟩ = 40 := by simp [stepE, failed_over, hfv]
            have HT2 := Lib.hid hT
            have HE2 := Lib.hid hE
            clear hT hE hfv
            go_wp2_with fail
            refine (dstep_any M P N k true true _ ⟨M + k, bs, d, true⟩ _ (by omega) (isLine_mk _ _ _ HH7.out) (by rw [show LineD.data ⟨M + k, bs, d, true⟩ = bs from rfl, HBS.out]; omega)).mono ?_
            rewrite [HT2.out, HE2.out]
            simp only [TrV]
            rintro e w8 ⟨v8, rfl, ⟨A8, c8, rfl, -⟩, hb8⟩
            have hs8 := hb8.size
            have HY8 := Lib.hid (HY7.out.below hb8 hyl7)
            have HB8 := Lib.hid (HB7.out.trans (hb8.mono HB7.out.size))
            clear hb8 l0 l1 l2 l3 y0 y1 y2 y3 y4 y5
            obtain ⟨y0, y1, y2, y3, y4, y5, -⟩ := HY8.out
            dsimp only at y0 y1 y2 y3 y4 y5
            have hyl8 : w6.heap.size < w8.heap.size := by omega
            have hsw8 := HB8.out.size
            go_wp2_with fail
            refine (dawake_any _).mono ?_
            rintro e w9 ⟨rfl, hb9⟩
            have HB9 := Lib.hid ((show Below w.heap.size w _ from (HB8.out.alloc (by (first | (with_reducible exact Nat.le_refl _) | (with_reducible assumption) | omega | (simp <;> omega))) _).alloc (by (first | (with_reducible exact Nat.le_refl _) | (with_reducible assumption) | omega | (simp <;> omega))) _).trans (hb9.mono (show w.heap.size ≤ _ by (first | (with_reducible exact Nat.le_refl _) | (with_reducible assumption) | omega | (simp <;> omega)))))
            clear hb9
            go_wp2_with fail
            go_ret
            exact ⟨rfl, HB9.out⟩
          · have hnp : ¬ ((⟨M + k, bs, d, p⟩ : LineD).poison = true ∧ (⟨M, P, N, k, strict, false⟩ : TrD).strict = true) := hsp
            have hT : stepT ⟨M, P, N, k, strict, false⟩ ⟨M + k, bs, d, p⟩ = ⟨M, P, N, (k : Int) + 1, strict, false⟩ := by rw [stepT, if_pos ⟨HLV.out, rfl⟩, if_neg hnp]
            have hL : stepL ⟨M, P, N, k, strict, false⟩ ⟨M + k, bs, d, p⟩ = ⟨P + k, bs, true, p⟩ := by rw [stepL, if_pos ⟨HLV.out, rfl, hnp⟩]
            have hE : stepE ⟨M, P, N, k, strict, false⟩ ⟨M + k, bs, d, p⟩ = 0 := by rw [stepE, if_pos (live_valid HLV.out), if_pos HLV.out, if_pos rfl, if_neg hnp]
            have HT := Lib.hid hT
            have HLL := Lib.hid hL
            have HE := Lib.hid hE
            clear hT hL hE hnp
            go_wp2_with fail
            refine (dstep_any M P N k strict false _ ⟨M + k, bs, d, p⟩ _ (by omega) (isLine_mk _ _ _ HH5.out) (by rw [show LineD.data ⟨M + k, bs, d, p⟩ = bs from rfl, HBS.out]; omega)).mono ?_
            rewrite [HT.out, HLL.out, HE.out]
            simp only [TrV]
            rintro e w6 ⟨v6, rfl, ⟨A6, c6, rfl, hown6⟩, hb6⟩
            dsimp only at hown6 ⊢
            rw [HBS.out] at hown6
            rw [HBS.out]
            have hs6 := hb6.size
            have HX6 := Lib.hid (HX5.out.below hb6 hxl5)
            have HL6 := Lib.hid (HL5.out.below hb6 hll5)
            have HH6 := HH5.out.below hb6
            have HD6 := Lib.hid (HD5.out.below hb6)
            have HB6 := Lib.hid (HB5.out.trans (hb6.mono HB5.out.size))
            have hO6 := Has.of_own hown6
            have q1 := fun o o' => run_string_has (P := Try.prog) 26 9 5 Try.underlying26 (by kernel_rfl) (by kernel_rfl) ((w6.alloc o).alloc o') A4 2 c4 bs ((HH6.alloc _).alloc _)
            have q2 := fun o o' => run_string_has (P := Try.prog) 26 9 5 Try.underlying26 (by kernel_rfl) (by kernel_rfl) ((w6.alloc o).alloc o') A6 2 c6 bs ((hO6.alloc _).alloc _)
            clear hb6 HH6 hO6 hown6 x0 x1 x2 x3 x4 x5 x6 x7 x8 x9 x10 x11 l0 l1 l2 l3
            obtain ⟨x0, x1, x2, x3, x4, x5, x6, x7, x8, x9, x10, x11⟩ := HX6.out
            dsimp only at x0 x1 x2 x3 x4 x5
            obtain ⟨l0, l1, l2, l3⟩ := HL6.out
            have hxl6 : w2.heap.size < w6.heap.size := by omega
            have hll6 : w4.heap.size < w6.heap.size := by omega
            have hsw6 := HB6.out.size
            have hbb : IntKind.i64.wrap (P + k) = P + k := IntWalk.i64_in _ (by omega)
            cases strict
            · have hB6 := HB6.out
              go_wp2_with fail
              go_roundw
              case rel =>
                refine ⟨k + 1, by omega, by go_num, by simp; omega, ?_, ?_, show Below w.heap.size w _ from by (repeat' (first | (with_reducible exact Below.refl _ _) | (with_reducible assumption) | (with_reducible refine Below.alloc ?_ ?_ _) | (with_reducible refine Below.drew ?_) | (with_reducible refine below_drewN ?_ _) | (with_reducible refine Below.setCell ?_ ?_ _) | (with_reducible exact Nat.le_refl _) | omega | (simp <;> omega)))⟩
                · show TrBox _ _ _; simp [TrBox, go_sem, *]
                · have hd := HD6.out; show DiceOk _ _; (repeat' (first | (with_reducible assumption) | (with_reducible refine DiceOk.put ?_ ?_ _) | (with_reducible refine DiceOk.alloc ?_ _) | (with_reducible refine DiceOk.drew ?_) | (with_reducible refine DiceOk.drewN ?_ _) | omega | (simp <;> omega)))
              case measure => simp [intOf]; omega
            · have hB6 := HB6.out
              have hpf : p = false := by cases p <;> simp_all
              subst hpf
              go_wp2_with fail
              go_roundw
              case rel =>
                refine ⟨k + 1, by omega, by go_num, by simp; omega, ?_, ?_, show Below w.heap.size w _ from by (repeat' (first | (with_reducible exact Below.refl _ _) | (with_reducible assumption) | (with_reducible refine Below.alloc ?_ ?_ _) | (with_reducible refine Below.drew ?_) | (with_reducible refine below_drewN ?_ _) | (with_reducible refine Below.setCell ?_ ?_ _) | (with_reducible exact Nat.le_refl _) | omega | (simp <;> omega)))⟩
                · show TrBox _ _ _; simp [TrBox, go_sem, *]
                · have hd := HD6.out; show DiceOk _ _; (repeat' (first | (with_reducible assumption) | (with_reducible refine DiceOk.put ?_ ?_ _) | (with_reducible refine DiceOk.alloc ?_ _) | (with_reducible refine DiceOk.drew ?_) | (with_reducible refine DiceOk.drewN ?_ _) | omega | (simp <;> omega)))
              case measure => simp [intOf]; omega
        · have hge : N ≤ k := by omega
          have hkk : k = N := by omega
          subst hkk
          clear hkN
          obtain ⟨x0, x1, x2, x3, x4, x5, -⟩ := HX.out
          dsimp only at x0 x1 x2 x3 x4 x5
          go_wp2_with fail
          refine (dnext_any M P k k strict false _ (by omega)).mono ?_
          simp only [nextA, nextB, plain_over, if_false, Bool.false_eq_true]
          rintro e w4 ⟨rfl, hb4⟩
          have HX4 := Lib.hid (HX.out.below hb4 hxl)
          have HB4 := Lib.hid (HBr.out.trans (hb4.mono hsz))
          have hs4 := hb4.size
          clear hb4 x0 x1 x2 x3 x4 x5
          obtain ⟨x0, x1, x2, x3, x4, x5, -⟩ := HX4.out
          dsimp only at x0 x1 x2 x3 x4 x5
          have hxl4 : w2.heap.size < w4.heap.size := by omega
          go_wp2_with fail
          refine (dawake_any _).mono ?_
          rintro e w9 ⟨rfl, hb9⟩
          have HB9 := Lib.hid (HB4.out.trans (hb9.mono HB4.out.size))
          clear hb9
          go_wp2_with fail
          go_ret
          exact ⟨rfl, HB9.out⟩
  · go_enter Try.func6, Try.ntmps6
    go_wp2_with fail
    refine (light_no A n c _ hn).mono ?_
    rintro e w' ⟨rfl, rfl⟩
    go_wp2_with fail
    refine (dawake_any _).mono ?_
    rintro e w7 ⟨rfl, hb7⟩
    go_wp2_with fail
    go_ret
    exact ⟨rfl, hb7⟩
end Go.Proofs.Ytjlmgjpnfppkoaa
