/-
  The walk of MigrateBack: it returns true, and what was there before is as it was.
-/
import Derived.LoopTactic
import Derived.Deep.CutBlock
import Derived.Deep.DeepCutAuto
import Derived.IntWalk
import Derived.Test.YtjlmgjpnfppkoaaFollow
import Derived.Test.YtjlmgjpnfppkoaaHeld
import Derived.Test.YtjlmgjpnfppkoaaMAwake
import Derived.Test.YtjlmgjpnfppkoaaMWords
import Derived.Test.YtjlmgjpnfppkoaaMRef
import Derived.Test.YtjlmgjpnfppkoaaPgSame
namespace Go.Proofs.Ytjlmgjpnfppkoaa
open Go.RowKit
attribute [local go_sem ↓] Go.wp_at_zero Go.wp_at_succ

theorem there_ok {fs : List FrD} {ps : List PrD} {K T : Nat} (hl : fs.length ≤ 64) (hK : K < fs.length) (hT : T < fs.length) (h1 : 1 ≤ (fs.getD K FrD.zero).st) (h3 : (fs.getD K FrD.zero).st ≤ 3) (h0 : (fs.getD T FrD.zero).st = 0) (hu : usersN ps T = 0) :
    followE fs ps K T = 0 ∧ followF fs ps K T = shiftL fs K T ∧ followP fs ps K T = ps.map (repD K T) := by
  have hE : replE ps K T = 0 := replE_ok ⟨by omega, by omega⟩ ⟨by omega, by omega⟩ hu
  have hF : followE fs ps K T = 0 := by
    rw [followE, if_pos ⟨by omega, by omega, by omega, by omega⟩, if_pos ⟨by simpa [stAt] using h1, by simpa [stAt] using h3, by simpa [stAt] using h0⟩, hE]
  exact ⟨hF, by rw [followF, if_pos hF]; rfl, by rw [followP, if_pos hF, replL_ok hE]⟩
theorem back_ok {N : Int} {fs : List FrD} {ps : List PrD} {K T : Nat} (hv : validF fs = true) (hl : fs.length ≤ 64) (hK : K < fs.length) (hT : T < fs.length) (h1 : 1 ≤ (fs.getD K FrD.zero).st) (h3 : (fs.getD K FrD.zero).st ≤ 3) (h0 : (fs.getD T FrD.zero).st = 0) (hu : usersN ps T = 0) (hN : N = fs.length) (hI : Inv N ps) :
    validF (shiftL fs K T) = true ∧ Inv N (ps.map (repD K T)) ∧ followE (shiftL fs K T) (ps.map (repD K T)) T K = 0 ∧ followF (shiftL fs K T) (ps.map (repD K T)) T K = fs ∧ followP (shiftL fs K T) (ps.map (repD K T)) T K = ps ∧ usersN (ps.map (repD K T)) T = usersN ps K ∧ usersN (ps.map (repD K T)) K = 0 := by
  have hKT : K ≠ T := fun e => by subst e; omega
  have hg := users_gone (ps := ps) (a := (K : Int)) (b := (T : Int)) (by omega)
  obtain ⟨e1, e2, e3⟩ := there_ok (fs := shiftL fs K T) (ps := ps.map (repD K T)) (K := T) (T := K) (by rw [shift_len]; exact hl) (by rw [shift_len]; exact hT) (by rw [shift_len]; exact hK) (by rw [shift_at_b hT hKT]; exact h1) (by rw [shift_at_b hT hKT]; exact h3) (by rw [shift_at_a hK]) hg
  exact ⟨shift_valid hv hK, hI.rep hu (by omega) (by omega), e1, by rw [e2]; exact shift_back hK hT hKT (free_zero hv hT h0), by rw [e3]; exact rep_back hu, users_rep hu, hg⟩

theorem words_ord {f : Int} {ys : List LineV} (h : WordsOf f ys) (f0 : 0 ≤ f) (f1 : f < 64) : ordB ys = true := by
  obtain ⟨h4, ha, -⟩ := h
  have h0 : (ys.getD 0 LineV.zero).L.addr = 4 * f := by simpa using ha 0 (by omega)
  simp only [ordB, h0, h4, Bool.and_eq_true, List.all_eq_true, List.mem_range, beq_iff_eq, decide_eq_true_eq]
  refine ⟨fun j hj => ?_, ?_, by omega, by omega⟩
  · rw [ha j hj, IntWalk.i64_in _ (by omega)]
  · exact Int.mul_tmod_right _ _
theorem words_reb {f tz : Int} {ys : List LineV} (h : WordsOf f ys) (f0 : 0 ≤ f) (f1 : f < 64) (t0 : 0 ≤ tz) (t1 : tz < 64) : rebE ys tz = 0 := by
  rw [rebE, if_pos h.1, if_pos (words_ord h f0 f1), if_pos (by simp [okTo]; omega)]
theorem reb_words {f tz : Int} {ys zs : List LineV} (h : WordsOf f ys) (f0 : 0 ≤ f) (f1 : f < 64) (t0 : 0 ≤ tz) (t1 : tz < 64) (hz : zs.map LineV.L = rebL ys tz) :
    WordsOf tz zs ∧ ∀ k : Nat, k < 4 → (zs.getD k LineV.zero).L = ⟨4 * tz + k, (ys.getD k LineV.zero).L.data, true, (ys.getD k LineV.zero).L.poison⟩ := by
  rw [rebL, if_pos (words_reb h f0 f1 t0 t1)] at hz
  have hl : zs.length = 4 := by have := congrArg List.length hz; simp at this; rw [this, h.1]
  have hk : ∀ k : Nat, k < 4 → (zs.getD k LineV.zero).L = ⟨4 * tz + k, (ys.getD k LineV.zero).L.data, true, (ys.getD k LineV.zero).L.poison⟩ := by
    intro k hk
    have hkz : k < zs.length := by omega
    have hky : k < ys.length := by rw [h.1]; exact hk
    have := congrArg (fun l => l[k]?) hz
    simp only [List.getElem?_map, List.getElem?_mapIdx, List.getElem?_eq_getElem hkz, List.getElem?_eq_getElem hky, Option.map_some, Option.some.injEq] at this
    simpa [List.getD, List.getElem?_eq_getElem hkz, List.getElem?_eq_getElem hky] using this
  refine ⟨⟨hl, fun k h4 => by rw [hk k h4], fun z hz' => ?_⟩, hk⟩
  obtain ⟨k, hk', rfl⟩ := List.getElem_of_mem hz'
  have h4 : k < 4 := by omega
  have := hk k h4
  have e : zs.getD k LineV.zero = zs[k] := by simp [List.getD, List.getElem?_eq_getElem hk']
  rw [e] at this
  rw [this]
  refine h.2.2 _ ?_
  have hky : k < ys.length := by rw [h.1]; exact h4
  simp only [List.getD, List.getElem?_eq_getElem hky]
  exact List.getElem_mem hky
theorem lost_same {xs ys : List LineV} : ∀ {m : Nat}, (∀ k, k < m → (xs.getD k LineV.zero).L.poison = (ys.getD k LineV.zero).L.poison) → lostL xs m = lostL ys m
  | 0, _ => rfl
  | m + 1, h => by
    simp only [lostL]
    rw [h m (by omega), lost_same fun k hk => h k (by omega)]

set_option maxRecDepth 100000 in
set_option maxHeartbeats 16000000 in
theorem mback_any (A : Option Addr) (n c : Nat) (zs : List Int) (b : Int) (w : World) (h : Has w A n 1 (zs.map (Value.int .i64))) :
    Calls Try.prog 4 #[.slice A n c, .int .i64 b] w fun e w' => e = .returned (.bool true) ∧ Below w.heap.size w w' := by
  have Hh := Lib.hid h
  clear h
  by_cases hn : n ≤ 400
  · go_enter Try.func4, Try.ntmps4
    go_wp2_with fail
    refine (light_yes A n c _ hn).mono ?_
    rintro e w' ⟨rfl, rfl⟩
    go_wp2_with fail
    refine (roll_any A n c zs _ Hh.out hn).mono ?_
    rintro e w1 ⟨rfl, hD1, hb1⟩
    have hs1 := hb1.size
    have HB1 := Lib.hid hb1
    have HD1 := Lib.hid hD1
    clear hb1 hD1
    go_wp2_with fail
    refine (held_any _ _ HD1.out).mono ?_
    rintro e w2 ⟨v1, v2, fs, xs, rfl, ⟨A2, c2, hv1, hown⟩, hval, hlen, hO, hI, hH, hD2, hb2⟩
    subst hv1
    obtain ⟨N, hN⟩ : ∃ N, fs.length = N := ⟨_, rfl⟩
    obtain ⟨m, hm⟩ : ∃ m, xs.length = m := ⟨_, rfl⟩
    obtain ⟨A3, c3, hv2⟩ := hO.1
    rw [hm] at hv2
    subst hv2
    have hN1 := (validF_get hval).2.1
    rw [hN] at hown hlen hI hN1
    rw [hN]
    obtain ⟨g2, rfl, hg1, hg2⟩ := own_some hown (by omega)
    have HB2 := Lib.hid (HB1.out.trans (hb2.below hs1 (Nat.le_refl _)))
    have hs2 := HB2.out.size
    have HF := Lib.hid (Has.of_own hown)
    have HP := Lib.hid (hO.is hm)
    have HN := Lib.hid hN
    have HV := Lib.hid hval
    have HI := Lib.hid hI
    have HH := Lib.hid hH
    have HD2 := Lib.hid hD2
    have HS := Lib.hid (inv_small hI)
    have hst : ∀ k : Nat, k < N → 0 ≤ (fs.getD k FrD.zero).st ∧ (fs.getD k FrD.zero).st ≤ 5 := fun k hk => AllFit.at_ (validF_get hval).1 (by rw [hN]; exact hk)
    have Hst := Lib.hid hst
    clear hown hval hO hI hH hD2 hb2 hN hm hst
    go_wp2_with fail
    refine (mod_any b (N : Int) _ (by omega)).mono ?_
    obtain ⟨f0, f1⟩ := mod_range b (N : Int) (by omega)
    obtain ⟨F, hF⟩ : ∃ F : Nat, mod b (N : Int) = F := ⟨(mod b (N : Int)).toNat, by omega⟩
    rw [hF] at f0 f1
    rewrite [hF]
    clear hF
    rintro e w' ⟨rfl, rfl⟩
    go_wp2_with fail
    refine (rfree_any _ N c2 fs _ HF.out (by omega)).mono ?_
    rintro e w3 ⟨rfl, hb3⟩
    have HB3 := Lib.hid (HB2.out.trans (hb3.mono hs2))
    have hs3 := HB3.out.size
    have HF3 := Lib.hid (HF.out.below hb3)
    have HP3 := Lib.hid (HP.out.below hb3)
    have HD3 := Lib.hid (HD2.out.below hb3)
    have hFN : F < N := by omega
    obtain ⟨tz, hto⟩ : ∃ t, freeF fs = t := ⟨_, rfl⟩
    rewrite [hto]
    have Hto := Lib.hid hto
    clear hb3 HF HP HD2 HB1 HB2 HD1 hto hg1 hg2
    go_upto_region 6 with fail
    go_cut [56] (fun s56 wx => ∃ B : Bool, s56 = .bool B ∧ Hid (B = true → ∃ T : Nat, tz = T ∧ T < N ∧ (fs.getD T FrD.zero).st = 0 ∧ 1 ≤ (fs.getD F FrD.zero).st ∧ (fs.getD F FrD.zero).st ≤ 3) ∧ Hid (Below w3.heap.size w3 wx))
    case first =>
      obtain ⟨sF0, sF5⟩ := Hst.out F hFN
      obtain ⟨q1, q2, q3, hq, k0, -⟩ := HF3.out.frame_at hFN
      injection q3 with q3
      injection q3 with q31 q32
      subst q31 q32
      simp only [Nat.zero_add] at k0
      rcases idxF_range (fun f => f.st == 0) fs with hi | ⟨T, hi, hT, hT0, -⟩
      · have hto2 : tz = -1 := Hto.out.symm.trans hi
        subst hto2
        go_wp2_with fail
        go_meet
        exact ⟨false, rfl, fun h => (by cases h), Below.refl _ _⟩
      · have hto2 : tz = T := Hto.out.symm.trans hi
        subst hto2
        rw [HN.out] at hT
        have hst0 : (fs.getD T FrD.zero).st = 0 := by simpa using hT0
        have Hst0 := Lib.hid hst0
        clear hi hT0 hst0
        obtain ⟨S, hS⟩ : ∃ S, (fs.getD F FrD.zero).st = S := ⟨_, rfl⟩
        rw [hS] at sF0 sF5 k0
        have HS1 := Lib.hid hS
        clear hS
        have hs4 : S < 1 ∨ (1 ≤ S ∧ S ≤ 3) ∨ S = 4 ∨ S = 5 := by omega
        rcases hs4 with h1 | ⟨h1, h3⟩ | rfl | rfl
        · go_wp2_with fail
          refine (rocc_any S _).mono ?_
          rewrite [show occB S = false from by simp [occB]; omega]
          rintro e w4 ⟨rfl, rfl⟩
          go_wp2_with fail
          go_meet
          exact ⟨false, rfl, fun h => (by cases h), Below.refl _ _⟩
        · have h41 : (S != 4) = true := by simp; omega
          go_wp2_with fail
          refine (rocc_any S _).mono ?_
          rewrite [show occB S = true from by simp [occB]; omega]
          rintro e w4 ⟨rfl, rfl⟩
          go_wp2_with fail
          go_meet
          exact ⟨true, rfl, fun _ => ⟨T, rfl, hT, Hst0.out, by rw [HS1.out]; exact h1, by rw [HS1.out]; exact h3⟩, Below.refl _ _⟩
        · go_wp2_with fail
          refine (rocc_any 4 _).mono ?_
          rewrite [show occB 4 = true from by simp [occB]]
          rintro e w4 ⟨rfl, rfl⟩
          go_wp2_with fail
          go_meet
          exact ⟨false, rfl, fun h => (by cases h), Below.refl _ _⟩
        · go_wp2_with fail
          refine (rocc_any 5 _).mono ?_
          rewrite [show occB 5 = false from by simp [occB]]
          rintro e w4 ⟨rfl, rfl⟩
          go_wp2_with fail
          go_meet
          exact ⟨false, rfl, fun h => (by cases h), Below.refl _ _⟩
    case rest =>
      obtain ⟨B, rfl, HBt, HBx⟩ := hcut
      have hsx := HBx.out.size
      have HF4 := Lib.hid (HF3.out.below HBx.out)
      have HP4 := Lib.hid (HP3.out.below HBx.out)
      have HD4 := Lib.hid (HD3.out.below HBx.out)
      have HB4 := Lib.hid (HB3.out.trans (HBx.out.mono hs3))
      have hs4 := HB4.out.size
      obtain ⟨w4, rfl⟩ : ∃ w4 : World, w4 = wc := ⟨_, rfl⟩
      clear HF3 HP3 HD3 HB3 HBx
      go_upto_if 56 with fail
      go_cut [56] (fun _ wx => Hid (Below w4.heap.size w4 wx))
      case first =>
        cases B
        · go_wp2_with fail
          go_meet
          exact Below.refl _ _
        · obtain ⟨T, hT, hTN, hT0, h1, h3⟩ := HBt.out rfl
          subst hT
          have hu : usersN (xs.map PrV.P) (T : Int) = 0 := by
            rcases Nat.eq_zero_or_pos (usersN (xs.map PrV.P) (T : Int)) with hz | hz
            · exact hz
            · rcases HH.out T (by rw [HN.out]; exact hTN) (by omega) with hx | hx <;> omega
          obtain ⟨p1, p2, p3⟩ := there_ok (fs := fs) (ps := xs.map PrV.P) (K := F) (T := T) (by rw [HN.out]; omega) (by rw [HN.out]; exact hFN) (by rw [HN.out]; exact hTN) h1 h3 hT0 hu
          obtain ⟨r1, r2, r3, r4, r5, r6, r7⟩ := back_ok (N := (N : Int)) HV.out (by rw [HN.out]; omega) (by rw [HN.out]; exact hFN) (by rw [HN.out]; exact hTN) h1 h3 hT0 hu (by rw [HN.out]) HI.out
          have hsl : (shiftL fs F T).length = N := by rw [shift_len]; exact HN.out
          have Hsl := Lib.hid hsl
          have P1 := Lib.hid p1
          have P2 := Lib.hid p2
          have P3 := Lib.hid p3
          have R1 := Lib.hid r1
          have R2 := Lib.hid r2
          have R3 := Lib.hid r3
          have R4 := Lib.hid r4
          have R5 := Lib.hid r5
          have R6 := Lib.hid r6
          have R7 := Lib.hid r7
          clear hu p1 p2 p3 r1 r2 r3 r4 r5 r6 r7 hT0 h1 h3 hsl
          go_wp2_with fail
          refine (follow_any _ N c2 fs A3 m c3 xs (F : Int) (T : Int) _ HF4.out HP4.out HV.out HI.out).mono ?_
          rintro e w5 ⟨v5, u5, ys, rfl, ⟨A5, c5, hv5, hown5⟩, hm5, hO5, hb5⟩
          rewrite [P1.out]
          rw [P2.out, Hsl.out] at hv5 hown5
          rw [P3.out] at hm5
          subst hv5
          obtain ⟨m5, hm5l⟩ : ∃ k, ys.length = k := ⟨_, rfl⟩
          obtain ⟨A6, c6, hv6⟩ := hO5.1
          rw [hm5l] at hv6
          subst hv6
          have HF5 := Lib.hid (Has.of_own hown5)
          have HP5 := Lib.hid (hO5.is hm5l)
          have HM5 := Lib.hid hm5
          have HI5 : Hid (Inv (N : Int) (ys.map PrV.P)) := by
            show Inv _ _
            rw [hm5]; exact R2.out
          have HB5 := Lib.hid hb5
          have hs5 := hb5.size
          have HS5 := Lib.hid (inv_small HI5.out)
          clear hown5 hm5 hO5 hb5 hm5l
          go_wp2_with fail
          refine (follow_any _ N c5 (shiftL fs F T) A6 m5 c6 ys (T : Int) (F : Int) _ HF5.out HP5.out R1.out HI5.out).mono ?_
          rintro e w6 ⟨v7, u7, zs7, rfl, ⟨A7, c7, hv7, hown7⟩, hm7, hO7, hb7⟩
          rw [HM5.out, R4.out, HN.out] at hv7 hown7
          rw [HM5.out, R5.out] at hm7
          rewrite [HM5.out, R3.out]
          subst hv7
          obtain ⟨m7, hm7l⟩ : ∃ k, zs7.length = k := ⟨_, rfl⟩
          obtain ⟨A8, c8, hv8⟩ := hO7.1
          rw [hm7l] at hv8
          subst hv8
          have HF7 := Lib.hid (Has.of_own hown7)
          have HP7 := Lib.hid (hO7.is hm7l)
          have HM7 := Lib.hid hm7
          have HB7 := Lib.hid (HB5.out.trans (hb7.mono hs5))
          have hs7 := HB7.out.size
          have HF47 := Lib.hid (HF4.out.below HB7.out)
          have HP47 := Lib.hid (HP4.out.below HB7.out)
          have HP57 := Lib.hid (HP5.out.below hb7)
          have HS7 : Hid (Small zs7) := by
            show Small _
            refine inv_small (N := (N : Int)) ?_
            rw [hm7]; exact HI.out
          clear hown7 hm7 hO7 hb7 hm7l
          go_wp2_with fail
          refine (frsame_any _ _ N c7 N c2 fs _ HF7.out HF47.out (by omega)).mono ?_
          rintro e w8 ⟨rfl, hb8⟩
          have HB8 := Lib.hid (HB7.out.trans (hb8.mono hs7))
          have HP8 := Lib.hid (HP7.out.below hb8)
          have HP48 := Lib.hid (HP47.out.below hb8)
          have HP58 := Lib.hid (HP57.out.below hb8)
          clear hb8
          go_wp2_with fail
          refine (psame_any A8 A3 m7 c8 m c3 zs7 xs _ HP8.out HP48.out HM7.out HS7.out).mono ?_
          rintro e w9 ⟨rfl, hb9⟩
          have HB9 := Lib.hid (HB8.out.trans (hb9.mono HB8.out.size))
          have HP49 := Lib.hid (HP48.out.below hb9)
          have HP59 := Lib.hid (HP58.out.below hb9)
          clear hb9
          obtain ⟨U, hU⟩ : ∃ U, usersN (xs.map PrV.P) (F : Int) = U := ⟨_, rfl⟩
          have HU := Lib.hid hU
          clear hU
          go_wp2_with fail
          refine (rusers_any A6 m5 c6 (T : Int) ys _ HP59.out HS5.out).mono ?_
          rewrite [HM5.out, R6.out, HU.out]
          rintro e wa ⟨Aa, ca, rfl, hba⟩
          have HBa := Lib.hid (HB9.out.trans (hba.mono HB9.out.size))
          have HP4a := Lib.hid (HP49.out.below hba)
          have HP5a := Lib.hid (HP59.out.below hba)
          clear hba
          go_wp2_with fail
          refine (rusers_any A3 m c3 (F : Int) xs _ HP4a.out HS.out).mono ?_
          rewrite [HU.out]
          rintro e wb ⟨Ab, cb, rfl, hbb⟩
          have HBb := Lib.hid (HBa.out.trans (hbb.mono HBa.out.size))
          have HP5b := Lib.hid (HP5a.out.below hbb)
          clear hbb
          go_wp2_with fail
          refine (rusers_any A6 m5 c6 (F : Int) ys _ HP5b.out HS5.out).mono ?_
          rewrite [HM5.out, R7.out]
          rintro e wd ⟨Ac, cc, rfl, hbc⟩
          have HBc := Lib.hid (HBb.out.trans (hbc.mono HBb.out.size))
          clear hbc
          go_wp2_with fail
          go_meet
          exact HBc.out
      case rest =>
        have HBy := hcut
        have hsy := HBy.out.size
        have HD5 := Lib.hid (HD4.out.below HBy.out)
        have HB5 := Lib.hid (HB4.out.trans (HBy.out.mono hs4))
        have hs5 := HB5.out.size
        obtain ⟨w5, rfl⟩ : ∃ w5 : World, w5 = wc := ⟨_, rfl⟩
        clear hcut HBy HD4 HB4 HF4 HP4 HBt HH HI HV HN HS Hst
        go_wp2_with fail
        refine (words_any w.heap.size 3 _ HD5.out (by omega)).mono ?_
        rintro e w6 ⟨v, ys, rfl, hO6, hW, -, hb6⟩
        have HB6 := Lib.hid (HB5.out.trans (hb6.below hs5 (Nat.le_refl _)))
        have hs6 := HB6.out.size
        obtain ⟨A6, c6, hv6⟩ := hO6.1
        rw [hW.1] at hv6
        subst hv6
        have HL6 := Lib.hid (hO6.is hW.1)
        have HW := Lib.hid hW
        clear hO6 hW hb6
        have H0 : ∀ k : Nat, k < 4 → (ys.getD k LineV.zero).L.addr = 12 + k := fun k hk => by rw [HW.out.2.1 k hk]; omega
        have HH0 := Lib.hid H0
        clear H0
        go_wp2_with fail
        refine (rebase_any A6 4 c6 5 ys _ HL6.out (by rw [HH0.out 0 (by omega)]; omega) (fun x hx => by rw [HW.out.2.2 x hx]; omega)).mono ?_
        rewrite [words_reb HW.out (by omega) (by omega) (by omega) (by omega)]
        rintro e w7 ⟨v7, xs7, rfl, hm7, hO7, hb7⟩
        obtain ⟨hW7, hL7⟩ := reb_words HW.out (by omega) (by omega) (by omega) (by omega) hm7
        have HB7 := Lib.hid (HB6.out.trans (hb7.mono hs6))
        have hs7 := HB7.out.size
        obtain ⟨A7, c7, hv7⟩ := hO7.1
        rw [hW7.1] at hv7
        subst hv7
        have HL7 := Lib.hid (hO7.is hW7.1)
        have HW7 := Lib.hid hW7
        have HX7 := Lib.hid hL7
        have HL67 := Lib.hid (HL6.out.below hb7)
        clear hm7 hO7 hb7 hW7 hL7
        go_wp2_with fail
        refine (rebase_any A7 4 c7 3 xs7 _ HL7.out (by rw [HX7.out 0 (by omega)]; show (4 * 5 + ((0 : Nat) : Int)) ≤ _; omega) (fun x hx => by rw [HW7.out.2.2 x hx]; omega)).mono ?_
        rewrite [words_reb HW7.out (by omega) (by omega) (by omega) (by omega)]
        rintro e w8 ⟨v8, xs8, rfl, hm8, hO8, hb8⟩
        obtain ⟨hW8, hL8⟩ := reb_words HW7.out (by omega) (by omega) (by omega) (by omega) hm8
        have HB8 := Lib.hid (HB7.out.trans (hb8.mono hs7))
        have hs8 := HB8.out.size
        obtain ⟨A8, c8, hv8⟩ := hO8.1
        rw [hW8.1] at hv8
        subst hv8
        have HL8 := Lib.hid (hO8.is hW8.1)
        have HX8 := Lib.hid hL8
        have HL68 := Lib.hid (HL67.out.below hb8)
        have HL78 := Lib.hid (HL7.out.below hb8)
        clear hm8 hO8 hb8 hW8 hL8
        go_wp2_with fail
        refine (lost_any A7 4 c7 xs7 _ HL78.out (by omega)).mono ?_
        rintro e w9 ⟨v9, rfl, hown9, hb9⟩
        obtain ⟨A9, c9, hv9, -⟩ := own_form hown9
        subst hv9
        have HB9 := Lib.hid (HB8.out.trans (hb9.mono hs8))
        have hs9 := HB9.out.size
        have HZ9 := Lib.hid (Has.of_own hown9)
        have HL69 := Lib.hid (HL68.out.below hb9)
        have HL79 := Lib.hid (HL78.out.below hb9)
        have HL89 := Lib.hid (HL8.out.below hb9)
        clear hown9 hb9
        go_wp2_with fail
        refine (lost_any A6 4 c6 ys _ HL69.out (by omega)).mono ?_
        rintro e wa ⟨va, rfl, howna, hba⟩
        obtain ⟨Aa, ca, hva, -⟩ := own_form howna
        subst hva
        have HBa := Lib.hid (HB9.out.trans (hba.mono hs9))
        have hsa := HBa.out.size
        have HZa := Lib.hid (Has.of_own howna)
        have HZ9a := Lib.hid (HZ9.out.below hba)
        have HL6a := Lib.hid (HL69.out.below hba)
        have HL7a := Lib.hid (HL79.out.below hba)
        have HL8a := Lib.hid (HL89.out.below hba)
        have hls : lostL xs7 4 = lostL ys 4 := lost_same fun k hk => by rw [HX7.out k hk]
        have hlen4 := lostL_len ys 4
        have Hls := Lib.hid hls
        clear howna hba hls
        go_wp2_with fail
        refine (ints_any A9 Aa _ c9 _ ca (lostL ys 4) _ (by have := HZ9a.out; rw [Hls.out] at this ⊢; exact this) HZa.out (by rw [Hls.out]; omega)).mono ?_
        rintro e wb ⟨rfl, hbb⟩
        have HBb := Lib.hid (HBa.out.trans (hbb.mono hsa))
        have hsb := HBb.out.size
        have HL6b := Lib.hid (HL6a.out.below hbb)
        have HL7b := Lib.hid (HL7a.out.below hbb)
        have HL8b := Lib.hid (HL8a.out.below hbb)
        clear hbb HL6 HL67 HL68 HL69 HL6a HL7 HL78 HL79 HL7a HL8 HL89 HL8a HZ9 HZa HZ9a
        go_wp2_with fail
        go_loopw [153] (fun i wr => ∃ k : Nat, k ≤ 4 ∧ i = .int .i64 k ∧ Hid (Below wb.heap.size wb wr)) (fun i _ => 4 - (intOf i).toNat)
        case atStart => exact ⟨0, by omega, rfl, Below.refl _ _⟩
        case round =>
          obtain ⟨k, hk, rfl, HBr⟩ := hrel
          have hsr := HBr.out.size
          by_cases hk4 : k < 4
          · have hk4' : (k : Int) < 4 := by omega
            have hk0 : (0 : Int) ≤ (k : Int) := by omega
            obtain ⟨b6, o6, rfl, hb6, p0, p1, p2, p3, pD⟩ := HL6b.out.at_ hk4
            obtain ⟨b7, o7, rfl, hb7, q0, q1, q2, q3, qD⟩ := HL7b.out.at_ hk4
            obtain ⟨b8, o8, rfl, hb8, r0, r1, r2, r3, rD⟩ := HL8b.out.at_ hk4
            rw [HX8.out k hk4, HX7.out k hk4] at r0 r1 r2 r3 rD
            rw [HX7.out k hk4] at q0 q1 q2 q3 qD
            rw [HH0.out k hk4] at p0
            dsimp only at q0 q1 q2 q3 qD r0 r1 r2 r3 rD
            rw [show (4 * 3 + (k : Int)) = 12 + k from by omega] at r0
            rw [show (4 * 5 + (k : Int)) = 20 + k from by omega] at q0
            obtain ⟨y, hy⟩ : ∃ y, (ys.getD k LineV.zero).L = y := ⟨_, rfl⟩
            obtain ⟨YA, hYA⟩ : ∃ z, (ys.getD k LineV.zero).A = z := ⟨_, rfl⟩
            obtain ⟨Yc, hYc⟩ : ∃ z, (ys.getD k LineV.zero).c = z := ⟨_, rfl⟩
            obtain ⟨XA, hXA⟩ : ∃ z, (xs7.getD k LineV.zero).A = z := ⟨_, rfl⟩
            obtain ⟨Xc, hXc⟩ : ∃ z, (xs7.getD k LineV.zero).c = z := ⟨_, rfl⟩
            obtain ⟨ZA, hZA⟩ : ∃ z, (xs8.getD k LineV.zero).A = z := ⟨_, rfl⟩
            obtain ⟨Zc, hZc⟩ : ∃ z, (xs8.getD k LineV.zero).c = z := ⟨_, rfl⟩
            rw [hy] at p1 p2 p3 pD q1 q3 qD r1 r3 rD
            rw [hYA] at p1 pD
            rw [hYc] at p1
            rw [hXA] at q1 qD
            rw [hXc] at q1
            rw [hZA] at r1 rD
            rw [hZc] at r1
            obtain ⟨ad, D, di, po⟩ := y
            dsimp only at p1 p2 p3 pD q1 q3 qD r1 r3 rD
            have x0 := cellK HBr.out hb6 p0
            have x1 := cellK HBr.out hb6 p1
            have x3 := cellK HBr.out hb6 p3
            have y0 := cellK HBr.out hb7 q0
            have y2 := cellK HBr.out hb7 q2
            have z0 := cellK HBr.out hb8 r0
            have z1 := cellK HBr.out hb8 r1
            have z3 := cellK HBr.out hb8 r3
            have c6 := fun j => run_string_has (P := Try.prog) 26 9 5 Try.underlying26 (by kernel_rfl) (by kernel_rfl) (wr.drewN j) YA D.length Yc D ((pD.below HBr.out).drewN j)
            have c8 := fun j => run_string_has (P := Try.prog) 26 9 5 Try.underlying26 (by kernel_rfl) (by kernel_rfl) (wr.drewN j) ZA D.length Zc D ((rD.below HBr.out).drewN j)
            have hw := IntWalk.i64_in (20 + (k : Int)) (by omega)
            clear p0 p1 p2 p3 pD q0 q1 q2 q3 qD r0 r1 r2 r3 rD hy hYA hYc hXA hXc hZA hZc
            go_wp2_with fail
            go_big_quiet ((go_at_call 29; exact Calls.quiet_of_same ((first_any 5 _ (by omega)).mono fun e w' h => ⟨h.1, h.2.symm⟩)))
            go_wp2_with fail
            go_roundw
            case rel => exact ⟨k + 1, by omega, by go_num, below_drewN HBr.out _⟩
            case measure => simp [intOf]; omega
          · have hk44 : k = 4 := by omega
            subst hk44
            go_wp2_with fail
            refine (mawake_any _).mono ?_
            rintro e wz ⟨rfl, hbz⟩
            go_wp2_with fail
            go_ret
            exact ⟨rfl, HBb.out.trans ((HBr.out.mono hsb).trans (hbz.mono (Nat.le_trans hsb hsr)))⟩
  · go_enter Try.func4, Try.ntmps4
    go_wp2_with fail
    refine (light_no A n c _ hn).mono ?_
    rintro e w' ⟨rfl, rfl⟩
    go_wp2_with fail
    refine (mawake_any _).mono ?_
    rintro e w7 ⟨rfl, hb7⟩
    go_wp2_with fail
    go_ret
    exact ⟨rfl, hb7⟩
end Go.Proofs.Ytjlmgjpnfppkoaa
