/-
  The walk of FrameRuns: it returns true, and what was there before is as it was.
-/
import Derived.LoopTactic
import Derived.Test.YtjlmgjpnfppkoaaFStates
import Derived.Test.YtjlmgjpnfppkoaaFFull
import Derived.Test.YtjlmgjpnfppkoaaFrRef
namespace Go.Proofs.Ytjlmgjpnfppkoaa
open Go.RowKit
attribute [local go_sem ↓] Go.wp_at_zero Go.wp_at_succ

theorem cnt_sum {fs : List FrD} (h : AllFit fs) : cntF fs 0 + cntF fs 1 + cntF fs 2 + cntF fs 3 + cntF fs 4 + cntF fs 5 = fs.length := by
  induction fs with
  | nil => rfl
  | cons f r ih =>
    have ih := ih (fun x hx => h x (List.mem_cons_of_mem _ hx))
    have hf := fit_range (h f (List.mem_cons_self ..))
    have hc : f.st = 0 ∨ f.st = 1 ∨ f.st = 2 ∨ f.st = 3 ∨ f.st = 4 ∨ f.st = 5 := by omega
    rcases hc with h | h | h | h | h | h <;> simp [cntF, h] at ih ⊢ <;> omega
def part6 (a b c d e f : Nat) : Nat → Nat
  | 0 => 0
  | 1 => a
  | 2 => a + b
  | 3 => a + b + c
  | 4 => a + b + c + d
  | 5 => a + b + c + d + e
  | _ => a + b + c + d + e + f
theorem set_back {fs : List FrD} {q : Nat} {x : FrD} (hq : q < fs.length) (h : fs.getD q FrD.zero = ⟨0, 0⟩) : (fs.set q x).set q ⟨0, 0⟩ = fs := by
  rw [List.set_set]
  rw [List.getD, List.getElem?_eq_getElem hq] at h
  simp at h
  rw [← h, List.set_getElem_self]
theorem zero_fit {f : FrD} (h : fitB f.st f.bl = true) (h0 : f.st = 0) : f = ⟨0, 0⟩ := by
  obtain ⟨s, b⟩ := f
  simp only at h0
  subst h0
  simp [fitB] at h
  rw [h]


set_option maxRecDepth 100000 in
set_option maxHeartbeats 32000000 in
theorem fruns_any (A : Option Addr) (n c : Nat) (zs : List Int) (w : World) (h : Has w A n 1 (zs.map (Value.int .i64))) :
    Calls Try.prog 14 #[.slice A n c] w fun e w' => e = .returned (.bool true) ∧ Below w.heap.size w w' := by
  have Hh := Lib.hid h
  clear h
  by_cases hn : n ≤ 400
  · go_enter Try.func14, Try.ntmps14
    go_wp2_with fail
    refine (light_yes A n c _ hn).mono ?_
    rintro e w' ⟨rfl, rfl⟩
    go_wp2_with fail
    refine (roll_any A n c zs _ Hh.out hn).mono ?_
    rintro e wd ⟨rfl, hD1, hb1⟩
    have hs1 := hb1.size
    have hgl := hD1.lt
    have HB1 := Lib.hid hb1
    have HD1 := Lib.hid hD1
    clear hb1 hD1
    go_wp2_with fail
    refine (frames_any _ _ HD1.out).mono ?_
    rintro e we ⟨v, fs0, rfl, hO, hval, hlen, hD2, hb2⟩
    have HB2 := Lib.hid (HB1.out.trans (hb2.below hs1 (Nat.le_refl _)))
    have HD2 := Lib.hid hD2
    have Hval := Lib.hid hval
    have HO2 := Lib.hid (show OwnFrs we (w.heap.size + 1) v fs0 from by
      obtain ⟨A2, c2, hv, hown⟩ := hO
      exact ⟨A2, c2, hv, ownsRow_base hown (by omega)⟩)
    clear hb2 hO hval hD2
    go_wp2_with fail
    go_loopw [4, 5] (fun l i wr => ∃ (k : Nat) (fs : List FrD), i = .int .i64 k ∧ k ≤ 30 ∧ fs.length ≤ 10 ∧ Hid (OwnFrs wr (w.heap.size + 1) l fs) ∧ Hid (validF fs = true) ∧ Hid (DiceOk wr w.heap.size) ∧ Hid (Below w.heap.size w wr)) (fun _ i _ => 30 - (intOf i).toNat)
    case atStart => exact ⟨0, fs0, rfl, by omega, hlen, HO2.out, Hval.out, HD2.out, HB2.out⟩
    case round =>
      obtain ⟨k, fs, rfl, hk, hfl, HOw, Hv, HDr, HBr⟩ := hrel
      by_cases hk30 : k < 30
      · obtain ⟨A4, c4, hu, hown⟩ := HOw.out
        subst hu
        obtain ⟨M, hM⟩ : ∃ M, fs.length = M := ⟨_, rfl⟩
        have hM1 := (validF_get Hv.out).2.1
        rw [hM] at hown hfl hM1
        have HM := Lib.hid hM
        obtain ⟨b4, o4, e4, -, -⟩ := (Has.of_own hown).open_ (by omega)
        subst e4
        have HO0 := Lib.hid hown
        rw [hM]
        clear hown hM
        have hsz := HBr.out.size
        have hk30' : (k : Int) < 30 := by omega
        go_wp2_with fail
        refine (next_any _ M _ HDr.out (by omega) (by omega)).mono ?_
        rintro e w1 ⟨z, rfl, z1, z2, hD1, hb1⟩
        obtain ⟨K, rfl⟩ : ∃ K : Nat, z = K := ⟨z.toNat, by omega⟩
        have HO1 := Lib.hid (row_but HO0.out hb1 (by omega))
        have HB1 := Lib.hid (HBr.out.trans (hb1.below hsz (Nat.le_refl _)))
        have HD1 := Lib.hid hD1
        have hs1 := HB1.out.size
        clear hb1 hD1
        go_wp2_with fail
        refine (next_any _ 4 _ HD1.out (by omega) (by omega)).mono ?_
        rintro e w2 ⟨y, rfl, y1, y2, hD2, hb2⟩
        have HO2 := Lib.hid (row_but HO1.out hb2 (by omega))
        have HB2 := Lib.hid (HB1.out.trans (hb2.below hs1 (Nat.le_refl _)))
        have HD2 := Lib.hid hD2
        have HL2 := Lib.hid (Has.of_own HO2.out)
        have hs2 := HB2.out.size
        clear hb2 hD2
        have hKM : K < M := by omega
        have hyc : y = 0 ∨ y = 1 ∨ y = 2 ∨ y = 3 := by omega
        rcases hyc with rfl | rfl | rfl | rfl
        · rcases idxF_range (fun f => f.st == 0) fs with hi | ⟨q, hi, hq, hq0, -⟩
          · have hi' : freeF fs = -1 := hi
            have hE : takeE fs 2 0 = 16 := by simp [takeE, Hv.out, hi', occB, fitB]
            have hI : takeI fs 2 0 = -1 := by simp [takeI, hE]
            have HE := Lib.hid hE
            have HI := Lib.hid hI
            clear hi hi' hE hI
            go_wp2_with fail
            refine (take_any _ M c4 2 0 fs _ HL2.out).mono ?_
            rewrite [HE.out, HI.out]
            rintro e w3 ⟨v3, rfl, -, hb3⟩
            have HL3 := Lib.hid (HL2.out.below hb3)
            have HO3 := Lib.hid (ownsRow_below HO2.out hb3)
            have HD3 := Lib.hid (HD2.out.below hb3)
            have HB3 := Lib.hid (HB2.out.trans (hb3.mono HB2.out.size))
            clear hb3
            go_wp2_with fail
            go_roundw
            case rel => exact ⟨k + 1, fs, by go_num, by omega, by rw [HM.out]; omega, ⟨_, c4, by rw [HM.out], by rw [HM.out]; exact HO3.out⟩, Hv.out, HD3.out, HB3.out⟩
            case measure => simp [intOf]; omega
          · have hi' : freeF fs = q := hi
            have hE : takeE fs 2 0 = 0 := by simp [takeE, Hv.out, hi', occB, fitB]
            have hI : takeI fs 2 0 = q := by simp [takeI, hE, hi']
            have hL : takeL fs 2 0 = fs.set q ⟨2, 0⟩ := by simp [takeL, hE, hi']
            have hqM : q < M := by rw [← HM.out]; exact hq
            have hst : (fs.getD q FrD.zero).st = 0 := by simpa using hq0
            have hz : fs.getD q FrD.zero = ⟨0, 0⟩ := by
              refine zero_fit ?_ hst
              have := (validF_get Hv.out).1 _ (List.getElem_mem hq)
              simpa [List.getD, List.getElem?_eq_getElem hq] using this
            have hv2 : validF (fs.set q ⟨2, 0⟩) = true := validF_set Hv.out q (by decide)
            have hr : rangeB (fs.set q ⟨2, 0⟩) (q : Int) = true := range_nat (by rw [List.length_set]; exact hq)
            have hsa : stAt (fs.set q ⟨2, 0⟩) (q : Int) = 2 := by simp only [stAt, Int.toNat_natCast, getD_set_same hq]
            have hE2 : giveE (fs.set q ⟨2, 0⟩) (q : Int) = 0 := by simp only [giveE, hv2, hr, hsa, if_true]; rfl
            have hL2 : giveL (fs.set q ⟨2, 0⟩) (q : Int) = fs := by simp only [giveL, hE2, if_true, Int.toNat_natCast]; exact set_back hq hz
            have HE := Lib.hid hE
            have HI := Lib.hid hI
            have HL := Lib.hid hL
            have HE2 := Lib.hid hE2
            have HLL2 := Lib.hid hL2
            have hst5 : (fs.getD q FrD.zero).st ≠ 5 := by rw [hst]; decide
            have Hst := Lib.hid hst5
            clear hi hi' hE hI hL hE2 hL2 hv2 hr hsa hz hst hq0 hst5
            go_wp2_with fail
            refine (take_any _ M c4 2 0 fs _ HL2.out).mono ?_
            rewrite [HE.out, HI.out, HL.out]
            rintro e w3 ⟨v3, rfl, ⟨A3, cx, hv3, hown3⟩, hb3⟩
            rw [List.length_set, HM.out] at hv3 hown3
            subst hv3
            obtain ⟨bx, ox, ex, -, -⟩ := (Has.of_own hown3).open_ (by omega)
            subst ex
            have HL3 := Lib.hid (HL2.out.below hb3)
            have HO3 := Lib.hid (ownsRow_below HO2.out hb3)
            have HD3 := Lib.hid (HD2.out.below hb3)
            have HB3 := Lib.hid (HB2.out.trans (hb3.mono HB2.out.size))
            have HX3 := Lib.hid (ownsRow_base hown3 (show w.heap.size + 1 ≤ _ by have := HD2.out.lt; omega))
            clear hb3 hown3
            go_wp2_with fail
            refine (give_any _ M cx q (fs.set q ⟨2, 0⟩) _ (Has.of_own HX3.out)).mono ?_
            rewrite [HE2.out, HLL2.out]
            rintro e w4 ⟨v4, rfl, ⟨Ay, cy, hv4, hown4⟩, hb4⟩
            rw [HM.out] at hv4 hown4
            subst hv4
            have HL4 := Lib.hid (HL3.out.below hb4)
            have HO4 := Lib.hid (ownsRow_below HO3.out hb4)
            have HD4 := Lib.hid (HD3.out.below hb4)
            have HB4 := Lib.hid (HB3.out.trans (hb4.mono HB3.out.size))
            have HX4 := Lib.hid (ownsRow_below HX3.out hb4)
            have HY4 := Lib.hid (Has.of_own hown4)
            clear hb4 hown4
            go_wp2_with fail
            refine (frsame_any Ay _ M cy M c4 fs _ HY4.out HL4.out (by omega)).mono ?_
            rintro e w5 ⟨rfl, hb5⟩
            have HL5 := Lib.hid (HL4.out.below hb5)
            have HO5 := Lib.hid (ownsRow_below HO4.out hb5)
            have HD5 := Lib.hid (HD4.out.below hb5)
            have HB5 := Lib.hid (HB4.out.trans (hb5.mono HB4.out.size))
            have HX := Lib.hid (ownsRow_below HX4.out hb5)
            clear hb5
            have HLt := HL5
            have HDt := HD5
            have HBt := HB5
            obtain ⟨s, hs⟩ : ∃ s : Int, 2 = s := ⟨_, rfl⟩
            obtain ⟨b, hb⟩ : ∃ b : Int, 0 = b := ⟨_, rfl⟩
            have hfit : fitB s b = true := by subst hs hb; decide
            have Hfit := Lib.hid hfit
            rw [hs, hb] at HX
            clear hs hb hfit
            have hQM := hqM
            go_wp2_with fail
            refine (fvalid_any _ M cx (fs.set q ⟨s, b⟩) _ (Has.of_own HX.out)).mono ?_
            rewrite [show validF (fs.set q ⟨s, b⟩) = true from validF_set Hv.out q Hfit.out]
            rintro e wa ⟨rfl, hba⟩
            have HXa := Lib.hid (ownsRow_below HX.out hba)
            have HLa := Lib.hid (HLt.out.below hba)
            have HDa := Lib.hid (HDt.out.below hba)
            have HBa := Lib.hid (HBt.out.trans (hba.mono HBt.out.size))
            have hsa := HBa.out.size
            clear hba
            go_wp2_with fail
            go_loopw [99] (fun i wi => ∃ j : Nat, j ≤ M ∧ i = .int .i64 j ∧ Below wa.heap.size wa wi) (fun i _ => M - (intOf i).toNat)
            case atStart => exact ⟨0, by omega, rfl, Below.refl _ _⟩
            case round =>
              obtain ⟨j, hj, rfl, hBi⟩ := hrel
              have hsi := hBi.size
              by_cases hjM : j < M
              · obtain ⟨b1, o1, e1, hb1, x0, x1⟩ := HLa.out.frame_at hjM
                obtain ⟨b2, o2, e2, hb2, y0, y1⟩ := (Has.of_own HXa.out).frame_at hjM
                injection e1 with e1
                injection e1 with e1 e1'
                subst e1 e1'
                injection e2 with e2
                injection e2 with e2 e2'
                subst e2 e2'
                have p0 := cellK hBi hb1 x0
                have p1 := cellK hBi hb1 x1
                have q0 := cellK hBi hb2 y0
                have q1 := cellK hBi hb2 y1
                clear x0 x1 y0 y1
                have hl1 : b4 < wr.heap.size := by omega
                have hl2 : bx < wr.heap.size := by omega
                have hjM' : (j : Int) < (M : Int) := by omega
                have hj0 : (0 : Int) ≤ (j : Int) := by omega
                by_cases hjQ : j = q
                · subst hjQ
                  have hS5 := Hst.out
                  obtain ⟨⟨S, T⟩, hf⟩ : ∃ f, fs.getD j FrD.zero = f := ⟨_, rfl⟩
                  rw [getD_set_same (by rw [HM.out]; exact hjM)] at q0 q1
                  rw [hf] at p0 p1 hS5
                  dsimp only at p0 p1 q0 q1 hS5
                  have hS5' : (S == 5) = false := by simp [hS5]
                  clear hf
                  go_wp2_with fail
                  go_quiet (fail)
                  go_wp2_with fail
                  go_roundw
                  case rel => exact ⟨j + 1, by omega, by go_num, by (repeat' (first | (with_reducible exact Below.refl _ _) | (with_reducible assumption) | (with_reducible refine Below.alloc ?_ ?_ _) | (with_reducible refine Below.drew ?_) | (with_reducible refine below_drewN ?_ _) | (with_reducible refine Below.setCell ?_ ?_ _) | (with_reducible exact Nat.le_refl _) | omega | (simp <;> omega)))⟩
                  case measure => simp [intOf]; omega
                · have hne : ((j : Int) != (q : Int)) = true := by simp; omega
                  rw [getD_set_other (fun e => hjQ e.symm)] at q0 q1
                  obtain ⟨⟨S, T⟩, hf⟩ : ∃ f, fs.getD j FrD.zero = f := ⟨_, rfl⟩
                  rw [hf] at p0 p1 q0 q1
                  dsimp only at p0 p1 q0 q1
                  clear hf
                  by_cases hS5 : S = 5
                  · subst hS5
                    go_wp2_with fail
                    go_quiet (fail)
                    go_wp2_with fail
                    go_roundw
                    case rel => exact ⟨j + 1, by omega, by go_num, by (repeat' (first | (with_reducible exact Below.refl _ _) | (with_reducible assumption) | (with_reducible refine Below.alloc ?_ ?_ _) | (with_reducible refine Below.drew ?_) | (with_reducible refine below_drewN ?_ _) | (with_reducible refine Below.setCell ?_ ?_ _) | (with_reducible exact Nat.le_refl _) | omega | (simp <;> omega)))⟩
                    case measure => simp [intOf]; omega
                  · have hS5' : (S == 5) = false := by simp [hS5]
                    go_wp2_with fail
                    go_quiet (fail)
                    go_wp2_with fail
                    go_roundw
                    case rel => exact ⟨j + 1, by omega, by go_num, by (repeat' (first | (with_reducible exact Below.refl _ _) | (with_reducible assumption) | (with_reducible refine Below.alloc ?_ ?_ _) | (with_reducible refine Below.drew ?_) | (with_reducible refine below_drewN ?_ _) | (with_reducible refine Below.setCell ?_ ?_ _) | (with_reducible exact Nat.le_refl _) | omega | (simp <;> omega)))⟩
                    case measure => simp [intOf]; omega
              · have hge : M ≤ j := by omega
                have HXi := Lib.hid (ownsRow_below HXa.out hBi)
                have HDi := Lib.hid (HDa.out.below hBi)
                have HBi := Lib.hid (HBa.out.trans (hBi.mono hsa))
                clear hjM hBi
                go_wp2_with fail
                refine (count_any _ M cx (fs.set q ⟨s, b⟩) _ (Has.of_own HXi.out) (validF_get (validF_set Hv.out q Hfit.out)).1 (by omega)).mono ?_
                rintro e wb ⟨rfl, hbb⟩
                have HXb := Lib.hid (ownsRow_below HXi.out hbb)
                have HDb := Lib.hid (HDi.out.below hbb)
                have HBb := Lib.hid (HBi.out.trans (hbb.mono HBi.out.size))
                clear hbb
                have hsum := cnt_sum (validF_get (validF_set Hv.out q Hfit.out)).1
                rw [List.length_set, HM.out] at hsum
                obtain ⟨C0, hC0⟩ : ∃ C, cntF (fs.set q ⟨s, b⟩) 0 = C := ⟨_, rfl⟩
                obtain ⟨C1, hC1⟩ : ∃ C, cntF (fs.set q ⟨s, b⟩) 1 = C := ⟨_, rfl⟩
                obtain ⟨C2, hC2⟩ : ∃ C, cntF (fs.set q ⟨s, b⟩) 2 = C := ⟨_, rfl⟩
                obtain ⟨C3, hC3⟩ : ∃ C, cntF (fs.set q ⟨s, b⟩) 3 = C := ⟨_, rfl⟩
                obtain ⟨C4, hC4⟩ : ∃ C, cntF (fs.set q ⟨s, b⟩) 4 = C := ⟨_, rfl⟩
                obtain ⟨C5, hC5⟩ : ∃ C, cntF (fs.set q ⟨s, b⟩) 5 = C := ⟨_, rfl⟩
                rw [hC0, hC1, hC2, hC3, hC4, hC5] at hsum
                rw [hC0, hC1, hC2, hC3, hC4, hC5]
                have HS := Lib.hid hsum
                have hC0' : C0 ≤ 64 := by omega
                have hC1' : C1 ≤ 64 := by omega
                have hC2' : C2 ≤ 64 := by omega
                have hC3' : C3 ≤ 64 := by omega
                have hC4' : C4 ≤ 64 := by omega
                have hC5' : C5 ≤ 64 := by omega
                clear hsum hC0 hC1 hC2 hC3 hC4 hC5
                go_wp2_with fail
                go_loop [131, 14] (fun i t => ∃ q : Nat, q ≤ 6 ∧ i = .int .i64 q ∧ t = .int .i64 (part6 C0 C1 C2 C3 C4 C5 q)) (fun i _ => 6 - (intOf i).toNat)
                case atStart => exact ⟨0, by omega, rfl, rfl⟩
                case round =>
                  obtain ⟨q, hq, rfl, rfl⟩ := hrel
                  have hqc : q = 0 ∨ q = 1 ∨ q = 2 ∨ q = 3 ∨ q = 4 ∨ q = 5 ∨ q = 6 := by omega
                  rcases hqc with rfl | rfl | rfl | rfl | rfl | rfl | rfl
                  · simp only [part6]
                    have hid := idx79_0
                    go_wp2_with fail
                    go_round
                    case rel => exact ⟨1, by omega, rfl, by simp⟩
                    case measure => simp [intOf]
                  · simp only [part6]
                    have hid := idx79_1
                    go_wp2_with fail
                    go_round
                    case rel => exact ⟨2, by omega, rfl, by simp⟩
                    case measure => simp [intOf]
                  · simp only [part6]
                    have hid := idx79_2
                    go_wp2_with fail
                    go_round
                    case rel => exact ⟨3, by omega, rfl, by simp⟩
                    case measure => simp [intOf]
                  · simp only [part6]
                    have hid := idx79_3
                    go_wp2_with fail
                    go_round
                    case rel => exact ⟨4, by omega, rfl, by simp⟩
                    case measure => simp [intOf]
                  · simp only [part6]
                    have hid := idx79_4
                    go_wp2_with fail
                    go_round
                    case rel => exact ⟨5, by omega, rfl, by simp⟩
                    case measure => simp [intOf]
                  · simp only [part6]
                    have hid := idx79_5
                    go_wp2_with fail
                    go_round
                    case rel => exact ⟨6, by omega, rfl, by simp⟩
                    case measure => simp [intOf]
                  · rw [show part6 C0 C1 C2 C3 C4 C5 6 = M from HS.out]
                    go_wp2_with fail
                    go_roundw
                    case rel => exact ⟨k + 1, fs.set q ⟨s, b⟩, by go_num, by omega, by rw [List.length_set, HM.out]; omega, ownFrs_set HM.out HXb.out, validF_set Hv.out q Hfit.out, HDb.out, HBb.out⟩
                    case measure => simp [intOf]; omega
        · have hr : rangeB fs (K : Int) = true := range_nat (by rw [HM.out]; exact hKM)
          obtain ⟨S0, hS0⟩ : ∃ S, stAt fs (K : Int) = S := ⟨_, rfl⟩
          have hE : giveE fs (K : Int) = if occB S0 = true then 0 else 40 := by simp only [giveE, Hv.out, hr, hS0, if_true]
          cases ho : occB S0
          · rw [ho] at hE
            simp only [Bool.false_eq_true, if_false] at hE
            have HE := Lib.hid hE
            clear hE hr ho hS0
            go_wp2_with fail
            refine (give_any _ M c4 K fs _ HL2.out).mono ?_
            rewrite [HE.out]
            rintro e w3 ⟨v3, rfl, -, hb3⟩
            have HL3 := Lib.hid (HL2.out.below hb3)
            have HO3 := Lib.hid (ownsRow_below HO2.out hb3)
            have HD3 := Lib.hid (HD2.out.below hb3)
            have HB3 := Lib.hid (HB2.out.trans (hb3.mono HB2.out.size))
            clear hb3
            go_wp2_with fail
            go_roundw
            case rel => exact ⟨k + 1, fs, by go_num, by omega, by rw [HM.out]; omega, ⟨_, c4, by rw [HM.out], by rw [HM.out]; exact HO3.out⟩, Hv.out, HD3.out, HB3.out⟩
            case measure => simp [intOf]; omega
          · rw [ho] at hE
            simp only [if_true] at hE
            have hL : giveL fs (K : Int) = fs.set K ⟨0, 0⟩ := by simp only [giveL, hE, if_true, Int.toNat_natCast]
            have hst5 : (fs.getD K FrD.zero).st ≠ 5 := by
              intro h5
              simp only [stAt, Int.toNat_natCast] at hS0
              rw [h5] at hS0
              subst hS0
              revert ho; decide
            have Hst := Lib.hid hst5
            have HE := Lib.hid hE
            have HL := Lib.hid hL
            clear hE hL hst5 hS0 ho hr
            go_wp2_with fail
            refine (give_any _ M c4 K fs _ HL2.out).mono ?_
            rewrite [HE.out, HL.out]
            rintro e w3 ⟨v3, rfl, ⟨A3, cx, hv3, hown3⟩, hb3⟩
            rw [List.length_set, HM.out] at hv3 hown3
            subst hv3
            obtain ⟨bx, ox, ex, -, -⟩ := (Has.of_own hown3).open_ (by omega)
            subst ex
            have HL3 := Lib.hid (HL2.out.below hb3)
            have HO3 := Lib.hid (ownsRow_below HO2.out hb3)
            have HD3 := Lib.hid (HD2.out.below hb3)
            have HB3 := Lib.hid (HB2.out.trans (hb3.mono HB2.out.size))
            have HX := Lib.hid (ownsRow_base hown3 (show w.heap.size + 1 ≤ _ by have := HD2.out.lt; omega))
            clear hb3 hown3
            have HLt := HL3
            have HDt := HD3
            have HBt := HB3
            obtain ⟨s, hs⟩ : ∃ s : Int, 0 = s := ⟨_, rfl⟩
            obtain ⟨b, hb⟩ : ∃ b : Int, 0 = b := ⟨_, rfl⟩
            have hfit : fitB s b = true := by subst hs hb; decide
            have Hfit := Lib.hid hfit
            have hsb : (⟨0, 0⟩ : FrD) = ⟨s, b⟩ := by rw [← hs, ← hb]
            rw [hsb] at HX
            clear hsb
            clear hs hb hfit
            have hQM := hKM
            go_wp2_with fail
            refine (fvalid_any _ M cx (fs.set K ⟨s, b⟩) _ (Has.of_own HX.out)).mono ?_
            rewrite [show validF (fs.set K ⟨s, b⟩) = true from validF_set Hv.out K Hfit.out]
            rintro e wa ⟨rfl, hba⟩
            have HXa := Lib.hid (ownsRow_below HX.out hba)
            have HLa := Lib.hid (HLt.out.below hba)
            have HDa := Lib.hid (HDt.out.below hba)
            have HBa := Lib.hid (HBt.out.trans (hba.mono HBt.out.size))
            have hsa := HBa.out.size
            clear hba
            go_wp2_with fail
            go_loopw [99] (fun i wi => ∃ j : Nat, j ≤ M ∧ i = .int .i64 j ∧ Below wa.heap.size wa wi) (fun i _ => M - (intOf i).toNat)
            case atStart => exact ⟨0, by omega, rfl, Below.refl _ _⟩
            case round =>
              obtain ⟨j, hj, rfl, hBi⟩ := hrel
              have hsi := hBi.size
              by_cases hjM : j < M
              · obtain ⟨b1, o1, e1, hb1, x0, x1⟩ := HLa.out.frame_at hjM
                obtain ⟨b2, o2, e2, hb2, y0, y1⟩ := (Has.of_own HXa.out).frame_at hjM
                injection e1 with e1
                injection e1 with e1 e1'
                subst e1 e1'
                injection e2 with e2
                injection e2 with e2 e2'
                subst e2 e2'
                have p0 := cellK hBi hb1 x0
                have p1 := cellK hBi hb1 x1
                have q0 := cellK hBi hb2 y0
                have q1 := cellK hBi hb2 y1
                clear x0 x1 y0 y1
                have hl1 : b4 < wr.heap.size := by omega
                have hl2 : bx < wr.heap.size := by omega
                have hjM' : (j : Int) < (M : Int) := by omega
                have hj0 : (0 : Int) ≤ (j : Int) := by omega
                by_cases hjQ : j = K
                · subst hjQ
                  have hS5 := Hst.out
                  obtain ⟨⟨S, T⟩, hf⟩ : ∃ f, fs.getD j FrD.zero = f := ⟨_, rfl⟩
                  rw [getD_set_same (by rw [HM.out]; exact hjM)] at q0 q1
                  rw [hf] at p0 p1 hS5
                  dsimp only at p0 p1 q0 q1 hS5
                  have hS5' : (S == 5) = false := by simp [hS5]
                  clear hf
                  go_wp2_with fail
                  go_quiet (fail)
                  go_wp2_with fail
                  go_roundw
                  case rel => exact ⟨j + 1, by omega, by go_num, by (repeat' (first | (with_reducible exact Below.refl _ _) | (with_reducible assumption) | (with_reducible refine Below.alloc ?_ ?_ _) | (with_reducible refine Below.drew ?_) | (with_reducible refine below_drewN ?_ _) | (with_reducible refine Below.setCell ?_ ?_ _) | (with_reducible exact Nat.le_refl _) | omega | (simp <;> omega)))⟩
                  case measure => simp [intOf]; omega
                · have hne : ((j : Int) != (K : Int)) = true := by simp; omega
                  rw [getD_set_other (fun e => hjQ e.symm)] at q0 q1
                  obtain ⟨⟨S, T⟩, hf⟩ : ∃ f, fs.getD j FrD.zero = f := ⟨_, rfl⟩
                  rw [hf] at p0 p1 q0 q1
                  dsimp only at p0 p1 q0 q1
                  clear hf
                  by_cases hS5 : S = 5
                  · subst hS5
                    go_wp2_with fail
                    go_quiet (fail)
                    go_wp2_with fail
                    go_roundw
                    case rel => exact ⟨j + 1, by omega, by go_num, by (repeat' (first | (with_reducible exact Below.refl _ _) | (with_reducible assumption) | (with_reducible refine Below.alloc ?_ ?_ _) | (with_reducible refine Below.drew ?_) | (with_reducible refine below_drewN ?_ _) | (with_reducible refine Below.setCell ?_ ?_ _) | (with_reducible exact Nat.le_refl _) | omega | (simp <;> omega)))⟩
                    case measure => simp [intOf]; omega
                  · have hS5' : (S == 5) = false := by simp [hS5]
                    go_wp2_with fail
                    go_quiet (fail)
                    go_wp2_with fail
                    go_roundw
                    case rel => exact ⟨j + 1, by omega, by go_num, by (repeat' (first | (with_reducible exact Below.refl _ _) | (with_reducible assumption) | (with_reducible refine Below.alloc ?_ ?_ _) | (with_reducible refine Below.drew ?_) | (with_reducible refine below_drewN ?_ _) | (with_reducible refine Below.setCell ?_ ?_ _) | (with_reducible exact Nat.le_refl _) | omega | (simp <;> omega)))⟩
                    case measure => simp [intOf]; omega
              · have hge : M ≤ j := by omega
                have HXi := Lib.hid (ownsRow_below HXa.out hBi)
                have HDi := Lib.hid (HDa.out.below hBi)
                have HBi := Lib.hid (HBa.out.trans (hBi.mono hsa))
                clear hjM hBi
                go_wp2_with fail
                refine (count_any _ M cx (fs.set K ⟨s, b⟩) _ (Has.of_own HXi.out) (validF_get (validF_set Hv.out K Hfit.out)).1 (by omega)).mono ?_
                rintro e wb ⟨rfl, hbb⟩
                have HXb := Lib.hid (ownsRow_below HXi.out hbb)
                have HDb := Lib.hid (HDi.out.below hbb)
                have HBb := Lib.hid (HBi.out.trans (hbb.mono HBi.out.size))
                clear hbb
                have hsum := cnt_sum (validF_get (validF_set Hv.out K Hfit.out)).1
                rw [List.length_set, HM.out] at hsum
                obtain ⟨C0, hC0⟩ : ∃ C, cntF (fs.set K ⟨s, b⟩) 0 = C := ⟨_, rfl⟩
                obtain ⟨C1, hC1⟩ : ∃ C, cntF (fs.set K ⟨s, b⟩) 1 = C := ⟨_, rfl⟩
                obtain ⟨C2, hC2⟩ : ∃ C, cntF (fs.set K ⟨s, b⟩) 2 = C := ⟨_, rfl⟩
                obtain ⟨C3, hC3⟩ : ∃ C, cntF (fs.set K ⟨s, b⟩) 3 = C := ⟨_, rfl⟩
                obtain ⟨C4, hC4⟩ : ∃ C, cntF (fs.set K ⟨s, b⟩) 4 = C := ⟨_, rfl⟩
                obtain ⟨C5, hC5⟩ : ∃ C, cntF (fs.set K ⟨s, b⟩) 5 = C := ⟨_, rfl⟩
                rw [hC0, hC1, hC2, hC3, hC4, hC5] at hsum
                rw [hC0, hC1, hC2, hC3, hC4, hC5]
                have HS := Lib.hid hsum
                have hC0' : C0 ≤ 64 := by omega
                have hC1' : C1 ≤ 64 := by omega
                have hC2' : C2 ≤ 64 := by omega
                have hC3' : C3 ≤ 64 := by omega
                have hC4' : C4 ≤ 64 := by omega
                have hC5' : C5 ≤ 64 := by omega
                clear hsum hC0 hC1 hC2 hC3 hC4 hC5
                go_wp2_with fail
                go_loop [131, 14] (fun i t => ∃ q : Nat, q ≤ 6 ∧ i = .int .i64 q ∧ t = .int .i64 (part6 C0 C1 C2 C3 C4 C5 q)) (fun i _ => 6 - (intOf i).toNat)
                case atStart => exact ⟨0, by omega, rfl, rfl⟩
                case round =>
                  obtain ⟨q, hq, rfl, rfl⟩ := hrel
                  have hqc : q = 0 ∨ q = 1 ∨ q = 2 ∨ q = 3 ∨ q = 4 ∨ q = 5 ∨ q = 6 := by omega
                  rcases hqc with rfl | rfl | rfl | rfl | rfl | rfl | rfl
                  · simp only [part6]
                    have hid := idx79_0
                    go_wp2_with fail
                    go_round
                    case rel => exact ⟨1, by omega, rfl, by simp⟩
                    case measure => simp [intOf]
                  · simp only [part6]
                    have hid := idx79_1
                    go_wp2_with fail
                    go_round
                    case rel => exact ⟨2, by omega, rfl, by simp⟩
                    case measure => simp [intOf]
                  · simp only [part6]
                    have hid := idx79_2
                    go_wp2_with fail
                    go_round
                    case rel => exact ⟨3, by omega, rfl, by simp⟩
                    case measure => simp [intOf]
                  · simp only [part6]
                    have hid := idx79_3
                    go_wp2_with fail
                    go_round
                    case rel => exact ⟨4, by omega, rfl, by simp⟩
                    case measure => simp [intOf]
                  · simp only [part6]
                    have hid := idx79_4
                    go_wp2_with fail
                    go_round
                    case rel => exact ⟨5, by omega, rfl, by simp⟩
                    case measure => simp [intOf]
                  · simp only [part6]
                    have hid := idx79_5
                    go_wp2_with fail
                    go_round
                    case rel => exact ⟨6, by omega, rfl, by simp⟩
                    case measure => simp [intOf]
                  · rw [show part6 C0 C1 C2 C3 C4 C5 6 = M from HS.out]
                    go_wp2_with fail
                    go_roundw
                    case rel => exact ⟨k + 1, fs.set K ⟨s, b⟩, by go_num, by omega, by rw [List.length_set, HM.out]; omega, ownFrs_set HM.out HXb.out, validF_set Hv.out K Hfit.out, HDb.out, HBb.out⟩
                    case measure => simp [intOf]; omega
        · have hr : rangeB fs (K : Int) = true := range_nat (by rw [HM.out]; exact hKM)
          obtain ⟨S0, hS0⟩ : ∃ S, stAt fs (K : Int) = S := ⟨_, rfl⟩
          have hE : retE fs (K : Int) = if stillB S0 = true then 0 else 40 := by simp only [retE, Hv.out, hr, hS0, if_true]
          cases ho : stillB S0
          · rw [ho] at hE
            simp only [Bool.false_eq_true, if_false] at hE
            have HE := Lib.hid hE
            clear hE hr ho hS0
            go_wp2_with fail
            refine (retire_any _ M c4 K fs _ HL2.out).mono ?_
            rewrite [HE.out]
            rintro e w3 ⟨v3, rfl, -, hb3⟩
            have HL3 := Lib.hid (HL2.out.below hb3)
            have HO3 := Lib.hid (ownsRow_below HO2.out hb3)
            have HD3 := Lib.hid (HD2.out.below hb3)
            have HB3 := Lib.hid (HB2.out.trans (hb3.mono HB2.out.size))
            clear hb3
            go_wp2_with fail
            go_roundw
            case rel => exact ⟨k + 1, fs, by go_num, by omega, by rw [HM.out]; omega, ⟨_, c4, by rw [HM.out], by rw [HM.out]; exact HO3.out⟩, Hv.out, HD3.out, HB3.out⟩
            case measure => simp [intOf]; omega
          · rw [ho] at hE
            simp only [if_true] at hE
            have hL : retL fs (K : Int) = fs.set K ⟨5, 0⟩ := by simp only [retL, hE, if_true, Int.toNat_natCast]
            have hst5 : (fs.getD K FrD.zero).st ≠ 5 := by
              intro h5
              simp only [stAt, Int.toNat_natCast] at hS0
              rw [h5] at hS0
              subst hS0
              revert ho; decide
            have Hst := Lib.hid hst5
            have HE := Lib.hid hE
            have HL := Lib.hid hL
            clear hE hL hst5 hS0 ho hr
            go_wp2_with fail
            refine (retire_any _ M c4 K fs _ HL2.out).mono ?_
            rewrite [HE.out, HL.out]
            rintro e w3 ⟨v3, rfl, ⟨A3, cx, hv3, hown3⟩, hb3⟩
            rw [List.length_set, HM.out] at hv3 hown3
            subst hv3
            obtain ⟨bx, ox, ex, -, -⟩ := (Has.of_own hown3).open_ (by omega)
            subst ex
            have HL3 := Lib.hid (HL2.out.below hb3)
            have HO3 := Lib.hid (ownsRow_below HO2.out hb3)
            have HD3 := Lib.hid (HD2.out.below hb3)
            have HB3 := Lib.hid (HB2.out.trans (hb3.mono HB2.out.size))
            have HX := Lib.hid (ownsRow_base hown3 (show w.heap.size + 1 ≤ _ by have := HD2.out.lt; omega))
            clear hb3 hown3
            have HLt := HL3
            have HDt := HD3
            have HBt := HB3
            obtain ⟨s, hs⟩ : ∃ s : Int, 5 = s := ⟨_, rfl⟩
            obtain ⟨b, hb⟩ : ∃ b : Int, 0 = b := ⟨_, rfl⟩
            have hfit : fitB s b = true := by subst hs hb; decide
            have Hfit := Lib.hid hfit
            rw [hs, hb] at HX
            clear hs hb hfit
            have hQM := hKM
            go_wp2_with fail
            refine (fvalid_any _ M cx (fs.set K ⟨s, b⟩) _ (Has.of_own HX.out)).mono ?_
            rewrite [show validF (fs.set K ⟨s, b⟩) = true from validF_set Hv.out K Hfit.out]
            rintro e wa ⟨rfl, hba⟩
            have HXa := Lib.hid (ownsRow_below HX.out hba)
            have HLa := Lib.hid (HLt.out.below hba)
            have HDa := Lib.hid (HDt.out.below hba)
            have HBa := Lib.hid (HBt.out.trans (hba.mono HBt.out.size))
            have hsa := HBa.out.size
            clear hba
            go_wp2_with fail
            go_loopw [99] (fun i wi => ∃ j : Nat, j ≤ M ∧ i = .int .i64 j ∧ Below wa.heap.size wa wi) (fun i _ => M - (intOf i).toNat)
            case atStart => exact ⟨0, by omega, rfl, Below.refl _ _⟩
            case round =>
              obtain ⟨j, hj, rfl, hBi⟩ := hrel
              have hsi := hBi.size
              by_cases hjM : j < M
              · obtain ⟨b1, o1, e1, hb1, x0, x1⟩ := HLa.out.frame_at hjM
                obtain ⟨b2, o2, e2, hb2, y0, y1⟩ := (Has.of_own HXa.out).frame_at hjM
                injection e1 with e1
                injection e1 with e1 e1'
                subst e1 e1'
                injection e2 with e2
                injection e2 with e2 e2'
                subst e2 e2'
                have p0 := cellK hBi hb1 x0
                have p1 := cellK hBi hb1 x1
                have q0 := cellK hBi hb2 y0
                have q1 := cellK hBi hb2 y1
                clear x0 x1 y0 y1
                have hl1 : b4 < wr.heap.size := by omega
                have hl2 : bx < wr.heap.size := by omega
                have hjM' : (j : Int) < (M : Int) := by omega
                have hj0 : (0 : Int) ≤ (j : Int) := by omega
                by_cases hjQ : j = K
                · subst hjQ
                  have hS5 := Hst.out
                  obtain ⟨⟨S, T⟩, hf⟩ : ∃ f, fs.getD j FrD.zero = f := ⟨_, rfl⟩
                  rw [getD_set_same (by rw [HM.out]; exact hjM)] at q0 q1
                  rw [hf] at p0 p1 hS5
                  dsimp only at p0 p1 q0 q1 hS5
                  have hS5' : (S == 5) = false := by simp [hS5]
                  clear hf
                  go_wp2_with fail
                  go_quiet (fail)
                  go_wp2_with fail
                  go_roundw
                  case rel => exact ⟨j + 1, by omega, by go_num, by (repeat' (first | (with_reducible exact Below.refl _ _) | (with_reducible assumption) | (with_reducible refine Below.alloc ?_ ?_ _) | (with_reducible refine Below.drew ?_) | (with_reducible refine below_drewN ?_ _) | (with_reducible refine Below.setCell ?_ ?_ _) | (with_reducible exact Nat.le_refl _) | omega | (simp <;> omega)))⟩
                  case measure => simp [intOf]; omega
                · have hne : ((j : Int) != (K : Int)) = true := by simp; omega
                  rw [getD_set_other (fun e => hjQ e.symm)] at q0 q1
                  obtain ⟨⟨S, T⟩, hf⟩ : ∃ f, fs.getD j FrD.zero = f := ⟨_, rfl⟩
                  rw [hf] at p0 p1 q0 q1
                  dsimp only at p0 p1 q0 q1
                  clear hf
                  by_cases hS5 : S = 5
                  · subst hS5
                    go_wp2_with fail
                    go_quiet (fail)
                    go_wp2_with fail
                    go_roundw
                    case rel => exact ⟨j + 1, by omega, by go_num, by (repeat' (first | (with_reducible exact Below.refl _ _) | (with_reducible assumption) | (with_reducible refine Below.alloc ?_ ?_ _) | (with_reducible refine Below.drew ?_) | (with_reducible refine below_drewN ?_ _) | (with_reducible refine Below.setCell ?_ ?_ _) | (with_reducible exact Nat.le_refl _) | omega | (simp <;> omega)))⟩
                    case measure => simp [intOf]; omega
                  · have hS5' : (S == 5) = false := by simp [hS5]
                    go_wp2_with fail
                    go_quiet (fail)
                    go_wp2_with fail
                    go_roundw
                    case rel => exact ⟨j + 1, by omega, by go_num, by (repeat' (first | (with_reducible exact Below.refl _ _) | (with_reducible assumption) | (with_reducible refine Below.alloc ?_ ?_ _) | (with_reducible refine Below.drew ?_) | (with_reducible refine below_drewN ?_ _) | (with_reducible refine Below.setCell ?_ ?_ _) | (with_reducible exact Nat.le_refl _) | omega | (simp <;> omega)))⟩
                    case measure => simp [intOf]; omega
              · have hge : M ≤ j := by omega
                have HXi := Lib.hid (ownsRow_below HXa.out hBi)
                have HDi := Lib.hid (HDa.out.below hBi)
                have HBi := Lib.hid (HBa.out.trans (hBi.mono hsa))
                clear hjM hBi
                go_wp2_with fail
                refine (count_any _ M cx (fs.set K ⟨s, b⟩) _ (Has.of_own HXi.out) (validF_get (validF_set Hv.out K Hfit.out)).1 (by omega)).mono ?_
                rintro e wb ⟨rfl, hbb⟩
                have HXb := Lib.hid (ownsRow_below HXi.out hbb)
                have HDb := Lib.hid (HDi.out.below hbb)
                have HBb := Lib.hid (HBi.out.trans (hbb.mono HBi.out.size))
                clear hbb
                have hsum := cnt_sum (validF_get (validF_set Hv.out K Hfit.out)).1
                rw [List.length_set, HM.out] at hsum
                obtain ⟨C0, hC0⟩ : ∃ C, cntF (fs.set K ⟨s, b⟩) 0 = C := ⟨_, rfl⟩
                obtain ⟨C1, hC1⟩ : ∃ C, cntF (fs.set K ⟨s, b⟩) 1 = C := ⟨_, rfl⟩
                obtain ⟨C2, hC2⟩ : ∃ C, cntF (fs.set K ⟨s, b⟩) 2 = C := ⟨_, rfl⟩
                obtain ⟨C3, hC3⟩ : ∃ C, cntF (fs.set K ⟨s, b⟩) 3 = C := ⟨_, rfl⟩
                obtain ⟨C4, hC4⟩ : ∃ C, cntF (fs.set K ⟨s, b⟩) 4 = C := ⟨_, rfl⟩
                obtain ⟨C5, hC5⟩ : ∃ C, cntF (fs.set K ⟨s, b⟩) 5 = C := ⟨_, rfl⟩
                rw [hC0, hC1, hC2, hC3, hC4, hC5] at hsum
                rw [hC0, hC1, hC2, hC3, hC4, hC5]
                have HS := Lib.hid hsum
                have hC0' : C0 ≤ 64 := by omega
                have hC1' : C1 ≤ 64 := by omega
                have hC2' : C2 ≤ 64 := by omega
                have hC3' : C3 ≤ 64 := by omega
                have hC4' : C4 ≤ 64 := by omega
                have hC5' : C5 ≤ 64 := by omega
                clear hsum hC0 hC1 hC2 hC3 hC4 hC5
                go_wp2_with fail
                go_loop [131, 14] (fun i t => ∃ q : Nat, q ≤ 6 ∧ i = .int .i64 q ∧ t = .int .i64 (part6 C0 C1 C2 C3 C4 C5 q)) (fun i _ => 6 - (intOf i).toNat)
                case atStart => exact ⟨0, by omega, rfl, rfl⟩
                case round =>
                  obtain ⟨q, hq, rfl, rfl⟩ := hrel
                  have hqc : q = 0 ∨ q = 1 ∨ q = 2 ∨ q = 3 ∨ q = 4 ∨ q = 5 ∨ q = 6 := by omega
                  rcases hqc with rfl | rfl | rfl | rfl | rfl | rfl | rfl
                  · simp only [part6]
                    have hid := idx79_0
                    go_wp2_with fail
                    go_round
                    case rel => exact ⟨1, by omega, rfl, by simp⟩
                    case measure => simp [intOf]
                  · simp only [part6]
                    have hid := idx79_1
                    go_wp2_with fail
                    go_round
                    case rel => exact ⟨2, by omega, rfl, by simp⟩
                    case measure => simp [intOf]
                  · simp only [part6]
                    have hid := idx79_2
                    go_wp2_with fail
                    go_round
                    case rel => exact ⟨3, by omega, rfl, by simp⟩
                    case measure => simp [intOf]
                  · simp only [part6]
                    have hid := idx79_3
                    go_wp2_with fail
                    go_round
                    case rel => exact ⟨4, by omega, rfl, by simp⟩
                    case measure => simp [intOf]
                  · simp only [part6]
                    have hid := idx79_4
                    go_wp2_with fail
                    go_round
                    case rel => exact ⟨5, by omega, rfl, by simp⟩
                    case measure => simp [intOf]
                  · simp only [part6]
                    have hid := idx79_5
                    go_wp2_with fail
                    go_round
                    case rel => exact ⟨6, by omega, rfl, by simp⟩
                    case measure => simp [intOf]
                  · rw [show part6 C0 C1 C2 C3 C4 C5 6 = M from HS.out]
                    go_wp2_with fail
                    go_roundw
                    case rel => exact ⟨k + 1, fs.set K ⟨s, b⟩, by go_num, by omega, by rw [List.length_set, HM.out]; omega, ownFrs_set HM.out HXb.out, validF_set Hv.out K Hfit.out, HDb.out, HBb.out⟩
                    case measure => simp [intOf]; omega
        · have hr : rangeB fs (K : Int) = true := range_nat (by rw [HM.out]; exact hKM)
          obtain ⟨S0, hS0⟩ : ∃ S, stAt fs (K : Int) = S := ⟨_, rfl⟩
          have hE : chgE fs (K : Int) 1 2 = if occB S0 = true then 0 else 40 := by simp only [chgE, Hv.out, hr, hS0, if_true]; rfl
          cases ho : occB S0
          · rw [ho] at hE
            simp only [Bool.false_eq_true, if_false] at hE
            have HE := Lib.hid hE
            clear hE hr ho hS0
            go_wp2_with fail
            refine (change_any _ M c4 K 1 2 fs _ HL2.out).mono ?_
            rewrite [HE.out]
            rintro e w3 ⟨v3, rfl, -, hb3⟩
            have HL3 := Lib.hid (HL2.out.below hb3)
            have HO3 := Lib.hid (ownsRow_below HO2.out hb3)
            have HD3 := Lib.hid (HD2.out.below hb3)
            have HB3 := Lib.hid (HB2.out.trans (hb3.mono HB2.out.size))
            clear hb3
            go_wp2_with fail
            go_roundw
            case rel => exact ⟨k + 1, fs, by go_num, by omega, by rw [HM.out]; omega, ⟨_, c4, by rw [HM.out], by rw [HM.out]; exact HO3.out⟩, Hv.out, HD3.out, HB3.out⟩
            case measure => simp [intOf]; omega
          · rw [ho] at hE
            simp only [if_true] at hE
            have hL : chgL fs (K : Int) 1 2 = fs.set K ⟨1, 2⟩ := by simp only [chgL, hE, if_true, Int.toNat_natCast]
            have hst5 : (fs.getD K FrD.zero).st ≠ 5 := by
              intro h5
              simp only [stAt, Int.toNat_natCast] at hS0
              rw [h5] at hS0
              subst hS0
              revert ho; decide
            have Hst := Lib.hid hst5
            have HE := Lib.hid hE
            have HL := Lib.hid hL
            clear hE hL hst5 hS0 ho hr
            go_wp2_with fail
            refine (change_any _ M c4 K 1 2 fs _ HL2.out).mono ?_
            rewrite [HE.out, HL.out]
            rintro e w3 ⟨v3, rfl, ⟨A3, cx, hv3, hown3⟩, hb3⟩
            rw [List.length_set, HM.out] at hv3 hown3
            subst hv3
            obtain ⟨bx, ox, ex, -, -⟩ := (Has.of_own hown3).open_ (by omega)
            subst ex
            have HL3 := Lib.hid (HL2.out.below hb3)
            have HO3 := Lib.hid (ownsRow_below HO2.out hb3)
            have HD3 := Lib.hid (HD2.out.below hb3)
            have HB3 := Lib.hid (HB2.out.trans (hb3.mono HB2.out.size))
            have HX := Lib.hid (ownsRow_base hown3 (show w.heap.size + 1 ≤ _ by have := HD2.out.lt; omega))
            clear hb3 hown3
            have HLt := HL3
            have HDt := HD3
            have HBt := HB3
            obtain ⟨s, hs⟩ : ∃ s : Int, 1 = s := ⟨_, rfl⟩
            obtain ⟨b, hb⟩ : ∃ b : Int, 2 = b := ⟨_, rfl⟩
            have hfit : fitB s b = true := by subst hs hb; decide
            have Hfit := Lib.hid hfit
            rw [hs, hb] at HX
            clear hs hb hfit
            have hQM := hKM
            go_wp2_with fail
            refine (fvalid_any _ M cx (fs.set K ⟨s, b⟩) _ (Has.of_own HX.out)).mono ?_
            rewrite [show validF (fs.set K ⟨s, b⟩) = true from validF_set Hv.out K Hfit.out]
            rintro e wa ⟨rfl, hba⟩
            have HXa := Lib.hid (ownsRow_below HX.out hba)
            have HLa := Lib.hid (HLt.out.below hba)
            have HDa := Lib.hid (HDt.out.below hba)
            have HBa := Lib.hid (HBt.out.trans (hba.mono HBt.out.size))
            have hsa := HBa.out.size
            clear hba
            go_wp2_with fail
            go_loopw [99] (fun i wi => ∃ j : Nat, j ≤ M ∧ i = .int .i64 j ∧ Below wa.heap.size wa wi) (fun i _ => M - (intOf i).toNat)
            case atStart => exact ⟨0, by omega, rfl, Below.refl _ _⟩
            case round =>
              obtain ⟨j, hj, rfl, hBi⟩ := hrel
              have hsi := hBi.size
              by_cases hjM : j < M
              · obtain ⟨b1, o1, e1, hb1, x0, x1⟩ := HLa.out.frame_at hjM
                obtain ⟨b2, o2, e2, hb2, y0, y1⟩ := (Has.of_own HXa.out).frame_at hjM
                injection e1 with e1
                injection e1 with e1 e1'
                subst e1 e1'
                injection e2 with e2
                injection e2 with e2 e2'
                subst e2 e2'
                have p0 := cellK hBi hb1 x0
                have p1 := cellK hBi hb1 x1
                have q0 := cellK hBi hb2 y0
                have q1 := cellK hBi hb2 y1
                clear x0 x1 y0 y1
                have hl1 : b4 < wr.heap.size := by omega
                have hl2 : bx < wr.heap.size := by omega
                have hjM' : (j : Int) < (M : Int) := by omega
                have hj0 : (0 : Int) ≤ (j : Int) := by omega
                by_cases hjQ : j = K
                · subst hjQ
                  have hS5 := Hst.out
                  obtain ⟨⟨S, T⟩, hf⟩ : ∃ f, fs.getD j FrD.zero = f := ⟨_, rfl⟩
                  rw [getD_set_same (by rw [HM.out]; exact hjM)] at q0 q1
                  rw [hf] at p0 p1 hS5
                  dsimp only at p0 p1 q0 q1 hS5
                  have hS5' : (S == 5) = false := by simp [hS5]
                  clear hf
                  go_wp2_with fail
                  go_quiet (fail)
                  go_wp2_with fail
                  go_roundw
                  case rel => exact ⟨j + 1, by omega, by go_num, by (repeat' (first | (with_reducible exact Below.refl _ _) | (with_reducible assumption) | (with_reducible refine Below.alloc ?_ ?_ _) | (with_reducible refine Below.drew ?_) | (with_reducible refine below_drewN ?_ _) | (with_reducible refine Below.setCell ?_ ?_ _) | (with_reducible exact Nat.le_refl _) | omega | (simp <;> omega)))⟩
                  case measure => simp [intOf]; omega
                · have hne : ((j : Int) != (K : Int)) = true := by simp; omega
                  rw [getD_set_other (fun e => hjQ e.symm)] at q0 q1
                  obtain ⟨⟨S, T⟩, hf⟩ : ∃ f, fs.getD j FrD.zero = f := ⟨_, rfl⟩
                  rw [hf] at p0 p1 q0 q1
                  dsimp only at p0 p1 q0 q1
                  clear hf
                  by_cases hS5 : S = 5
                  · subst hS5
                    go_wp2_with fail
                    go_quiet (fail)
                    go_wp2_with fail
                    go_roundw
                    case rel => exact ⟨j + 1, by omega, by go_num, by (repeat' (first | (with_reducible exact Below.refl _ _) | (with_reducible assumption) | (with_reducible refine Below.alloc ?_ ?_ _) | (with_reducible refine Below.drew ?_) | (with_reducible refine below_drewN ?_ _) | (with_reducible refine Below.setCell ?_ ?_ _) | (with_reducible exact Nat.le_refl _) | omega | (simp <;> omega)))⟩
                    case measure => simp [intOf]; omega
                  · have hS5' : (S == 5) = false := by simp [hS5]
                    go_wp2_with fail
                    go_quiet (fail)
                    go_wp2_with fail
                    go_roundw
                    case rel => exact ⟨j + 1, by omega, by go_num, by (repeat' (first | (with_reducible exact Below.refl _ _) | (with_reducible assumption) | (with_reducible refine Below.alloc ?_ ?_ _) | (with_reducible refine Below.drew ?_) | (with_reducible refine below_drewN ?_ _) | (with_reducible refine Below.setCell ?_ ?_ _) | (with_reducible exact Nat.le_refl _) | omega | (simp <;> omega)))⟩
                    case measure => simp [intOf]; omega
              · have hge : M ≤ j := by omega
                have HXi := Lib.hid (ownsRow_below HXa.out hBi)
                have HDi := Lib.hid (HDa.out.below hBi)
                have HBi := Lib.hid (HBa.out.trans (hBi.mono hsa))
                clear hjM hBi
                go_wp2_with fail
                refine (count_any _ M cx (fs.set K ⟨s, b⟩) _ (Has.of_own HXi.out) (validF_get (validF_set Hv.out K Hfit.out)).1 (by omega)).mono ?_
                rintro e wb ⟨rfl, hbb⟩
                have HXb := Lib.hid (ownsRow_below HXi.out hbb)
                have HDb := Lib.hid (HDi.out.below hbb)
                have HBb := Lib.hid (HBi.out.trans (hbb.mono HBi.out.size))
                clear hbb
                have hsum := cnt_sum (validF_get (validF_set Hv.out K Hfit.out)).1
                rw [List.length_set, HM.out] at hsum
                obtain ⟨C0, hC0⟩ : ∃ C, cntF (fs.set K ⟨s, b⟩) 0 = C := ⟨_, rfl⟩
                obtain ⟨C1, hC1⟩ : ∃ C, cntF (fs.set K ⟨s, b⟩) 1 = C := ⟨_, rfl⟩
                obtain ⟨C2, hC2⟩ : ∃ C, cntF (fs.set K ⟨s, b⟩) 2 = C := ⟨_, rfl⟩
                obtain ⟨C3, hC3⟩ : ∃ C, cntF (fs.set K ⟨s, b⟩) 3 = C := ⟨_, rfl⟩
                obtain ⟨C4, hC4⟩ : ∃ C, cntF (fs.set K ⟨s, b⟩) 4 = C := ⟨_, rfl⟩
                obtain ⟨C5, hC5⟩ : ∃ C, cntF (fs.set K ⟨s, b⟩) 5 = C := ⟨_, rfl⟩
                rw [hC0, hC1, hC2, hC3, hC4, hC5] at hsum
                rw [hC0, hC1, hC2, hC3, hC4, hC5]
                have HS := Lib.hid hsum
                have hC0' : C0 ≤ 64 := by omega
                have hC1' : C1 ≤ 64 := by omega
                have hC2' : C2 ≤ 64 := by omega
                have hC3' : C3 ≤ 64 := by omega
                have hC4' : C4 ≤ 64 := by omega
                have hC5' : C5 ≤ 64 := by omega
                clear hsum hC0 hC1 hC2 hC3 hC4 hC5
                go_wp2_with fail
                go_loop [131, 14] (fun i t => ∃ q : Nat, q ≤ 6 ∧ i = .int .i64 q ∧ t = .int .i64 (part6 C0 C1 C2 C3 C4 C5 q)) (fun i _ => 6 - (intOf i).toNat)
                case atStart => exact ⟨0, by omega, rfl, rfl⟩
                case round =>
                  obtain ⟨q, hq, rfl, rfl⟩ := hrel
                  have hqc : q = 0 ∨ q = 1 ∨ q = 2 ∨ q = 3 ∨ q = 4 ∨ q = 5 ∨ q = 6 := by omega
                  rcases hqc with rfl | rfl | rfl | rfl | rfl | rfl | rfl
                  · simp only [part6]
                    have hid := idx79_0
                    go_wp2_with fail
                    go_round
                    case rel => exact ⟨1, by omega, rfl, by simp⟩
                    case measure => simp [intOf]
                  · simp only [part6]
                    have hid := idx79_1
                    go_wp2_with fail
                    go_round
                    case rel => exact ⟨2, by omega, rfl, by simp⟩
                    case measure => simp [intOf]
                  · simp only [part6]
                    have hid := idx79_2
                    go_wp2_with fail
                    go_round
                    case rel => exact ⟨3, by omega, rfl, by simp⟩
                    case measure => simp [intOf]
                  · simp only [part6]
                    have hid := idx79_3
                    go_wp2_with fail
                    go_round
                    case rel => exact ⟨4, by omega, rfl, by simp⟩
                    case measure => simp [intOf]
                  · simp only [part6]
                    have hid := idx79_4
                    go_wp2_with fail
                    go_round
                    case rel => exact ⟨5, by omega, rfl, by simp⟩
                    case measure => simp [intOf]
                  · simp only [part6]
                    have hid := idx79_5
                    go_wp2_with fail
                    go_round
                    case rel => exact ⟨6, by omega, rfl, by simp⟩
                    case measure => simp [intOf]
                  · rw [show part6 C0 C1 C2 C3 C4 C5 6 = M from HS.out]
                    go_wp2_with fail
                    go_roundw
                    case rel => exact ⟨k + 1, fs.set K ⟨s, b⟩, by go_num, by omega, by rw [List.length_set, HM.out]; omega, ownFrs_set HM.out HXb.out, validF_set Hv.out K Hfit.out, HDb.out, HBb.out⟩
                    case measure => simp [intOf]; omega
      · have hge : 30 ≤ k := by omega
        have hk' : k = 30 := by omega
        subst hk'
        go_wp2_with fail
        refine (fawake_any _).mono ?_
        rintro e w7 ⟨rfl, hb7⟩
        have HB7 := Lib.hid (HBr.out.trans (hb7.mono HBr.out.size))
        go_wp2_with fail
        go_ret
        exact ⟨rfl, HB7.out⟩
  · go_enter Try.func14, Try.ntmps14
    go_wp2_with fail
    refine (light_no A n c _ hn).mono ?_
    rintro e w' ⟨rfl, rfl⟩
    go_wp2_with fail
    refine (fawake_any _).mono ?_
    rintro e w7 ⟨rfl, hb7⟩
    go_wp2_with fail
    go_ret
    exact ⟨rfl, hb7⟩
end Go.Proofs.Ytjlmgjpnfppkoaa
