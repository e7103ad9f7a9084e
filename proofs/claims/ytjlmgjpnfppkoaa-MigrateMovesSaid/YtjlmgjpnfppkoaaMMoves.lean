/-
  The walk of MigrateMoves: it returns true, and what was there before is as it was.
-/
import Derived.LoopTactic
import Derived.Deep.CutBlock
import Derived.Deep.DeepCutAuto
import Derived.IntWalk
import Derived.StillTailTactics
import Derived.Test.YtjlmgjpnfppkoaaMMAid
import Derived.Test.YtjlmgjpnfppkoaaFollow
import Derived.Test.YtjlmgjpnfppkoaaHeld
import Derived.Test.YtjlmgjpnfppkoaaMAwake
import Derived.Test.YtjlmgjpnfppkoaaMWords
import Derived.Test.YtjlmgjpnfppkoaaMRef
import Derived.Test.YtjlmgjpnfppkoaaMRebR
import Derived.Test.YtjlmgjpnfppkoaaPgSame
namespace Go.Proofs.Ytjlmgjpnfppkoaa
open Go.RowKit
attribute [local go_sem ↓] Go.wp_at_zero Go.wp_at_succ

set_option maxRecDepth 100000 in
set_option maxHeartbeats 16000000 in
theorem moves_any (A : Option Addr) (n c : Nat) (xs : List LineV) (A1 : Option Addr) (n1 c1 : Nat) (zs : List Int) (fr tz wh ad : Int) (w : World) (h : IsLines w A n xs) (hx : ∀ x ∈ xs, x.L.addr ≤ 9223372036854775807) (h1 : Has w A1 n1 1 (zs.map (Value.int .i64)))
    (hwh : -9223372036854775808 ≤ wh ∧ wh ≤ 9223372036854775807) :
    Calls Try.prog 3 #[.slice A n c, .slice A1 n1 c1, .int .i64 fr, .int .i64 tz, .int .i64 wh, .int .i64 ad] w fun e w' => e = .returned (.bool true) ∧ Below w.heap.size w w' := by
  have HL := Lib.hid h
  have Hl := Lib.hid h.len
  have HX := Lib.hid hx
  have HZ := Lib.hid h1
  clear h hx h1
  by_cases hg : n ≤ 20 ∧ n1 ≤ 400 ∧ -1152921504606846976 ≤ ad ∧ ad ≤ 1152921504606846976
  · obtain ⟨g1, g2, g3, g4⟩ := hg
    have g1' : (n : Int) ≤ 20 := by omega
    go_enter Try.func3, Try.ntmps3
    go_wp2_with fail
    refine (light_yes A1 n1 c1 _ g2).mono ?_
    rintro e w' ⟨rfl, rfl⟩
    go_wp2_with fail
    go_loopw [53] (fun i wr => ∃ k : Nat, k ≤ n ∧ i = .int .i64 k ∧ Hid (∀ j, j < k → (xs.getD j LineV.zero).L.data.length ≤ 100) ∧ Hid (Below w.heap.size w wr)) (fun i _ => n - (intOf i).toNat)
    case atStart => exact ⟨0, by omega, rfl, fun j hj => absurd hj (by omega), Below.refl _ _⟩
    case round =>
      obtain ⟨k, hk, rfl, Hd, HB⟩ := hrel
      have hs := HB.out.size
      by_cases hlt : k < n
      · have hlt' : (k : Int) < (n : Int) := by omega
        obtain ⟨b, off, rfl, hb, d0, d1, d2, d3, -⟩ := HL.out.at_ hlt
        obtain ⟨y, hy⟩ : ∃ y, xs.getD k LineV.zero = y := ⟨_, rfl⟩
        rw [hy] at d0 d1 d2 d3
        have Hy := Lib.hid hy
        obtain ⟨⟨a, D, di, po⟩, YA, Yc⟩ := y
        dsimp only at d0 d1 d2 d3
        have e0 := cellK HB.out hb d0
        have e1 := cellK HB.out hb d1
        have e2 := cellK HB.out hb d2
        have e3 := cellK HB.out hb d3
        obtain ⟨M, hM⟩ : ∃ M, D.length = M := ⟨_, rfl⟩
        rw [hM] at e1
        have HM := Lib.hid hM
        clear d0 d1 d2 d3 hy hM
        by_cases hM1 : M ≤ 100
        · have hM2 : (M : Int) ≤ 100 := by omega
          go_wp2_with fail
          go_roundw
          case rel =>
            refine ⟨k + 1, by omega, by go_num, fun j hj => ?_, ?_⟩
            · by_cases hjk : j = k
              · rw [hjk, Hy.out]; show D.length ≤ 100; rw [HM.out]; exact hM1
              · exact Hd.out j (by omega)
            · show Below _ _ _
              have hb := HB.out
              (repeat' (first | (with_reducible exact Below.refl _ _) | (with_reducible assumption) | (with_reducible refine Below.alloc ?_ ?_ _) | (with_reducible refine Below.drew ?_) | (with_reducible refine below_drewN ?_ _) | (with_reducible refine Below.setCell ?_ ?_ _) | (with_reducible exact Nat.le_refl _) | omega | (simp <;> omega)))
          case measure => simp [intOf]; omega
        · have hM2 : (100 : Int) < (M : Int) := by omega
          go_wp2_with fail
          refine (mawake_any _).mono ?_
          rintro e w7 ⟨rfl, hb7⟩
          go_wp2_with fail
          go_ret
          exact ⟨rfl, (show Below w.heap.size w _ by have hb := HB.out; (repeat' (first | (with_reducible exact Below.refl _ _) | (with_reducible assumption) | (with_reducible refine Below.alloc ?_ ?_ _) | (with_reducible refine Below.drew ?_) | (with_reducible refine below_drewN ?_ _) | (with_reducible refine Below.setCell ?_ ?_ _) | (with_reducible exact Nat.le_refl _) | omega | (simp <;> omega)))).trans (hb7.mono (by (first | (with_reducible exact Nat.le_refl _) | (with_reducible assumption) | omega | (simp <;> omega))))⟩
      · have hkn : n ≤ k := by omega
        have hkn' : (n : Int) ≤ (k : Int) := by omega
        have hd : ∀ x ∈ xs, x.L.data.length ≤ 100 := fun x hx => by
          obtain ⟨j, hj, rfl⟩ := List.getElem_of_mem hx
          have := Hd.out j (by rw [Hl.out] at hj; omega)
          simpa [List.getD, List.getElem?_eq_getElem hj] using this
        have HD0 := Lib.hid hd
        clear hlt hd
        obtain ⟨w0, rfl⟩ : ∃ w0 : World, w0 = wr := ⟨_, rfl⟩
        go_wp2_with fail
        refine (roll_any A1 n1 c1 zs _ (HZ.out.below HB.out) g2).mono ?_
        rintro e w1 ⟨rfl, hD1, hb1⟩
        have HB1 := Lib.hid (HB.out.trans (hb1.mono hs))
        have hs1 := HB1.out.size
        have HD1 := Lib.hid hD1
        have hs1g := hb1.size
        clear hb1 hD1
        go_wp2_with fail
        refine (next_any w0.heap.size 4 _ HD1.out (by omega) (by omega)).mono ?_
        rintro e w2 ⟨z, rfl, z1, z2, hD2, hb2⟩
        have HB2 := Lib.hid (HB1.out.trans (hb2.below hs1 hs))
        have hs2 := HB2.out.size
        have HD2 := Lib.hid hD2
        clear hb2 hD2
        go_wp2_with fail
        refine (words_any w0.heap.size z _ HD2.out (by omega)).mono ?_
        rintro e w3 ⟨v3, ys, rfl, hO3, hW3, hD3, hb3⟩
        have HB3 := Lib.hid (HB2.out.trans (hb3.below hs2 hs))
        have hs3 := HB3.out.size
        obtain ⟨A3, c3, hv3⟩ := hO3.1
        rw [hW3.1] at hv3
        subst hv3
        have hc3 : 4 ≤ c3 := row_cap (show w3.ownsRow w2.heap.size 28 4 (.slice A3 4 c3) 4 (lineVals ys) by have := hO3.2.1; rw [hW3.1] at this; exact this)
        have hc3' : (4 : Int) ≤ (c3 : Int) := by omega
        obtain ⟨gw, rfl, hgw0, hgw2⟩ := own_some (show w3.ownsRow w2.heap.size 28 4 (.slice A3 4 c3) 4 (lineVals ys) by have := hO3.2.1; rw [hW3.1] at this; exact this) (by omega)
        have hgw1 : w.heap.size ≤ gw := Nat.le_trans hs2 hgw0
        have hgw3 : w0.heap.size < gw := Nat.lt_of_lt_of_le HD2.out.lt hgw0
        have HO3 := Lib.hid (hO3.base hs2)
        have HW3 := Lib.hid hW3
        have hbd := words_bd hW3 (by omega)
        have Hbd := Lib.hid hbd
        clear hbd
        have HD3 := Lib.hid hD3
        clear hb3 hO3 hW3 hD3 HD1 HD2 HB1 HB2
        go_wp2_with fail
        refine (mod_any wh 6 _ (by omega)).mono ?_
        obtain ⟨m0, m1⟩ := mod_range wh 6 (by omega)
        obtain ⟨W, hW⟩ : ∃ x, mod wh 6 = x := ⟨_, rfl⟩
        rw [hW] at m0 m1
        rewrite [hW]
        clear hW
        rintro e w' ⟨rfl, rfl⟩
        go_upto_block 2 with fail
        go_cut [16] (fun s16 wx => ∃ (A4 : Option Addr) (n4 c4 : Nat) (ls : List LineV), s16 = .slice A4 n4 c4 ∧ n4 ≤ 20 ∧ Hid (IsLines wx A4 n4 ls) ∧ Hid (∀ x ∈ ls, x.L.data.length ≤ 100 ∧ x.L.addr ≤ 9223372036854775807) ∧ Hid (DiceOk wx w0.heap.size) ∧ Hid (Below w.heap.size w wx))
        case first =>
          by_cases W0 : W = 0
          · subst W0
            go_wp2_with fail
            go_meet
            exact ⟨A, n, c, xs, rfl, g1, HL.out.below HB3.out, fun x hx => ⟨HD0.out x hx, HX.out x hx⟩, HD3.out, HB3.out⟩
          · have W0' : (W == 0) = false := by simp [W0]
            by_cases W1 : W = 1
            · subst W1
              go_wp2_with fail
              refine (mod_any (wh.tdiv 6) 4 _ (by omega)).mono ?_
              obtain ⟨p0, p1⟩ := mod_range (wh.tdiv 6) 4 (by omega)
              obtain ⟨p, hp⟩ : ∃ p : Nat, mod (wh.tdiv 6) 4 = p := ⟨(mod (wh.tdiv 6) 4).toNat, by omega⟩
              rw [hp] at p0 p1
              rewrite [hp]
              clear hp
              rintro e w' ⟨rfl, rfl⟩
              have hp4 : p ≤ 4 := by omega
              have hpc : (p : Int) ≤ (c3 : Int) := by omega
              go_wp2_with fail
              go_meet
              exact ⟨some ⟨gw, 0, none⟩, p, c3, ys.take p, rfl, by omega, (HO3.out.is HW3.out.1).take hp4, fun x hx => Hbd.out x (List.mem_of_mem_take hx), HD3.out, HB3.out⟩
            · have W1' : (W == 1) = false := by simp [W1]
              by_cases W2 : W = 2
              · subst W2
                clear W0 W1
                obtain ⟨p0, p1⟩ := mod_range (wh.tdiv 6) 4 (by omega)
                obtain ⟨p, hp⟩ : ∃ p : Nat, mod (wh.tdiv 6) 4 = p := ⟨(mod (wh.tdiv 6) 4).toNat, by omega⟩
                obtain ⟨q0, q1⟩ := mod_range (wh.tdiv 24) 5 (by omega)
                obtain ⟨q, hq⟩ : ∃ q, mod (wh.tdiv 24) 5 = q := ⟨_, rfl⟩
                rw [hp] at p0 p1
                rw [hq] at q0 q1
                have Hp := Lib.hid hp
                have Hq := Lib.hid hq
                clear hp hq
                have hp4 : p < 4 := by omega
                obtain ⟨gg, oo, ee, -, k0, -⟩ := (HO3.out.is HW3.out.1).at_ hp4
                injection ee with ee
                injection ee with ee1 ee2
                subst ee1 ee2
                simp only [Nat.zero_add] at k0
                rw [HW3.out.2.1 p hp4] at k0
                have fk0 : w3.frozen? ⟨gw, p * 4, none⟩ = false := own_frozen (show w3.ownsRow w.heap.size 28 4 (.slice (some ⟨gw, 0, none⟩) 4 c3) 4 (lineVals ys) by have := HO3.out.2.1; rw [HW3.out.1] at this; exact this) (p * 4)
                have cp : ∀ w : World, Calls Try.prog 20 #[.int .i64 (wh.tdiv 6), .int .i64 4] w fun e w' => e = .returned (.int .i64 p) ∧ w' = w := fun w => (mod_any (wh.tdiv 6) 4 w (by omega)).mono fun _ _ h => ⟨h.1.trans (by rw [Hp.out]), h.2.symm⟩
                have cq : ∀ w : World, Calls Try.prog 20 #[.int .i64 (wh.tdiv 24), .int .i64 5] w fun e w' => e = .returned (.int .i64 q) ∧ w' = w := fun w => (mod_any (wh.tdiv 24) 5 w (by omega)).mono fun _ _ h => ⟨h.1.trans (by rw [Hq.out]), h.2.symm⟩
                have HA := Lib.hid cp
                have HB7 := Lib.hid cq
                clear cp cq
                have hq6 := tdiv_i64 (k := 6) hwh (by omega)
                have hq24 := tdiv_i64 (k := 24) hwh (by omega)
                have hw1 := IntWalk.i64_in (q - 2) (by omega)
                have hw2 := IntWalk.i64_in (4 * z + (p : Int) + (q - 2)) (by omega)
                go_wp2_with fail
                refine still_tail_drawn 14 (by kernel_rfl) (by kernel_rfl) ?_
                simp only [List.take_succ_cons, List.take_zero, List.drop_succ_cons, List.drop_zero]
                still_step
                still_step
                still_step
                still_call (HA.out _)
                still_step
                still_step
                still_step
                still_step
                still_step
                still_call (HB7.out _)
                still_step
                still_step
                still_step
                still_step
                refine wpStill_nil ?_
                go_wp2_with fail
                go_meet
                exact ⟨some ⟨gw, 0, none⟩, 4, c3, _, rfl, by omega, ((HO3.out.below ((Below.refl _ _).drew)).set_addr HW3.out.1 hp4).is (by rw [List.length_set]; exact HW3.out.1), set_bd Hbd.out (by rw [HW3.out.1]; exact hp4) (by omega), HD3.out.drew.put hgw3 _, HB3.out.drew.setCell hgw1 _⟩
              · have W2' : (W == 2) = false := by simp [W2]
                by_cases W3 : W = 3
                · subst W3
                  go_wp2_with fail
                  refine (mod_any (wh.tdiv 6) 2 _ (by omega)).mono ?_
                  obtain ⟨p0, p1⟩ := mod_range (wh.tdiv 6) 2 (by omega)
                  obtain ⟨p, hp⟩ : ∃ p, mod (wh.tdiv 6) 2 = p := ⟨_, rfl⟩
                  rw [hp] at p0 p1
                  rewrite [hp]
                  clear hp
                  rintro e w' ⟨rfl, rfl⟩
                  have hw1 := IntWalk.i64_in (63 + p) (by omega)
                  go_wp2_with fail
                  refine (words_any w0.heap.size (63 + p) _ HD3.out (by omega)).mono ?_
                  rintro e w4 ⟨v4, y4, rfl, hO4, hW4, hD4, hb4⟩
                  have HB4 := Lib.hid (HB3.out.trans (hb4.below hs3 hs))
                  obtain ⟨A4, c4, hv4⟩ := hO4.1
                  rw [hW4.1] at hv4
                  subst hv4
                  have HO4 := Lib.hid (hO4.is hW4.1)
                  have HX4 := Lib.hid (words_bd hW4 (by omega))
                  have HD4 := Lib.hid hD4
                  clear hO4 hW4 hD4 hb4
                  go_wp2_with fail
                  go_meet
                  exact ⟨A4, 4, c4, y4, rfl, by omega, HO4.out, HX4.out, HD4.out, HB4.out⟩
                · have W3' : (W == 3) = false := by simp [W3]
                  by_cases W4 : W = 4
                  · subst W4
                    clear W0 W1 W2 W3
                    have HN3 := Lib.hid (Near.of HW3.out (by omega) (by omega))
                    obtain ⟨p0, p1⟩ := mod_range (wh.tdiv 6) 20 (by omega)
                    obtain ⟨p, hp⟩ : ∃ p, mod (wh.tdiv 6) 20 = p := ⟨_, rfl⟩
                    rw [hp] at p0 p1
                    have Hp := Lib.hid hp
                    clear hp
                    go_wp2_with fail
                    go_loopw [109] (fun i wr => ∃ (k : Nat) (ls : List LineV), k ≤ 4 ∧ i = .int .i64 k ∧ Hid (OwnLines wr w.heap.size (.slice (some ⟨gw, 0, none⟩) 4 c3) ls) ∧ Hid (Near k ls) ∧ Hid (DiceOk wr w0.heap.size) ∧ Hid (Below w.heap.size w wr)) (fun i _ => 4 - (intOf i).toNat)
                    case atStart => exact ⟨0, ys, by omega, rfl, HO3.out, HN3.out, HD3.out, HB3.out⟩
                    case round =>
                      obtain ⟨k, ls, hk, rfl, HOr, HNr, HDr, HBr⟩ := hrel
                      have hsr := HBr.out.size
                      by_cases hk4 : k < 4
                      · have hk4' : (k : Int) < 4 := by omega
                        have hk0 : (0 : Int) ≤ (k : Int) := by omega
                        obtain ⟨L0, hL0⟩ : ∃ x, (ls.getD k LineV.zero).L.addr = x := ⟨_, rfl⟩
                        obtain ⟨b0, b1⟩ := HNr.out.2.2 k (Nat.le_refl _) hk4
                        obtain ⟨gg, oo, ee, -, k0, -⟩ := (HOr.out.is HNr.out.1).at_ hk4
                        injection ee with ee
                        injection ee with ee1 ee2
                        subst ee1 ee2
                        simp only [Nat.zero_add] at k0
                        rw [hL0] at b0 b1 k0
                        clear hL0
                        have fk0 : wr.frozen? ⟨gw, k * 4, none⟩ = false := own_frozen (show wr.ownsRow w.heap.size 28 4 (.slice (some ⟨gw, 0, none⟩) 4 c3) 4 (lineVals ls) by have := HOr.out.2.1; rw [HNr.out.1] at this; exact this) (k * 4)
                        have cp : ∀ w : World, Calls Try.prog 20 #[.int .i64 (wh.tdiv 6), .int .i64 20] w fun e w' => e = .returned (.int .i64 p) ∧ w' = w := fun w => (mod_any (wh.tdiv 6) 20 w (by omega)).mono fun _ _ h => ⟨h.1.trans (by rw [Hp.out]), h.2.symm⟩
                        have HA := Lib.hid cp
                        clear cp
                        have hq6 := tdiv_i64 (k := 6) hwh (by omega)
                        have hw1 := IntWalk.i64_in (L0 - p) (by omega)
                        go_wp2_with fail
                        refine still_tail_drawn 11 (by kernel_rfl) (by kernel_rfl) ?_
                        simp only [List.take_succ_cons, List.take_zero, List.drop_succ_cons, List.drop_zero]
                        still_step
                        still_step
                        still_step
                        still_step
                        still_step
                        still_step
                        still_step
                        still_call (HA.out _)
                        still_step
                        still_step
                        still_step
                        refine wpStill_nil ?_
                        go_wp2_with fail
                        go_roundw
                        case rel => exact ⟨k + 1, _, by omega, by go_num, (HOr.out.below ((Below.refl _ _).drew)).set_addr HNr.out.1 hk4, HNr.out.step hk4 (by omega), HDr.out.drew.put hgw3 _, HBr.out.drew.setCell hgw1 _⟩
                        case measure => simp [intOf]; omega
                      · have hk44 : k = 4 := by omega
                        subst hk44
                        go_wp2_with fail
                        go_meet
                        exact ⟨some ⟨gw, 0, none⟩, 4, c3, ls, rfl, by omega, HOr.out.is HNr.out.1, fun x hx => ⟨(HNr.out.2.1 x hx).1, by have := (HNr.out.2.1 x hx).2; omega⟩, HDr.out, HBr.out⟩
                  · have W4' : (W == 4) = false := by simp [W4]
                    go_wp2_with fail
                    go_meet
                    exact ⟨some ⟨gw, 0, none⟩, 4, c3, ys, rfl, by omega, HO3.out.is HW3.out.1, Hbd.out, HD3.out, HB3.out⟩
        case rest =>
          obtain ⟨A4, n4, c4, ls, rfl, hn4, HL4, HX4, HD4, HB4⟩ := hcut
          obtain ⟨w4, rfl⟩ : ∃ w4 : World, w4 = wc := ⟨_, rfl⟩
          have hs4 := HB4.out.size
          have hd4 := HD4.out.lt
          clear HL Hl HX HZ HD0 HB HO3 HW3 HB3 Hbd HD3 m0 m1
          have HH4 := Lib.hid (head_bd HX4.out)
          have HK4 : Hid (∀ x ∈ ls, x.L.data.length ≤ 1048576) := fun x hx => by have := (HX4.out x hx).1; omega
          obtain ⟨m0, m1⟩ := mod_range tz 12 (by omega)
          obtain ⟨r0, r1⟩ := mod_range tz 2 (by omega)
          obtain ⟨M1, hM1⟩ : ∃ x, mod tz 12 = x := ⟨_, rfl⟩
          obtain ⟨M2, hM2⟩ : ∃ x, mod tz 2 = x := ⟨_, rfl⟩
          rw [hM1] at m0 m1
          rw [hM2] at r0 r1
          have HM1 := Lib.hid hM1
          have HM2 := Lib.hid hM2
          clear hM1 hM2
          have hw1 := IntWalk.i64_in (63 + M2) (by omega)
          go_wp2_with fail
          refine (mod_any tz 12 _ (by omega)).mono ?_
          rewrite [HM1.out]
          rintro e w' ⟨rfl, rfl⟩
          go_wp2_with fail
          refine (mod_any tz 2 _ (by omega)).mono ?_
          rewrite [HM2.out]
          rintro e w' ⟨rfl, rfl⟩
          go_wp2_with fail
          go_loopw [132] (fun i wr => ∃ k : Nat, k ≤ 3 ∧ i = .int .i64 k ∧ Hid (Three wr w4.heap.size tz M1 (63 + M2)) ∧ Hid (Below w4.heap.size w4 wr)) (fun i _ => 3 - (intOf i).toNat)
          case atStart =>
            refine ⟨0, by omega, rfl, ⟨by simp, by simp [go_sem], by simp [go_sem], by simp [go_sem]⟩, ?_⟩
            show Below _ _ _
            (repeat' (first | (with_reducible exact Below.refl _ _) | (with_reducible assumption) | (with_reducible refine Below.alloc ?_ ?_ _) | (with_reducible refine Below.drew ?_) | (with_reducible refine below_drewN ?_ _) | (with_reducible refine Below.setCell ?_ ?_ _) | (with_reducible exact Nat.le_refl _) | omega | (simp <;> omega)))
          case round =>
            obtain ⟨k, hk, rfl, H3, HBr⟩ := hrel
            have hsr := HBr.out.size
            by_cases hk3 : k < 3
            · have hk3' : (k : Int) < 3 := by omega
              have hk0 : (0 : Int) ≤ (k : Int) := by omega
              obtain ⟨v, hv⟩ := H3.out.at_ hk3
              have HLr := Lib.hid (HL4.out.below HBr.out)
              obtain ⟨E, hE⟩ : ∃ E, rebE ls v = E := ⟨_, rfl⟩
              have HE := Lib.hid hE
              clear hE
              go_wp2_with fail
              refine (rebase_any A4 n4 c4 v ls _ HLr.out HH4.out HK4.out).mono ?_
              rewrite [HE.out]
              rintro e w5 ⟨v5, y5, rfl, hm5, hO5, hb5⟩
              have HB5 := Lib.hid hb5
              have hs5 := hb5.size
              have HL5 := Lib.hid (HLr.out.below hb5)
              obtain ⟨A5, c5, hv5⟩ := hO5.1
              obtain ⟨n5, hn5⟩ : ∃ k, y5.length = k := ⟨_, rfl⟩
              rw [hn5] at hv5
              subst hv5
              have HO5 := Lib.hid (hO5.is hn5)
              have HM5 := Lib.hid hm5
              clear hb5 hm5 hO5 hn5
              go_wp2_with fail
              refine (rrebase_any A4 n4 c4 v ls _ HL5.out HH4.out HK4.out).mono ?_
              rewrite [HE.out]
              rintro e w6 ⟨v6, y6, rfl, hm6, hO6, hb6⟩
              have HB6 := Lib.hid (HB5.out.trans (hb6.mono hs5))
              have hs6 := HB6.out.size
              have HO56 := Lib.hid (HO5.out.below hb6)
              obtain ⟨A6, c6, hv6⟩ := hO6.1
              obtain ⟨n6, hn6⟩ : ∃ k, y6.length = k := ⟨_, rfl⟩
              rw [hn6] at hv6
              subst hv6
              have HO6 := Lib.hid (hO6.is hn6)
              have HM6 := Lib.hid hm6
              have hl5 : n5 ≤ 1048576 := by
                have h1 := congrArg List.length HM5.out
                rw [List.length_map, HO5.out.len] at h1
                have h2 := HLr.out.len
                simp only [rebL] at h1
                split at h1 <;> simp at h1 <;> omega
              clear hb6 hm6 hO6 hn6 HO5 HB5 HL5
              go_wp2_with fail
              refine (samelist_any A5 A6 n5 c5 n6 c6 y5 y6 _ HO56.out HO6.out (HM5.out.trans HM6.out.symm) hl5).mono ?_
              rintro e w7 ⟨rfl, hb7⟩
              have HB7 := Lib.hid (HB6.out.trans (hb7.mono hs6))
              clear hb7
              go_wp2_with fail
              go_roundw
              case rel => exact ⟨k + 1, by omega, by go_num, H3.out.below HB7.out, HBr.out.trans (HB7.out.mono hsr)⟩
              case measure => simp [intOf]; omega
            · have hk33 : k = 3 := by omega
              subst hk33
              obtain ⟨w5, rfl⟩ : ∃ w5 : World, w5 = wr := ⟨_, rfl⟩
              have HB5 := Lib.hid (HB4.out.trans (HBr.out.mono hs4))
              have hs5 := HB5.out.size
              have HD5 := Lib.hid (HD4.out.below HBr.out)
              have HL5 := Lib.hid (HL4.out.below HBr.out)
              clear HBr H3 HL4 HD4 HB4 HH4 HK4 HX4 HM1 HM2 hk hk3 hsr hs4 hw1 m0 m1 r0 r1
              obtain ⟨F, cF, cG⟩ := frame_both ad (by omega)
              have HcF := Lib.hid cF
              have HcG := Lib.hid cG
              clear cF cG
              have h8 := tdiv_i64 (x := ad) (k := 8) (by omega) (by omega)
              have h8b : -1152921504606846976 ≤ ad.tdiv 8 ∧ ad.tdiv 8 ≤ 1152921504606846976 := by
                have := tdiv_half (x := ad) (k := 8) (by omega)
                omega
              go_wp2_with fail
              refine (lost_any A4 n4 c4 ls _ HL5.out (by omega)).mono ?_
              rintro e w6 ⟨v6, rfl, hown6, hb6⟩
              obtain ⟨A6, c6, hv6, -⟩ := own_form hown6
              subst hv6
              have HB6 := Lib.hid (HB5.out.trans (hb6.mono hs5))
              have hs6 := HB6.out.size
              have HL6 := Lib.hid (HL5.out.below hb6)
              have HD6 := Lib.hid (HD5.out.below hb6)
              have HZ6 := Lib.hid (Has.of_own hown6)
              clear hown6 hb6 HL5 HD5 HB5
              go_wp2_with fail
              refine (rlost_any A4 n4 c4 ls _ HL6.out (by omega)).mono ?_
              rintro e w7 ⟨v7, rfl, hown7, hb7⟩
              obtain ⟨A7, c7, hv7, -⟩ := own_form hown7
              subst hv7
              have HB7 := Lib.hid (HB6.out.trans (hb7.mono hs6))
              have hs7 := HB7.out.size
              have HD7 := Lib.hid (HD6.out.below hb7)
              have HZ67 := Lib.hid (HZ6.out.below hb7)
              have HZ7 := Lib.hid (Has.of_own hown7)
              have hlen4 := lostL_len ls n4
              clear hown7 hb7 HL6 HD6 HB6 HZ6
              go_wp2_with fail
              refine (ints_any A6 A7 _ c6 _ c7 (lostL ls n4) _ HZ67.out HZ7.out (by omega)).mono ?_
              rintro e w8 ⟨rfl, hb8⟩
              have HB8 := Lib.hid (HB7.out.trans (hb8.mono hs7))
              have hs8 := HB8.out.size
              have HD8 := Lib.hid (HD7.out.below hb8)
              clear hb8 HD7 HB7 HZ67 HZ7
              go_wp2_with fail
              refine (HcF.out _).mono ?_
              rintro e w' ⟨rfl, rfl⟩
              go_wp2_with fail
              refine (HcG.out _).mono ?_
              rintro e w' ⟨rfl, rfl⟩
              go_wp2_with fail
              refine (first_wide (ad.tdiv 8) _ h8b).mono ?_
              rintro e w' ⟨rfl, rfl⟩
              go_wp2_with fail
              refine (rfirst_wide (ad.tdiv 8) _ h8b).mono ?_
              rintro e w' ⟨rfl, rfl⟩
              go_wp2_with fail
              refine (held_any w0.heap.size _ HD8.out).mono ?_
              rintro e w9 ⟨v1, v2, fs, xs2, rfl, ⟨A2, c2, hv1, hown⟩, hval, hlen, hO, hI, -, -, hb9⟩
              subst hv1
              obtain ⟨N, hN⟩ : ∃ N, fs.length = N := ⟨_, rfl⟩
              obtain ⟨m, hm⟩ : ∃ m, xs2.length = m := ⟨_, rfl⟩
              obtain ⟨A3, c3', hv2⟩ := hO.1
              rw [hm] at hv2
              subst hv2
              have hN1 := (validF_get hval).2.1
              rw [hN] at hown hlen hI hN1
              rw [hN]
              have HB9 := Lib.hid (HB8.out.trans (hb9.below hs8 hs))
              have hs9 := HB9.out.size
              have HF := Lib.hid (Has.of_own hown)
              have HP := Lib.hid (hO.is hm)
              have HN := Lib.hid hN
              have HV := Lib.hid hval
              have HI := Lib.hid hI
              have HS := Lib.hid (inv_small hI)
              clear hown hval hO hI hb9 hN hm HB8 HD8 hs8 h8 h8b HcF HcG
              obtain ⟨x0, x1⟩ := mod_range fr ((N : Int) + 2) (by omega)
              obtain ⟨X1, hX1⟩ : ∃ x, mod fr ((N : Int) + 2) = x := ⟨_, rfl⟩
              rw [hX1] at x0 x1
              obtain ⟨y0, y1⟩ := mod_range tz ((N : Int) + 2) (by omega)
              obtain ⟨X2, hX2⟩ : ∃ x, mod tz ((N : Int) + 2) = x := ⟨_, rfl⟩
              rw [hX2] at y0 y1
              obtain ⟨X3, hX3⟩ : ∃ x, mod fr (N : Int) = x := ⟨_, rfl⟩
              obtain ⟨X4, hX4⟩ : ∃ x, freeF fs = x := ⟨_, rfl⟩
              have HX1 := Lib.hid hX1
              have HX2 := Lib.hid hX2
              have HX3 := Lib.hid hX3
              have HX4 := Lib.hid hX4
              clear hX1 hX2 hX3 hX4
              have hw1 := IntWalk.i64_in ((N : Int) + 2) (by omega)
              have hw2 := IntWalk.i64_in (X1 - 1) (by omega)
              have hw3 := IntWalk.i64_in (X2 - 1) (by omega)
              go_wp2_with fail
              refine (mod_any fr ((N : Int) + 2) _ (by omega)).mono ?_
              rewrite [HX1.out]
              rintro e w' ⟨rfl, rfl⟩
              go_wp2_with fail
              refine (mod_any tz ((N : Int) + 2) _ (by omega)).mono ?_
              rewrite [HX2.out]
              rintro e w' ⟨rfl, rfl⟩
              go_wp2_with fail
              refine (mod_any fr (N : Int) _ (by omega)).mono ?_
              rewrite [HX3.out]
              rintro e w' ⟨rfl, rfl⟩
              go_wp2_with fail
              refine (rfree_any _ N c2 fs _ HF.out (by omega)).mono ?_
              rewrite [HX4.out]
              rintro e wa ⟨rfl, hba⟩
              have HBa := Lib.hid (HB9.out.trans (hba.mono hs9))
              have hsa := HBa.out.size
              have HFa := Lib.hid (HF.out.below hba)
              have HPa := Lib.hid (HP.out.below hba)
              clear hba HF HP HB9 HX1 HX2 HX3 HX4
              go_wp2_with fail
              go_loopw [210] (fun i wr => ∃ k : Nat, k ≤ 3 ∧ i = .int .i64 k ∧ Hid (Six wr wa.heap.size [fr, tz, X1 - 1, X2 - 1, X3, X4]) ∧ Hid (Below wa.heap.size wa wr)) (fun i _ => 3 - (intOf i).toNat)
              case atStart =>
                refine ⟨0, by omega, rfl, ⟨by simp, rfl, ?_⟩, ?_⟩
                · intro k hk
                  rcases (show k = 0 ∨ k = 1 ∨ k = 2 ∨ k = 3 ∨ k = 4 ∨ k = 5 by omega) with rfl | rfl | rfl | rfl | rfl | rfl <;> simp [go_sem]
                · show Below _ _ _
                  (repeat' (first | (with_reducible exact Below.refl _ _) | (with_reducible assumption) | (with_reducible refine Below.alloc ?_ ?_ _) | (with_reducible refine Below.drew ?_) | (with_reducible refine below_drewN ?_ _) | (with_reducible refine Below.setCell ?_ ?_ _) | (with_reducible exact Nat.le_refl _) | omega | (simp <;> omega)))
              case round =>
                obtain ⟨k, hk, rfl, H6, HBr⟩ := hrel
                have hsr := HBr.out.size
                by_cases hk3 : k < 3
                · have hk3' : (k : Int) < 3 := by omega
                  have hk0 : (0 : Int) ≤ (k : Int) := by omega
                  obtain ⟨x, y, hx, hy⟩ := H6.out.at_ hk3
                  have hbr := HBr.out
                  obtain ⟨E, hE⟩ : ∃ E, followE fs (xs2.map PrV.P) x y = E := ⟨_, rfl⟩
                  obtain ⟨FF, hFF⟩ : ∃ E, followF fs (xs2.map PrV.P) x y = E := ⟨_, rfl⟩
                  have hFl := follow_len fs (xs2.map PrV.P) x y
                  rw [hFF, HN.out] at hFl
                  have HE := Lib.hid hE
                  have HFF := Lib.hid hFF
                  clear hE hFF
                  go_wp2_with fail
                  refine (follow_any A2 N c2 fs A3 m c3' xs2 x y _ (HFa.out.below (show Below wa.heap.size wa _ by (repeat' (first | (with_reducible exact Below.refl _ _) | (with_reducible assumption) | (with_reducible refine Below.alloc ?_ ?_ _) | (with_reducible refine Below.drew ?_) | (with_reducible refine below_drewN ?_ _) | (with_reducible refine Below.setCell ?_ ?_ _) | (with_reducible exact Nat.le_refl _) | omega | (simp <;> omega))))) (HPa.out.below (show Below wa.heap.size wa _ by (repeat' (first | (with_reducible exact Below.refl _ _) | (with_reducible assumption) | (with_reducible refine Below.alloc ?_ ?_ _) | (with_reducible refine Below.drew ?_) | (with_reducible refine below_drewN ?_ _) | (with_reducible refine Below.setCell ?_ ?_ _) | (with_reducible exact Nat.le_refl _) | omega | (simp <;> omega))))) HV.out HI.out).mono ?_
                  rintro e wb ⟨v5, u5, ys5, rfl, ⟨A5, c5, hv5, hown5⟩, hm5, hO5, hb5⟩
                  rewrite [HE.out]
                  obtain ⟨n5, hn5⟩ : ∃ k, FF.length = k := ⟨_, rfl⟩
                  rw [HFF.out, hn5] at hv5 hown5
                  rw [hn5] at hFl
                  subst hv5
                  obtain ⟨m5, hm5l⟩ : ∃ k, ys5.length = k := ⟨_, rfl⟩
                  obtain ⟨A6, c6, hv6⟩ := hO5.1
                  rw [hm5l] at hv6
                  subst hv6
                  obtain ⟨q1, -⟩ := bkeep hb5 wr.heap.size (by (first | (with_reducible exact Nat.le_refl _) | (with_reducible assumption) | omega | (simp <;> omega)))
                  have lb : wr.heap.size < wb.heap.size := Nat.lt_of_lt_of_le (by simp) hb5.size
                  have HBb := Lib.hid ((show Below wr.heap.size wr _ by (repeat' (first | (with_reducible exact Below.refl _ _) | (with_reducible assumption) | (with_reducible refine Below.alloc ?_ ?_ _) | (with_reducible refine Below.drew ?_) | (with_reducible refine below_drewN ?_ _) | (with_reducible refine Below.setCell ?_ ?_ _) | (with_reducible exact Nat.le_refl _) | omega | (simp <;> omega)))).trans (hb5.mono (show wr.heap.size ≤ _ by (first | (with_reducible exact Nat.le_refl _) | (with_reducible assumption) | omega | (simp <;> omega)))))
                  have hsb := HBb.out.size
                  have HF5 := Lib.hid (Has.of_own hown5)
                  have HP5 := Lib.hid (hO5.is hm5l)
                  have HM5 := Lib.hid hm5
                  have Hn5 := Lib.hid hn5
                  have hbb : Below wa.heap.size wa wb := hbr.trans (HBb.out.mono hsr)
                  have HFb := Lib.hid (HFa.out.below hbb)
                  have HPb := Lib.hid (HPa.out.below hbb)
                  clear hown5 hm5 hO5 hb5 hm5l hn5 hbb hbr
                  go_wp2_with fail
                  refine (rfollow_any A2 N c2 fs A3 m c3' xs2 x y _ HFb.out HPb.out HV.out HI.out).mono ?_
                  rintro e wd ⟨v7, u7, ys7, rfl, ⟨A7, c7, hv7, hown7⟩, hm7, hO7, hb7⟩
                  rewrite [HE.out]
                  rw [HFF.out, Hn5.out] at hv7 hown7
                  subst hv7
                  obtain ⟨m7, hm7l⟩ : ∃ k, ys7.length = k := ⟨_, rfl⟩
                  obtain ⟨A8, c8, hv8⟩ := hO7.1
                  rw [hm7l] at hv8
                  subst hv8
                  have HBd := Lib.hid (HBb.out.trans (hb7.mono hsb))
                  have hsd := HBd.out.size
                  have HF57 := Lib.hid (HF5.out.below hb7)
                  have HP57 := Lib.hid (HP5.out.below hb7)
                  have HF7 := Lib.hid (Has.of_own hown7)
                  have HP7 := Lib.hid (hO7.is hm7l)
                  have HM7 := Lib.hid hm7
                  clear hown7 hm7 hO7 hb7 hm7l HF5 HP5 HBb HFb HPb q1 lb hsb
                  go_wp2_with fail
                  refine (frsame_any A5 A7 n5 c5 n5 c7 FF _ HF57.out HF7.out (by omega)).mono ?_
                  rintro e wf ⟨rfl, hbf⟩
                  have HBf := Lib.hid (HBd.out.trans (hbf.mono hsd))
                  have hsf := HBf.out.size
                  have HPf := Lib.hid (HP57.out.below hbf)
                  have HPg := Lib.hid (HP7.out.below hbf)
                  clear hbf HBd HP57 HP7 HF57 HF7
                  go_wp2_with fail
                  refine (psame_any A6 A8 m5 c6 m7 c8 ys5 ys7 _ HPf.out HPg.out (HM5.out.trans HM7.out.symm) (follow_small HI.out HM5.out)).mono ?_
                  rintro e wg ⟨rfl, hbg⟩
                  have HBg := Lib.hid (HBf.out.trans (hbg.mono hsf))
                  clear hbg HBf
                  go_wp2_with fail
                  go_roundw
                  case rel => exact ⟨k + 1, by omega, by go_num, H6.out.below HBg.out, HBr.out.trans (HBg.out.mono hsr)⟩
                  case measure => simp [intOf]; omega
                · have hk33 : k = 3 := by omega
                  subst hk33
                  go_wp2_with fail
                  refine (mawake_any _).mono ?_
                  rintro e wz ⟨rfl, hbz⟩
                  go_wp2_with fail
                  go_ret
                  exact ⟨rfl, HBa.out.trans ((HBr.out.mono hsa).trans (hbz.mono (Nat.le_trans hsa hsr)))⟩
  · by_cases q1 : n ≤ 20
    · have q1' : (n : Int) ≤ 20 := by omega
      by_cases q2 : n1 ≤ 400
      · have hrr : ad < -1152921504606846976 ∨ (-1152921504606846976 ≤ ad ∧ 1152921504606846976 < ad) := by omega
        clear hg
        rcases hrr with r1 | ⟨r1, r2⟩
        all_goals
          go_enter Try.func3, Try.ntmps3
          go_wp2_with fail
          refine (light_yes A1 n1 c1 _ q2).mono ?_
          rintro e w' ⟨rfl, rfl⟩
          go_wp2_with fail
          refine (mawake_any _).mono ?_
          rintro e w7 ⟨rfl, hb7⟩
          go_wp2_with fail
          go_ret
          exact ⟨rfl, hb7⟩
      · clear hg
        go_enter Try.func3, Try.ntmps3
        go_wp2_with fail
        refine (light_no A1 n1 c1 _ q2).mono ?_
        rintro e w' ⟨rfl, rfl⟩
        go_wp2_with fail
        refine (mawake_any _).mono ?_
        rintro e w7 ⟨rfl, hb7⟩
        go_wp2_with fail
        go_ret
        exact ⟨rfl, hb7⟩
    · have q1' : (20 : Int) < (n : Int) := by omega
      clear hg
      go_enter Try.func3, Try.ntmps3
      go_wp2_with fail
      refine (mawake_any _).mono ?_
      rintro e w7 ⟨rfl, hb7⟩
      go_wp2_with fail
      go_ret
      exact ⟨rfl, hb7⟩
end Go.Proofs.Ytjlmgjpnfppkoaa
