/-
  Frames and programs made of dice, walked: both are valid, and pages have frames that are clean or dirty.
-/
import Derived.LoopTactic
import Derived.Test.YtjlmgjpnfppkoaaMProgs
import Derived.Test.YtjlmgjpnfppkoaaPgMath
namespace Go.Proofs.Ytjlmgjpnfppkoaa
open Go.RowKit
attribute [local go_sem ↓] Go.wp_at_zero Go.wp_at_succ

theorem validF_put {fs : List FrD} (h : validF fs = true) (k : Nat) {s b : Int} (hf : fitB s b = true) : validF (fs.set k ⟨s, b⟩) = true := by
  obtain ⟨h1, h2, h3⟩ := validF_get h
  refine validF_of (fun f hm => ?_) (by rw [List.length_set]; exact h2) (by rw [List.length_set]; exact h3)
  rcases List.mem_or_eq_of_mem_set hm with hm | hm
  · exact h1 f hm
  · subst hm; exact hf
theorem getD_put_same {fs : List FrD} {k : Nat} (hk : k < fs.length) (x : FrD) : (fs.set k x).getD k FrD.zero = x := by
  simp [List.getD, hk]
theorem getD_put_other {fs : List FrD} {k j : Nat} (hne : k ≠ j) (x : FrD) : (fs.set k x).getD j FrD.zero = fs.getD j FrD.zero := by
  simp [List.getD, hne]
/-- A store into a row of frames leaves the programs as they are. -/
theorem OwnProgs.far {w : World} {B B' g n c i : Nat} {v : Value} {xs : List PrV} {ys : List Value} {u : Value} (h : OwnProgs w B v xs) (hr : w.ownsRow B' 54 2 (.slice (some ⟨g, 0, none⟩) n c) n ys) : OwnProgs (w.setCell ⟨g, i, none⟩ u) B v xs := by
  obtain ⟨A, c', hv⟩ := h.1
  refine ⟨h.1, ?_, fun x hx => ⟨ownsRow_setCell_far (h.2.2 x hx).1 (far_of' (h.2.2 x hx).1 hr (by decide)) _, ownsRow_setCell_far (h.2.2 x hx).2 (far_of' (h.2.2 x hx).2 hr (by decide)) _⟩⟩
  have h2 := h.2.1
  rw [hv] at h2 ⊢
  exact ownsRow_setCell_far h2 (far_of' h2 hr (by decide)) _
/-- Each frame that a page has is clean or dirty. -/
def HeldOk (fs : List FrD) (ps : List PrD) : Prop := ∀ k : Nat, k < fs.length → usersN ps k ≠ 0 → (fs.getD k FrD.zero).st = 1 ∨ (fs.getD k FrD.zero).st = 2

set_option maxRecDepth 100000 in
set_option maxHeartbeats 8000000 in
theorem held_any (g : Nat) (w : World) (hD : DiceOk w g) :
    Calls Try.prog 31 #[.pointer (some ⟨g, 0, none⟩)] w fun e w' => ∃ v1 v2 fs xs, e = .returned (.tuple #[v1, v2]) ∧ OwnFrs w' w.heap.size v1 fs ∧ validF fs = true ∧ fs.length ≤ 10 ∧ OwnProgs w' w.heap.size v2 xs ∧ Inv fs.length (xs.map PrV.P) ∧ HeldOk fs (xs.map PrV.P) ∧ DiceOk w' g ∧ But g w.heap.size w w' := by
  have HD := Lib.hid hD
  have hg := hD.lt
  clear hD
  go_enter Try.func31, Try.ntmps31
  go_wp2_with fail
  refine (frames_any _ _ HD.out).mono ?_
  rintro e w1 ⟨v1, fs0, rfl, ⟨A1, c1, hv1, hown1⟩, hval1, hlen1, hD1, hb1⟩
  subst hv1
  have hs1 := hb1.size
  have HB1 := Lib.hid hb1
  have HD1 := Lib.hid hD1
  have Hval1 := Lib.hid hval1
  obtain ⟨hn1, -⟩ := (validF_get hval1).2
  obtain ⟨n, hn⟩ : ∃ n, fs0.length = n := ⟨_, rfl⟩
  rw [hn] at hown1 hlen1 hn1
  rw [hn]
  obtain ⟨q, rfl, hq1, hq2⟩ := own_some hown1 (by omega)
  have HO1 := Lib.hid hown1
  have Hn := Lib.hid hn
  clear hown1 hb1 hD1 hval1 hn HD
  go_wp2_with fail
  refine (programs_any g n _ HD1.out (by omega)).mono ?_
  rintro e w2 ⟨v2, xs, rfl, hO2, hI2, hD2, hb2⟩
  have HO2 := Lib.hid (hO2.base hs1)
  have HF2 := Lib.hid (row_but HO1.out hb2 hg)
  have HB2 := Lib.hid (HB1.out.trans (hb2.mono hs1))
  have HD2 := Lib.hid hD2
  have HI2 := Lib.hid hI2
  obtain ⟨m, hm⟩ : ∃ m, xs.length = m := ⟨_, rfl⟩
  obtain ⟨A2, c2, hv2⟩ := HO2.out.1
  rw [hm] at hv2
  subst hv2
  have Hm := Lib.hid hm
  have HS := Lib.hid (inv_small hI2)
  clear hO2 hI2 hD2 hb2 hm
  go_wp2_with fail
  go_loopw [15] (fun i wr => ∃ (k : Nat) (fs : List FrD), k ≤ n ∧ i = .int .i64 k ∧ Hid (fs.length = n) ∧ Hid (validF fs = true) ∧ Hid (∀ j : Nat, j < k → usersN (xs.map PrV.P) j ≠ 0 → (fs.getD j FrD.zero).st = 1 ∨ (fs.getD j FrD.zero).st = 2) ∧ Hid (wr.ownsRow w.heap.size 54 2 (.slice (some ⟨q, 0, none⟩) n c1) n (frVals fs)) ∧ Hid (OwnProgs wr w.heap.size (.slice A2 m c2) xs) ∧ Hid (DiceOk wr g) ∧ Hid (But g w.heap.size w wr)) (fun i _ => n - (intOf i).toNat)
  case atStart => exact ⟨0, fs0, by omega, rfl, Hn.out, Hval1.out, fun j hj => absurd hj (by omega), HF2.out, HO2.out, HD2.out, HB2.out⟩
  case round =>
    obtain ⟨k, fs, hk, rfl, Hl, Hv, Hst, HF, HO, HDr, HB⟩ := hrel
    have hs := HB.out.size
    by_cases hlt : k < n
    · have hlt' : (k : Int) < (n : Int) := by omega
      have hk0 : (0 : Int) ≤ (k : Int) := by omega
      obtain ⟨U, hU⟩ : ∃ U, usersN (xs.map PrV.P) (k : Int) = U := ⟨_, rfl⟩
      have HU := Lib.hid hU
      clear hU
      go_wp2_with fail
      refine (rusers_any A2 m c2 (k : Int) xs _ (HO.out.is Hm.out) HS.out).mono ?_
      rewrite [HU.out]
      rintro e w3 ⟨A3, c3, rfl, hb3⟩
      have HF3 := Lib.hid (ownsRow_below HF.out hb3)
      have HO3 := Lib.hid (HO.out.below hb3)
      have HD3 := Lib.hid (HDr.out.below hb3)
      have HB3 := Lib.hid (HB.out.and_below (hb3.mono hs))
      clear hb3
      have hrel2 : ∀ fs' : List FrD, (∀ j : Nat, j < k → fs'.getD j FrD.zero = fs.getD j FrD.zero) → (U ≠ 0 → (fs'.getD k FrD.zero).st = 1 ∨ (fs'.getD k FrD.zero).st = 2) → ∀ j : Nat, j < k + 1 → usersN (xs.map PrV.P) j ≠ 0 → (fs'.getD j FrD.zero).st = 1 ∨ (fs'.getD j FrD.zero).st = 2 := by
        intro fs' h1 h2 j hj hu
        by_cases hjk : j = k
        · subst hjk
          rw [HU.out] at hu
          exact h2 hu
        · rw [h1 j (by omega)]
          exact Hst.out j (by omega) hu
      have Hrel2 := Lib.hid hrel2
      clear hrel2
      by_cases hU0 : 0 < U
      · have hU0' : (0 : Int) < (U : Int) := by omega
        obtain ⟨gg, oo, ee, -, y0, y1⟩ := (Has.of_own HF3.out).frame_at hlt
        injection ee with ee
        injection ee with ee1 ee2
        subst ee1 ee2
        simp only [Nat.zero_add] at y0 y1
        obtain ⟨⟨S, C⟩, hf⟩ : ∃ f, fs.getD k FrD.zero = f := ⟨_, rfl⟩
        rw [hf] at y0 y1
        dsimp only at y0 y1
        have Hf := Lib.hid hf
        have f0 := own_frozen HF3.out (k * 2)
        have f1 := own_frozen HF3.out (k * 2 + 1)
        clear hf
        by_cases hS : S = 1
        · subst hS
          go_wp2_with fail
          go_roundw
          case rel => exact ⟨k + 1, fs, by omega, by go_num, Hl.out, Hv.out, Hrel2.out fs (fun _ _ => rfl) (fun _ => by rw [Hf.out]; exact .inl rfl), HF3.out, HO3.out, HD3.out, HB3.out⟩
          case measure => simp [intOf]; omega
        · have hS' : (S == 1) = false := by simp [hS]
          go_wp2_with fail
          go_roundw
          case rel =>
            have h2 := own_set (own_set HF3.out (k * 2) (.int .i64 2)) (k * 2 + 1) (.int .i64 0)
            rw [show ((frVals fs).set (k * 2) (.int .i64 2)).set (k * 2 + 1) (.int .i64 0) = frVals (fs.set k ⟨2, 0⟩) from frVals_set fs k ⟨2, 0⟩] at h2
            refine ⟨k + 1, fs.set k ⟨2, 0⟩, by omega, by go_num, by show _ = _; rw [List.length_set]; exact Hl.out, validF_put Hv.out k (by decide), Hrel2.out _ (fun j hj => getD_put_other (show k ≠ j by omega) _) (fun _ => .inr (by rw [getD_put_same (by rw [Hl.out]; exact hlt)])), h2, ?_, ?_, ?_⟩
            · exact (HO3.out.far HF3.out).far (own_set HF3.out (k * 2) (.int .i64 2))
            · exact (HD3.out.put (by show g < q; omega) _).put (by show g < q; omega) _
            · exact (HB3.out.setCell (.inl (by show w.heap.size ≤ q; omega)) _).setCell (.inl (by show w.heap.size ≤ q; omega)) _
          case measure => simp [intOf]; omega
      · have hU00 : U = 0 := by omega
        subst hU00
        go_wp2_with fail
        go_roundw
        case rel => exact ⟨k + 1, fs, by omega, by go_num, Hl.out, Hv.out, Hrel2.out fs (fun _ _ => rfl) (fun h => absurd rfl h), HF3.out, HO3.out, HD3.out, HB3.out⟩
        case measure => simp [intOf]; omega
    · have hkn : n ≤ k := by omega
      have hkn' : (n : Int) ≤ (k : Int) := by omega
      clear hlt
      go_wp2_with fail
      refine bodyPost_ret (v := .tuple #[.slice (some ⟨q, 0, none⟩) n c1, .slice A2 m c2]) (by simp [results, Try.results31, go_sem]) rfl ?_
      have hl := Hl.out
      exact ⟨_, _, fs, xs, rfl, ⟨_, c1, by rw [hl], by rw [hl]; exact HF.out⟩, Hv.out, by omega, HO.out, by rw [hl]; exact HI2.out, fun j hj => Hst.out j (by omega), HDr.out, HB.out⟩
end Go.Proofs.Ytjlmgjpnfppkoaa
