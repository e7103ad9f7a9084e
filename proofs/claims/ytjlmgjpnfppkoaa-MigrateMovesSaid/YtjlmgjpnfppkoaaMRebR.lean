/-
  The reference's lines of a frame as those of another one: walked.
-/
import Derived.LoopTactic
import Derived.Test.YtjlmgjpnfppkoaaMWords
namespace Go.Proofs.Ytjlmgjpnfppkoaa
open Go.RowKit
attribute [local go_sem ↓] Go.wp_at_zero Go.wp_at_succ

theorem ordB_neg {xs : List LineV} (h : (xs.getD 0 LineV.zero).L.addr < 0) : ordB xs = false := by
  unfold ordB
  have : decide (0 ≤ (xs.getD 0 LineV.zero).L.addr ∧ (xs.getD 0 LineV.zero).L.addr / 4 < 64) = false := decide_eq_false (by omega)
  rw [this]; simp
theorem ordB_mod {xs : List LineV} (h : ((xs.getD 0 LineV.zero).L.addr.tmod 4 == 0) = false) : ordB xs = false := by
  unfold ordB
  rw [h]; simp
theorem ordB_big {xs : List LineV} (h : 64 ≤ (xs.getD 0 LineV.zero).L.addr / 4) : ordB xs = false := by
  unfold ordB
  have : decide (0 ≤ (xs.getD 0 LineV.zero).L.addr ∧ (xs.getD 0 LineV.zero).L.addr / 4 < 64) = false := decide_eq_false (by omega)
  rw [this]; simp

set_option maxRecDepth 100000 in
set_option maxHeartbeats 16000000 in
theorem rrebase_any (A : Option Addr) (n c : Nat) (to : Int) (xs : List LineV) (w : World) (h : IsLines w A n xs) (hr : (xs.getD 0 LineV.zero).L.addr ≤ 9223372036854775807) (hd : ∀ x ∈ xs, x.L.data.length ≤ 1048576) :
    Calls Try.prog 22 #[.slice A n c, .int .i64 to] w fun e w' => ∃ v ys, e = .returned (.tuple #[v, .int .i64 (rebE xs to)]) ∧ ys.map LineV.L = rebL xs to ∧ OwnLines w' w.heap.size v ys ∧ Below w.heap.size w w' := by
  have Hl := Lib.hid h.len
  have HI := Lib.hid h
  clear h
  by_cases h4 : n = 4
  · subst h4
    obtain ⟨F, hF⟩ : ∃ F, (xs.getD 0 LineV.zero).L.addr = F := ⟨_, rfl⟩
    rw [hF] at hr
    have HF := Lib.hid hF
    obtain ⟨b, off, rfl, hb, c0, -⟩ := HI.out.at_ (k := 0) (by omega)
    rw [hF] at c0
    simp only [Nat.zero_mul, Nat.add_zero] at c0
    clear hF
    go_enter Try.func22, Try.ntmps22
    go_wp2_with fail
    go_loopw [17] (fun i wr => ∃ k : Nat, k ≤ 4 ∧ i = .int .i64 k ∧ Hid (∀ j, j < k → (xs.getD j LineV.zero).L.addr = IntKind.i64.wrap (F + j)) ∧ Hid (0 < k → 0 ≤ F ∧ F.tmod 4 = 0 ∧ F / 4 < 64) ∧ Below w.heap.size w wr) (fun i _ => 4 - (intOf i).toNat)
    case atStart => exact ⟨0, by omega, rfl, fun j hj => absurd hj (by omega), fun hj => absurd hj (by omega), Below.refl _ _⟩
    case round =>
      obtain ⟨k, hk, rfl, Hb, Hf, hB⟩ := hrel
      have hsz := hB.size
      by_cases hlt : k < 4
      · obtain ⟨b', off', e', -, d0, d1, d2, d3, -⟩ := HI.out.at_ hlt
        injection e' with e'
        injection e' with e1 e2
        subst e1 e2
        have g0 := cellK hB hb d0
        have g1 := cellK hB hb d1
        have g2 := cellK hB hb d2
        have g3 := cellK hB hb d3
        have gf := cellK hB hb c0
        obtain ⟨x, hx⟩ : ∃ x, xs.getD k LineV.zero = x := ⟨_, rfl⟩
        rw [hx] at g0 g1 g2 g3
        obtain ⟨V, hV⟩ : ∃ V, IntKind.i64.wrap (F + k) = V := ⟨_, rfl⟩
        have Hx := Lib.hid hx
        obtain ⟨⟨a, bs, d, p⟩, A2, c2⟩ := x
        dsimp only at g0 g1 g2 g3
        have hlt' : (k : Int) < 4 := by omega
        have hb1 : b < wr.heap.size := by omega
        clear d0 d1 d2 d3 hx
        by_cases ha : a = V
        · subst ha
          have hne : (a != a) = false := by simp
          by_cases hF0 : F < 0
          · have hE : rebE xs to = 17 := by simp [rebE, Hl.out, ordB_neg (by rw [HF.out]; exact hF0)]
            have hL : rebL xs to = [] := by simp [rebL, hE]
            have HE := Lib.hid hE
            have HL := Lib.hid hL
            have hd0 : decide (F < 0) = true := by simpa using hF0
            clear hE hL
            go_wp2_with fail
            go_quiet (fail)
            go_wp2_with fail
            go_ret2
            exact ⟨_, [], by rw [HE.out]; rfl, by rw [HL.out]; rfl, OwnLines.nil_ _ _, by (repeat' (first | (with_reducible exact Below.refl _ _) | (with_reducible assumption) | (with_reducible refine Below.alloc ?_ ?_ _) | (with_reducible refine Below.drew ?_) | (with_reducible refine below_drewN ?_ _) | (with_reducible refine Below.setCell ?_ ?_ _) | (with_reducible exact Nat.le_refl _) | omega | (simp <;> omega)))⟩
          · have hd0 : decide (F < 0) = false := by simpa using hF0
            cases hm : (F.tmod 4 == 0)
            · have hE : rebE xs to = 17 := by simp [rebE, Hl.out, ordB_mod (by rw [HF.out]; exact hm)]
              have hL : rebL xs to = [] := by simp [rebL, hE]
              have HE := Lib.hid hE
              have HL := Lib.hid hL
              have hm' : (F.tmod 4 != 0) = true := by simp [bne, hm]
              clear hE hL
              go_wp2_with fail
              go_quiet (fail)
              go_wp2_with fail
              go_ret2
              exact ⟨_, [], by rw [HE.out]; rfl, by rw [HL.out]; rfl, OwnLines.nil_ _ _, by (repeat' (first | (with_reducible exact Below.refl _ _) | (with_reducible assumption) | (with_reducible refine Below.alloc ?_ ?_ _) | (with_reducible refine Below.drew ?_) | (with_reducible refine below_drewN ?_ _) | (with_reducible refine Below.setCell ?_ ?_ _) | (with_reducible exact Nat.le_refl _) | omega | (simp <;> omega)))⟩
            · have hm' : (F.tmod 4 != 0) = false := by simp [bne, hm]
              by_cases h64 : 64 ≤ F / 4
              · have hE : rebE xs to = 17 := by simp [rebE, Hl.out, ordB_big (by rw [HF.out]; exact h64)]
                have hL : rebL xs to = [] := by simp [rebL, hE]
                have HE := Lib.hid hE
                have HL := Lib.hid hL
                have h64' : decide (64 ≤ F / 4) = true := by simpa using h64
                clear hE hL
                go_wp2_with fail
                go_quiet ((go_at_call 28; first | exact quiet_add_left (rframe_pos _ _ (by omega) hr) | exact quiet_left (rframe_pos _ _ (by omega) hr)))
                go_wp2_with fail
                go_ret2
                exact ⟨_, [], by rw [HE.out]; rfl, by rw [HL.out]; rfl, OwnLines.nil_ _ _, by (repeat' (first | (with_reducible exact Below.refl _ _) | (with_reducible assumption) | (with_reducible refine Below.alloc ?_ ?_ _) | (with_reducible refine Below.drew ?_) | (with_reducible refine below_drewN ?_ _) | (with_reducible refine Below.setCell ?_ ?_ _) | (with_reducible exact Nat.le_refl _) | omega | (simp <;> omega)))⟩
              · have h64' : decide (64 ≤ F / 4) = false := by simpa using h64
                go_wp2_with fail
                go_quiet ((go_at_call 28; first | exact quiet_add_left (rframe_pos _ _ (by omega) hr) | exact quiet_left (rframe_pos _ _ (by omega) hr)))
                have HV := Lib.hid hV
                clear hV
                go_wp2_with fail
                go_roundw
                case rel =>
                  refine ⟨k + 1, by omega, by go_num, fun j hj => ?_, fun _ => ⟨by omega, by simpa using hm, by omega⟩, by (repeat' (first | (with_reducible exact Below.refl _ _) | (with_reducible assumption) | (with_reducible refine Below.alloc ?_ ?_ _) | (with_reducible refine Below.drew ?_) | (with_reducible refine below_drewN ?_ _) | (with_reducible refine Below.setCell ?_ ?_ _) | (with_reducible exact Nat.le_refl _) | omega | (simp <;> omega)))⟩
                  by_cases hjk : j = k
                  · rw [hjk, Hx.out, HV.out]
                  · exact Hb.out j (by omega)
                case measure => simp [intOf]; omega
        · have ha' : (a != V) = true := by simp [ha]
          have hE : rebE xs to = 17 := by
            have : ordB xs = false := ordB_false (j := k) (by rw [Hl.out]; exact hlt) (by rw [HF.out, Hx.out, hV]; exact ha)
            simp [rebE, Hl.out, this]
          have hL : rebL xs to = [] := by simp [rebL, hE]
          have HE := Lib.hid hE
          have HL := Lib.hid hL
          have HV := Lib.hid hV
          clear hE hL
          go_wp2_with fail
          go_quiet (fail)
          go_wp2_with fail
          go_ret2
          exact ⟨_, [], by rw [HE.out]; rfl, by rw [HL.out]; rfl, OwnLines.nil_ _ _, by (repeat' (first | (with_reducible exact Below.refl _ _) | (with_reducible assumption) | (with_reducible refine Below.alloc ?_ ?_ _) | (with_reducible refine Below.drew ?_) | (with_reducible refine below_drewN ?_ _) | (with_reducible refine Below.setCell ?_ ?_ _) | (with_reducible exact Nat.le_refl _) | omega | (simp <;> omega)))⟩
      · have hk4 : k = 4 := by omega
        subst hk4
        clear hlt
        obtain ⟨hf0, hf1, hf2⟩ := Hf.out (by omega)
        have hord : ordB xs = true := by
          rw [ordB_rest (xs := xs) (fun j hj => by rw [HF.out]; exact Hb.out j (by rw [Hl.out] at hj; omega)), HF.out, hf1]
          simp
          omega
        cases ht : okTo to
        · have hE : rebE xs to = 2 := by simp [rebE, Hl.out, hord, ht]
          have hL : rebL xs to = [] := by simp [rebL, hE]
          have HE := Lib.hid hE
          have HL := Lib.hid hL
          have t2 : to < 0 ∨ 64 ≤ to := by simp [okTo] at ht; omega
          clear hE hL ht hord
          rcases t2 with t2 | t2
          · go_wp2_with fail
            go_ret2
            exact ⟨_, [], by rw [HE.out]; rfl, by rw [HL.out]; rfl, OwnLines.nil_ _ _, hB⟩
          · go_wp2_with fail
            go_ret2
            exact ⟨_, [], by rw [HE.out]; rfl, by rw [HL.out]; rfl, OwnLines.nil_ _ _, hB⟩
        · have hE : rebE xs to = 0 := by simp [rebE, Hl.out, hord, ht]
          have hL : rebL xs to = xs.mapIdx fun i x => ⟨4 * to + i, x.L.data, true, x.L.poison⟩ := by simp [rebL, hE]
          have HE := Lib.hid hE
          have HL := Lib.hid hL
          obtain ⟨t1, t2⟩ : 0 ≤ to ∧ to < 64 := by simpa [okTo] using ht
          have hw4 : IntKind.i64.wrap (4 * to) = 4 * to := IntWalk.i64_in _ (by omega)
          clear hE hL ht hord hf0 hf1 hf2
          go_wp2_with fail
          go_loopw [8, 63] (fun v i wr => ∃ (k : Nat) (ys : List LineV), k ≤ 4 ∧ i = .int .i64 k ∧ Hid (ys.map LineV.L = (xs.mapIdx fun i x => (⟨4 * to + i, x.L.data, true, x.L.poison⟩ : LineD)).take k) ∧ Hid (OwnLines wr w.heap.size v ys) ∧ Below w.heap.size w wr) (fun _ i _ => 4 - (intOf i).toNat)
          case atStart => exact ⟨0, [], by omega, rfl, by show _ = _; simp, OwnLines.nil_ _ _, hB⟩
          case round =>
            obtain ⟨k, ys, hk, rfl, Hy, HO, hB⟩ := hrel
            have hsz := hB.size
            by_cases hlt : k < 4
            · obtain ⟨b', off', e', -, d0, d1, d2, d3, d4⟩ := HI.out.at_ hlt
              injection e' with e'
              injection e' with e1 e2
              subst e1 e2
              have g0 := cellK hB hb d0
              have g1 := cellK hB hb d1
              have g2 := cellK hB hb d2
              have g3 := cellK hB hb d3
              have hdl : (xs.getD k LineV.zero).L.data.length ≤ 1048576 := by
                have hl : k < xs.length := by rw [Hl.out]; exact hlt
                have e : xs.getD k LineV.zero = xs[k] := by simp [List.getD, List.getElem?_eq_getElem hl]
                rw [e]
                exact hd _ (List.getElem_mem hl)
              obtain ⟨x, hx⟩ : ∃ x, xs.getD k LineV.zero = x := ⟨_, rfl⟩
              rw [hx] at g0 g1 g2 g3 d4 hdl
              have Hx := Lib.hid hx
              obtain ⟨⟨a, bs, d, p⟩, A2, c2⟩ := x
              dsimp only at g0 g1 g2 g3 hdl d4
              have H4 := Lib.hid (isLine_mk (c := c2) a d p (d4.below hB))
              have Hdl := Lib.hid hdl
              have hlt' : (k : Int) < 4 := by omega
              have hyl : ys.length ≤ 1048576 := by
                have := congrArg List.length Hy.out
                simp at this
                omega
              have Hyl := Lib.hid hyl
              clear d0 d1 d2 d3 d4 hx hdl hyl
              go_wp2_with fail
              refine (rcopy_any _ ⟨a, bs, d, p⟩ _ (H4.out.below (by (repeat' (first | (with_reducible exact Below.refl _ _) | (with_reducible assumption) | (with_reducible refine Below.alloc ?_ ?_ _) | (with_reducible refine Below.drew ?_) | (with_reducible refine below_drewN ?_ _) | (with_reducible refine Below.setCell ?_ ?_ _) | (with_reducible exact Nat.le_refl _) | omega | (simp <;> omega))))) Hdl.out).mono ?_
              rintro e w5 ⟨v5, rfl, ⟨A5, c5, rfl, hown⟩, hb5⟩
              dsimp only at hown ⊢
              have hs5 := hb5.size
              simp only [World.size_alloc] at hs5
              have hO5 := HO.out.below ((show Below wr.heap.size wr _ by (repeat' (first | (with_reducible exact Below.refl _ _) | (with_reducible assumption) | (with_reducible refine Below.alloc ?_ ?_ _) | (with_reducible refine Below.drew ?_) | (with_reducible refine below_drewN ?_ _) | (with_reducible refine Below.setCell ?_ ?_ _) | (with_reducible exact Nat.le_refl _) | omega | (simp <;> omega)))).trans (hb5.mono (show wr.heap.size ≤ _ by (first | (with_reducible exact Nat.le_refl _) | (with_reducible assumption) | omega | (simp <;> omega)))))
              have HO5 := Lib.hid hO5
              have HB5 := Lib.hid (hB.trans (((show Below wr.heap.size wr _ by (repeat' (first | (with_reducible exact Below.refl _ _) | (with_reducible assumption) | (with_reducible refine Below.alloc ?_ ?_ _) | (with_reducible refine Below.drew ?_) | (with_reducible refine below_drewN ?_ _) | (with_reducible refine Below.setCell ?_ ?_ _) | (with_reducible exact Nat.le_refl _) | omega | (simp <;> omega)))).trans (hb5.mono (show wr.heap.size ≤ _ by (first | (with_reducible exact Nat.le_refl _) | (with_reducible assumption) | omega | (simp <;> omega))))).mono hsz))
              have Hown := Lib.hid (ownsRow_base hown (show w.heap.size ≤ _ by (first | (with_reducible exact Nat.le_refl _) | (with_reducible assumption) | omega | (simp <;> omega))))
              have l5 : wr.heap.size < w5.heap.size := by omega
              clear hb5 hown hO5
              go_wp2_with (first
                | (go_at_call 30; refine (rfirst_any _ _ (by omega)).mono ?_; rintro e w' ⟨rfl, rfl⟩)
                | (at_builtin; refine wpList_append_line rfl (.tmp 76) (.tmp 78) rfl w.heap.size _ ys rfl (HO5.out.below (by (repeat' (first | (with_reducible exact Below.refl _ _) | (with_reducible assumption) | (with_reducible refine Below.alloc ?_ ?_ _) | (with_reducible refine Below.drew ?_) | (with_reducible refine below_drewN ?_ _) | (with_reducible refine Below.setCell ?_ ?_ _) | (with_reducible exact Nat.le_refl _) | omega | (simp <;> omega))))) _ _ ⟨⟨4 * to + k, bs, true, p⟩, A5, c5⟩ rfl (Has.lit_at _ _ _ 1 4 _ _ rfl (by (first | (with_reducible exact Nat.le_refl _) | (with_reducible assumption) | omega | (simp <;> omega))) rfl) (by have ho := Hown.out; (repeat' (first | (with_reducible assumption) | (with_reducible refine own_put ?_ ?_ _) | (with_reducible refine own_new ?_ _) | (with_reducible refine own_drew ?_) | (with_reducible refine own_drewN ?_ _) | omega))) Hyl.out (by (first | (with_reducible exact Nat.le_refl _) | (with_reducible assumption) | omega | (simp <;> omega))) ?_; intro v7 w7 hO7 hb7))
              go_roundw
              case rel =>
                have hb5 := HB5.out
                refine ⟨k + 1, ys ++ [⟨⟨4 * to + k, bs, true, p⟩, A5, c5⟩], by omega, by go_num, ?_, (show OwnLines w7 w.heap.size v7 _ from hO7), (show Below w.heap.size w _ by (repeat' (first | (with_reducible exact Below.refl _ _) | (with_reducible assumption) | (with_reducible refine Below.alloc ?_ ?_ _) | (with_reducible refine Below.drew ?_) | (with_reducible refine below_drewN ?_ _) | (with_reducible refine Below.setCell ?_ ?_ _) | (with_reducible exact Nat.le_refl _) | omega | (simp <;> omega)))).trans hb7⟩
                show _ = _
                have hl : k < xs.length := by rw [Hl.out]; exact hlt
                have e : xs[k]? = some ⟨⟨a, bs, d, p⟩, A2, c2⟩ := by
                  have := Hx.out
                  rw [List.getD, List.getElem?_eq_getElem hl] at this
                  rw [List.getElem?_eq_getElem hl]
                  simpa using this
                rw [List.map_append, Hy.out, List.take_add_one, List.getElem?_mapIdx, e]
                simp
              case measure => simp [intOf]; omega
            · have hge : 4 ≤ k := by omega
              clear hlt
              go_wp2_with fail
              go_ret2
              refine ⟨_, ys, by rw [HE.out]; rfl, ?_, HO.out, hB⟩
              rw [HL.out, Hy.out, List.take_of_length_le (by simp [Hl.out]; omega)]
  · have hE : rebE xs to = 7 := by simp [rebE, Hl.out, h4]
    have hL : rebL xs to = [] := by simp [rebL, hE]
    rewrite [hE, hL]
    clear hE hL
    go_enter Try.func22, Try.ntmps22
    go_wp2_with fail
    go_ret2
    exact ⟨_, [], rfl, rfl, OwnLines.nil_ _ _, by (repeat' (first | (with_reducible exact Below.refl _ _) | (with_reducible assumption) | (with_reducible refine Below.alloc ?_ ?_ _) | (with_reducible refine Below.drew ?_) | (with_reducible refine below_drewN ?_ _) | (with_reducible refine Below.setCell ?_ ?_ _) | (with_reducible exact Nat.le_refl _) | omega | (simp <;> omega)))⟩
end Go.Proofs.Ytjlmgjpnfppkoaa
