/-
  Programs, walked: comparing lists of programs that are the same.
-/
import Derived.LoopTactic
import Derived.Test.YtjlmgjpnfppkoaaPgUse
namespace Go.Proofs.Ytjlmgjpnfppkoaa
open Go.RowKit
attribute [local go_sem ↓] Go.wp_at_zero Go.wp_at_succ

set_option maxRecDepth 100000 in
set_option maxHeartbeats 8000000 in
theorem psame_any (A A' : Option Addr) (n c n' c' : Nat) (xs ys : List PrV) (w : World) (h : IsProgs w A n xs) (h' : IsProgs w A' n' ys) (he : xs.map PrV.P = ys.map PrV.P) (hs : Small xs) :
    Calls Try.prog 36 #[.slice A n c, .slice A' n' c'] w fun e w' => e = .returned (.bool true) ∧ Below w.heap.size w w' := by
  have hll : xs.length = ys.length := by have := congrArg List.length he; simpa using this
  obtain rfl : n = n' := h.len.symm.trans (hll.trans h'.len)
  have Hl := Lib.hid h.len
  have Hl' := Lib.hid h'.len
  have HI := Lib.hid h
  have HI' := Lib.hid h'
  have HE := Lib.hid he
  have HS := Lib.hid hs
  have hn : n ≤ 1000 := by have := h.len; have := hs.1; omega
  clear h h' hs he hll
  go_enter Try.func36, Try.ntmps36
  go_wp2_with fail
  go_loopw [19] (fun i wr => ∃ k : Nat, k ≤ n ∧ i = .int .i64 k ∧ Below w.heap.size w wr) (fun i _ => n - (intOf i).toNat)
  case atStart => exact ⟨0, by omega, rfl, Below.refl _ _⟩
  case round =>
    obtain ⟨k, hk, rfl, hB⟩ := hrel
    obtain ⟨wo, rfl⟩ : ∃ wo : World, wo = wr := ⟨_, rfl⟩
    have hsz := hB.size
    by_cases hlt : k < n
    · have hkl : k < xs.length := by rw [Hl.out]; exact hlt
      have hkl' : k < ys.length := by rw [Hl'.out]; exact hlt
      have hPP : (xs.getD k PrV.zero).P = (ys.getD k PrV.zero).P := by rw [← map_getD hkl, ← map_getD hkl', HE.out]
      obtain ⟨hpl, htl⟩ := HS.out.at_ hkl
      obtain ⟨b, off, rfl, hb, d0, d1, d2, d3, d4, hP, hT⟩ := HI.out.at_ hlt
      obtain ⟨b', off', rfl, hb', d0', d1', d2', d3', d4', hP', hT'⟩ := HI'.out.at_ hlt
      have g0 := cellK hB hb d0
      have g1 := cellK hB hb d1
      have g2 := cellK hB hb d2
      have g3 := cellK hB hb d3
      have g4 := cellK hB hb d4
      have g0' := cellK hB hb' d0'
      have g1' := cellK hB hb' d1'
      have g2' := cellK hB hb' d2'
      have g3' := cellK hB hb' d3'
      have g4' := cellK hB hb' d4'
      rw [← hPP] at g0' g1' g2' g3' g4' hP' hT'
      obtain ⟨x, hx⟩ : ∃ x, xs.getD k PrV.zero = x := ⟨_, rfl⟩
      obtain ⟨yA, hyA⟩ : ∃ x, (ys.getD k PrV.zero).A = x := ⟨_, rfl⟩
      obtain ⟨yc, hyc⟩ : ∃ x, (ys.getD k PrV.zero).c = x := ⟨_, rfl⟩
      obtain ⟨yTA, hyTA⟩ : ∃ x, (ys.getD k PrV.zero).TA = x := ⟨_, rfl⟩
      obtain ⟨yTc, hyTc⟩ : ∃ x, (ys.getD k PrV.zero).Tc = x := ⟨_, rfl⟩
      rw [hx] at g0 g1 g2 g3 g4 hP hT hpl htl g0' g1' g2' g3' g4' hP' hT'
      rw [hyA] at g3' hP'
      rw [hyc] at g3'
      rw [hyTA] at g4' hT'
      rw [hyTc] at g4'
      obtain ⟨⟨id, te, de, pgs, told⟩, PA, Pc, TA, Tc⟩ := x
      dsimp only at g0 g1 g2 g3 g4 hP hT hpl htl g0' g1' g2' g3' g4' hP' hT'
      obtain ⟨M, hM⟩ : ∃ M, pgs.length = M := ⟨_, rfl⟩
      obtain ⟨TN, hTN⟩ : ∃ TN, told.length = TN := ⟨_, rfl⟩
      rw [hM] at g3 g3' hP hP' hpl
      rw [hTN] at g4 g4' hT hT' htl
      have HM := Lib.hid hM
      have HTN := Lib.hid hTN
      have HP := Lib.hid hP
      have HP' := Lib.hid hP'
      have HT := Lib.hid hT
      have HT' := Lib.hid hT'
      have hlt' : (k : Int) < (n : Int) := by omega
      have hbw : b < wo.heap.size := by omega
      have hbw' : b' < wo.heap.size := by omega
      clear d0 d1 d2 d3 d4 d0' d1' d2' d3' d4' hx hyA hyc hyTA hyTc hM hTN hP hP' hT hT' hPP
      go_wp2_with fail
      go_loopw [68] (fun i wr => ∃ j : Nat, j ≤ M ∧ i = .int .i64 j ∧ wo.heap.size + 1 < wr.heap.size ∧ Hid (wr.cell? ⟨wo.heap.size + 1, 3, none⟩ = some (.slice yA M yc)) ∧ Hid (wr.cell? ⟨wo.heap.size, 4, none⟩ = some (.slice TA TN Tc)) ∧ Hid (wr.cell? ⟨wo.heap.size + 1, 4, none⟩ = some (.slice yTA TN yTc)) ∧ Below w.heap.size w wr) (fun i _ => M - (intOf i).toNat)
      case atStart => exact ⟨0, by omega, rfl, by simp, by show _ = _; simp [go_sem], by show _ = _; simp [go_sem], by show _ = _; simp [go_sem], by (repeat' (first | (with_reducible exact Below.refl _ _) | (with_reducible assumption) | (with_reducible refine Below.alloc ?_ ?_ _) | (with_reducible refine Below.drew ?_) | (with_reducible refine below_drewN ?_ _) | (with_reducible refine Below.setCell ?_ ?_ _) | (with_reducible exact Nat.le_refl _) | omega | (simp <;> omega)))⟩
      case round =>
        obtain ⟨j, hj, rfl, hz, H3, H4, H4', hB'⟩ := hrel
        have hsz' := hB'.size
        by_cases hjM : j < M
        · obtain ⟨pb, po, rfl, hpb, p0, p1, p2⟩ := HP.out.page_at hjM
          obtain ⟨pb', po', rfl, hpb', p0', p1', p2'⟩ := HP'.out.page_at hjM
          have q0 := cellK hB' hpb p0
          have q1 := cellK hB' hpb p1
          have q2 := cellK hB' hpb p2
          have q0' := cellK hB' hpb' p0'
          have q1' := cellK hB' hpb' p1'
          have q2' := cellK hB' hpb' p2'
          obtain ⟨⟨nu, fr, sh⟩, hy⟩ : ∃ y, pgs.getD j PgD.zero = y := ⟨_, rfl⟩
          rw [hy] at q0 q1 q2 q0' q1' q2'
          dsimp only at q0 q1 q2 q0' q1' q2'
          have h3 := H3.out
          have hjM' : (j : Int) < (M : Int) := by omega
          have hj0 : (0 : Int) ≤ (j : Int) := by omega
          have l1 : pb < wr.heap.size := by omega
          have l2 : pb' < wr.heap.size := by omega
          clear p0 p1 p2 p0' p1' p2' hy
          have hz0 : wo.heap.size < wr.heap.size := by omega
          go_wp2_with fail
          go_quiet (fail)
          go_wp2_with fail
          go_roundw
          case rel => exact ⟨j + 1, by omega, by go_num, by simp; omega, by show _ = _; simp [go_sem, *], by have := H4.out; show _ = _; simp [go_sem, *], by have := H4'.out; show _ = _; simp [go_sem, *], by (repeat' (first | (with_reducible exact Below.refl _ _) | (with_reducible assumption) | (with_reducible refine Below.alloc ?_ ?_ _) | (with_reducible refine Below.drew ?_) | (with_reducible refine below_drewN ?_ _) | (with_reducible refine Below.setCell ?_ ?_ _) | (with_reducible exact Nat.le_refl _) | omega | (simp <;> omega)))⟩
          case measure => simp [intOf]; omega
        · have hjj : j = M := by omega
          subst hjj
          clear hjM
          have h4 := H4.out
          have h4' := H4'.out
          go_wp2_with fail
          go_loopw [84] (fun i wr => ∃ j : Nat, j ≤ TN ∧ i = .int .i64 j ∧ Hid (wr.cell? ⟨wo.heap.size + 1, 4, none⟩ = some (.slice yTA TN yTc)) ∧ Below w.heap.size w wr) (fun i _ => TN - (intOf i).toNat)
          case atStart => exact ⟨0, by omega, rfl, H4'.out, hB'⟩
          case round =>
            obtain ⟨q, hq, rfl, H5, hB5⟩ := hrel
            by_cases hqT : q < TN
            · obtain ⟨tb, to, rfl, htb, t0⟩ := HT.out.at_ hqT
              obtain ⟨tb', to', rfl, htb', t0'⟩ := HT'.out.at_ hqT
              have u0 := cellK hB5 htb t0
              have u0' := cellK hB5 htb' t0'
              obtain ⟨z, hz⟩ : ∃ z : Int, (numVals told).getD q undef = .int .i64 z := by
                have hql : q < told.length := by rw [HTN.out]; exact hqT
                exact ⟨told[q], by simp [numVals, List.getD, List.getElem?_eq_getElem hql]⟩
              rw [hz] at u0 u0'
              have h5 := H5.out
              have hqT' : (q : Int) < (TN : Int) := by omega
              clear t0 t0' hz
              go_wp2_with fail
              go_roundw
              case rel => exact ⟨q + 1, by omega, by go_num, H5.out, hB5⟩
              case measure => simp [intOf]; omega
            · have hqq : q = TN := by omega
              subst hqq
              clear hqT
              go_wp2_with fail
              go_roundw
              case rel => exact ⟨k + 1, by omega, by go_num, hB5⟩
              case measure => simp [intOf]; omega
    · have hge : n ≤ k := by omega
      clear hlt
      go_wp2_with fail
      go_ret
      exact ⟨rfl, hB⟩
end Go.Proofs.Ytjlmgjpnfppkoaa
