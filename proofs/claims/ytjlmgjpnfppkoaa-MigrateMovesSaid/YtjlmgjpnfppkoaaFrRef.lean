/-
  Frames, walked: the functions of the reference (valid, free, one frame replaced, comparing).
-/
import Derived.LoopTactic
import Derived.Test.YtjlmgjpnfppkoaaFr2
namespace Go.Proofs.Ytjlmgjpnfppkoaa
open Go.RowKit
attribute [local go_sem ↓] Go.wp_at_zero Go.wp_at_succ

set_option maxHeartbeats 1000000 in
theorem rwith_any (A : Option Addr) (n c k : Nat) (s b : Int) (fs : List FrD) (w : World) (h : Has w A n 2 (frVals fs)) (hn : n ≤ 1048576) (hk : k < n) :
    Calls Try.prog 88 #[.slice A n c, .int .i64 k, .agg #[.int .i64 s, .int .i64 b]] w fun e w' => ∃ A' c', e = .returned (.slice A' n c') ∧ w'.ownsRow w.heap.size 54 2 (.slice A' n c') n (frVals (fs.set k ⟨s, b⟩)) ∧ Below w.heap.size w w' := by
  have Hh := Lib.hid h
  clear h
  have hlt : (k : Int) < (n : Int) := by omega
  go_enter Try.func88, Try.ntmps88
  go_wp2_with (first
      | (at_builtin; refine wpList_copy_has _ rfl (.const (.slice none 0 0)) (.tmp 8) 40 rfl (w.heap.size + 1) 54 _ 2 16 info54 Try.underlying40 rfl (by decide) (.slice none 0 0) rfl (World.ownsRow_nil _ _ _ _) _ _ _ (frVals fs) rfl (Hh.out.alloc _) (frVals_one _) (by omega) (by omega) (by simp) ?_; intro A' c' w1 hown hb1; obtain ⟨k1, -⟩ := bkeep hb1 w.heap.size (by omega); simp [go_sem] at k1; have hB1 := (show Below w.heap.size w _ by (repeat' (first | (with_reducible exact Below.refl _ _) | (with_reducible assumption) | (with_reducible refine Below.alloc ?_ ?_ _) | (with_reducible refine Below.drew ?_) | (with_reducible refine below_drewN ?_ _) | (with_reducible refine Below.setCell ?_ ?_ _) | (with_reducible exact Nat.le_refl _) | omega | (simp <;> omega)))).trans (hb1.mono (show w.heap.size ≤ _ by (first | (with_reducible exact Nat.le_refl _) | (with_reducible assumption) | omega | (simp <;> omega)))); have hs1 := hb1.size; simp only [World.size_alloc] at hs1; obtain ⟨g, rfl, hg1, hg2⟩ := own_some hown (by omega); obtain ⟨g', off', e', -, c0, c1⟩ := (Has.of_own hown).frame_at hk; injection e' with e'; injection e' with e1 e2; subst e1 e2; simp only [Nat.zero_add] at c0 c1; have f0 := own_frozen hown (k * 2); have f1 := own_frozen hown (k * 2 + 1); have Hown := Lib.hid hown; clear hown hb1))
  go_ret
  have h2 := own_set (own_set Hown.out (k * 2) (.int .i64 s)) (k * 2 + 1) (.int .i64 b)
  rewrite [frVals_set fs k ⟨s, b⟩] at h2
  exact ⟨_, _, rfl, ownsRow_base h2 (by (first | (with_reducible exact Nat.le_refl _) | (with_reducible assumption) | omega | (simp <;> omega))), below_put (below_put hB1 (by omega) _) (by omega) _⟩

set_option maxRecDepth 100000 in
set_option maxHeartbeats 2000000 in
theorem rvalid28_any (A : Option Addr) (n c : Nat) (fs : List FrD) (w : World) (h : Has w A n 2 (frVals fs)) (hn : n ≤ 1048576) :
    Calls Try.prog 59 #[.slice A n c] w fun e w' => e = .returned (.bool (validF fs)) ∧ Below w.heap.size w w' := by
  have Hh := Lib.hid h
  have Hl := Lib.hid h.frame
  clear h
  go_enter Try.func59, Try.ntmps59
  go_wp2_with fail
  go_loopw [7] (fun i wr => ∃ k : Nat, k ≤ n ∧ i = .int .i64 k ∧ Hid (∀ j, j < k → fitB (fs.getD j FrD.zero).st (fs.getD j FrD.zero).bl = true) ∧ Below w.heap.size w wr) (fun i _ => n - (intOf i).toNat)
  case atStart => exact ⟨0, by omega, rfl, fun j hj => absurd hj (by omega), Below.refl _ _⟩
  case round =>
    obtain ⟨k, hk, rfl, Hb, hB⟩ := hrel
    have hsz := hB.size
    by_cases hlt : k < n
    · obtain ⟨b, off, rfl, hbl, c0, c1⟩ := Hh.out.frame_at hlt
      have d0 := (hB.cell (p := ⟨b, off + k * 2, none⟩) hbl).trans c0
      have d1 := (hB.cell (p := ⟨b, off + k * 2 + 1, none⟩) hbl).trans c1
      obtain ⟨f, hf⟩ : ∃ f, fs.getD k FrD.zero = f := ⟨_, rfl⟩
      rw [hf] at d0 d1
      have Hf := Lib.hid hf
      clear c0 c1 hf
      have hlt' : (k : Int) < (n : Int) := by omega
      cases hfit : fitB f.st f.bl
      · have Hfit := Lib.hid hfit
        clear hfit
        go_wp2_with fail
        refine (rfits_any _ _ _).mono ?_
        rewrite [Hfit.out]
        rintro e w1 ⟨rfl, rfl⟩
        go_wp2_with fail
        go_ret
        refine ⟨ret_bool ?_, by (repeat' (first | (with_reducible exact Below.refl _ _) | (with_reducible assumption) | (with_reducible refine Below.alloc ?_ ?_ _) | (with_reducible refine Below.drew ?_) | (with_reducible refine below_drewN ?_ _) | (with_reducible refine Below.setCell ?_ ?_ _) | (with_reducible exact Nat.le_refl _) | omega | (simp <;> omega)))⟩
        symm
        rw [Bool.eq_false_iff]
        intro hv
        simp only [validF, Bool.and_eq_true] at hv
        have hl : k < fs.length := by rw [Hl.out]; exact hlt
        have := List.all_eq_true.1 hv.2 _ (List.getElem_mem hl)
        have hf := Hf.out
        rw [List.getD, List.getElem?_eq_getElem hl] at hf
        simp at hf
        rw [hf, Hfit.out] at this
        cases this
      · have Hfit := Lib.hid hfit
        clear hfit
        go_wp2_with fail
        refine (rfits_any _ _ _).mono ?_
        rewrite [Hfit.out]
        rintro e w1 ⟨rfl, rfl⟩
        go_wp2_with fail
        go_roundw
        case rel =>
          refine ⟨k + 1, by omega, by go_num, fun j hj => ?_, by (repeat' (first | (with_reducible exact Below.refl _ _) | (with_reducible assumption) | (with_reducible refine Below.alloc ?_ ?_ _) | (with_reducible refine Below.drew ?_) | (with_reducible refine below_drewN ?_ _) | (with_reducible refine Below.setCell ?_ ?_ _) | (with_reducible exact Nat.le_refl _) | omega | (simp <;> omega)))⟩
          by_cases hjk : j = k
          · rw [hjk, Hf.out, Hfit.out]
          · exact Hb.out j (by omega)
        case measure => simp [intOf]; omega
    · have hge : n ≤ k := by omega
      clear hlt
      have hall : (fs.all fun f => fitB f.st f.bl) = true := by
        refine List.all_eq_true.2 fun x hx => ?_
        obtain ⟨j, hj, rfl⟩ := List.getElem_of_mem hx
        have := Hb.out j (by rw [Hl.out] at hj; omega)
        simpa [List.getD, List.getElem?_eq_getElem hj] using this
      have Hall := Lib.hid hall
      clear hall
      by_cases h1 : 1 ≤ n
      · go_wp2_with fail
        go_ret
        exact ⟨ret_bool (by simp [validF, Hall.out, Hl.out, h1] <;> omega), hB⟩
      · go_wp2_with fail
        go_ret
        exact ⟨ret_bool (by simp [validF, Hall.out, Hl.out]; omega), hB⟩

set_option maxRecDepth 100000 in
set_option maxHeartbeats 2000000 in
theorem rfree_any (A : Option Addr) (n c : Nat) (fs : List FrD) (w : World) (h : Has w A n 2 (frVals fs)) (hn : n ≤ 1048576) :
    Calls Try.prog 32 #[.slice A n c] w fun e w' => e = .returned (.int .i64 (freeF fs)) ∧ Below w.heap.size w w' := by
  have Hh := Lib.hid h
  have Hl := Lib.hid h.frame
  clear h
  go_enter Try.func32, Try.ntmps32
  go_wp2_with fail
  go_loopw [7] (fun i wr => ∃ k : Nat, k ≤ n ∧ i = .int .i64 k ∧ Hid (∀ j, j < k → ((fs.getD j FrD.zero).st == 0) = false) ∧ Below w.heap.size w wr) (fun i _ => n - (intOf i).toNat)
  case atStart => exact ⟨0, by omega, rfl, fun j hj => absurd hj (by omega), Below.refl _ _⟩
  case round =>
    obtain ⟨k, hk, rfl, Hb, hB⟩ := hrel
    have hsz := hB.size
    by_cases hlt : k < n
    · obtain ⟨b, off, rfl, hbl, c0, c1⟩ := Hh.out.frame_at hlt
      have d0 := (hB.cell (p := ⟨b, off + k * 2, none⟩) hbl).trans c0
      have d1 := (hB.cell (p := ⟨b, off + k * 2 + 1, none⟩) hbl).trans c1
      obtain ⟨f, hf⟩ : ∃ f, fs.getD k FrD.zero = f := ⟨_, rfl⟩
      rw [hf] at d0 d1
      have Hf := Lib.hid hf
      clear c0 c1 hf
      have hlt' : (k : Int) < (n : Int) := by omega
      cases hfit : (f.st == 0)
      · have Hfit := Lib.hid hfit
        go_wp2_with fail
        go_roundw
        case rel =>
          refine ⟨k + 1, by omega, by go_num, fun j hj => ?_, by (repeat' (first | (with_reducible exact Below.refl _ _) | (with_reducible assumption) | (with_reducible refine Below.alloc ?_ ?_ _) | (with_reducible refine Below.drew ?_) | (with_reducible refine below_drewN ?_ _) | (with_reducible refine Below.setCell ?_ ?_ _) | (with_reducible exact Nat.le_refl _) | omega | (simp <;> omega)))⟩
          by_cases hjk : j = k
          · rw [hjk, Hf.out, Hfit.out]
          · exact Hb.out j (by omega)
        case measure => simp [intOf]; omega
      · have Hfit := Lib.hid hfit
        go_wp2_with fail
        go_ret
        refine ⟨ret_int ?_, by (repeat' (first | (with_reducible exact Below.refl _ _) | (with_reducible assumption) | (with_reducible refine Below.alloc ?_ ?_ _) | (with_reducible refine Below.drew ?_) | (with_reducible refine below_drewN ?_ _) | (with_reducible refine Below.setCell ?_ ?_ _) | (with_reducible exact Nat.le_refl _) | omega | (simp <;> omega)))⟩
        exact (idxF_at _ fs k (by rw [Hl.out]; exact hlt) (by rw [Hf.out]; exact Hfit.out) Hb.out).symm
    · have hge : n ≤ k := by omega
      clear hlt
      go_wp2_with fail
      go_ret
      exact ⟨ret_int (idxF_none _ fs (fun j hj => Hb.out j (by rw [Hl.out] at hj; omega))).symm, hB⟩

set_option maxRecDepth 100000 in
set_option maxHeartbeats 2000000 in
theorem frsame_any (A A' : Option Addr) (n c n' c' : Nat) (fs : List FrD) (w : World) (h : Has w A n 2 (frVals fs)) (h' : Has w A' n' 2 (frVals fs)) (hn : n ≤ 1048576) :
    Calls Try.prog 35 #[.slice A n c, .slice A' n' c'] w fun e w' => e = .returned (.bool true) ∧ Below w.heap.size w w' := by
  obtain rfl : n = n' := h.frame.symm.trans h'.frame
  have Hh := Lib.hid h
  have Hh' := Lib.hid h'
  clear h h'
  go_enter Try.func35, Try.ntmps35
  go_wp2_with fail
  go_loopw [14] (fun i wr => ∃ k : Nat, k ≤ n ∧ i = .int .i64 k ∧ Below w.heap.size w wr) (fun i _ => n - (intOf i).toNat)
  case atStart => exact ⟨0, by omega, rfl, Below.refl _ _⟩
  case round =>
    obtain ⟨k, hk, rfl, hB⟩ := hrel
    have hsz := hB.size
    by_cases hlt : k < n
    · obtain ⟨b, off, rfl, hbl, c0, c1⟩ := Hh.out.frame_at hlt
      obtain ⟨b', off', rfl, hbl', c0', c1'⟩ := Hh'.out.frame_at hlt
      have d0 := (hB.cell (p := ⟨b, off + k * 2, none⟩) hbl).trans c0
      have d1 := (hB.cell (p := ⟨b, off + k * 2 + 1, none⟩) hbl).trans c1
      have d0' := (hB.cell (p := ⟨b', off' + k * 2, none⟩) hbl').trans c0'
      have d1' := (hB.cell (p := ⟨b', off' + k * 2 + 1, none⟩) hbl').trans c1'
      obtain ⟨f, hf⟩ : ∃ f, fs.getD k FrD.zero = f := ⟨_, rfl⟩
      rw [hf] at d0 d1 d0' d1'
      clear c0 c1 hf c0' c1'
      have hlt' : (k : Int) < (n : Int) := by omega
      have hge0 : (0 : Int) ≤ (k : Int) := by omega
      have hb1 : b < wr.heap.size := by omega
      have hb2 : b' < wr.heap.size := by omega
      go_wp2_with fail
      go_quiet (fail)
      go_wp2_with fail
      go_roundw
      case rel => exact ⟨k + 1, by omega, by go_num, by (repeat' (first | (with_reducible exact Below.refl _ _) | (with_reducible assumption) | (with_reducible refine Below.alloc ?_ ?_ _) | (with_reducible refine Below.drew ?_) | (with_reducible refine below_drewN ?_ _) | (with_reducible refine Below.setCell ?_ ?_ _) | (with_reducible exact Nat.le_refl _) | omega | (simp <;> omega)))⟩
      case measure => simp [intOf]; omega
    · have hge : n ≤ k := by omega
      clear hlt
      go_wp2_with fail
      go_ret
      exact ⟨rfl, hB⟩
end Go.Proofs.Ytjlmgjpnfppkoaa
