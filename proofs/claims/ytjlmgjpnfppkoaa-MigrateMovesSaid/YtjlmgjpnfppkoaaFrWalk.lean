/-
  Contracts of functions of the given program (layer 28), walked: what fits, the first frame, validity.
-/
import Derived.LoopTactic
import Derived.Test.YtjlmgjpnfppkoaaFr
namespace Go.Proofs.Ytjlmgjpnfppkoaa
open Go.RowKit
attribute [local go_sem ↓] Go.wp_at_zero Go.wp_at_succ

set_option maxHeartbeats 400000 in
theorem fit_any (s b : Int) (w : World) : Calls Try.prog 81 #[.int .i64 s, .int .i64 b] w fun e w' => e = .returned (.bool (fitB s b)) ∧ w = w' := by
  by_cases h : s = 1
  · subst h
    go_enter Try.func81, Try.ntmps81
    go_wp2
    all_goals (go_ret; exact ⟨ret_bool (by simp [fitB, *] <;> (try omega)), rfl⟩)
  · have h' : (s == 1) = false := by simp [h]
    go_enter Try.func81, Try.ntmps81
    go_wp2
    all_goals (go_ret; exact ⟨ret_bool (by rw [Bool.eq_iff_iff]; simp [fitB, h]; try omega), rfl⟩)

set_option maxHeartbeats 400000 in
theorem rfits_any (s b : Int) (w : World) : Calls Try.prog 87 #[.int .i64 s, .int .i64 b] w fun e w' => e = .returned (.bool (fitB s b)) ∧ w = w' := by
  by_cases h : s = 1
  · subst h
    go_enter Try.func87, Try.ntmps87
    go_wp2
    all_goals (go_ret; exact ⟨ret_bool (by simp [fitB, *] <;> (try omega)), rfl⟩)
  · have h' : (s == 1) = false := by simp [h]
    go_enter Try.func87, Try.ntmps87
    go_wp2
    all_goals (go_ret; exact ⟨ret_bool (by rw [Bool.eq_iff_iff]; simp [fitB, h]; try omega), rfl⟩)

set_option maxHeartbeats 400000 in
theorem occ_any (s : Int) (w : World) : Calls Try.prog 82 #[.int .i64 s] w fun e w' => e = .returned (.bool (occB s)) ∧ w = w' := by
  go_enter Try.func82, Try.ntmps82
  go_wp2
  all_goals (go_ret; exact ⟨ret_bool (by simp [occB] <;> (intros; try omega)), rfl⟩)

set_option maxHeartbeats 400000 in
theorem rocc_any (s : Int) (w : World) : Calls Try.prog 37 #[.int .i64 s] w fun e w' => e = .returned (.bool (occB s)) ∧ w = w' := by
  go_enter Try.func37, Try.ntmps37
  go_wp2
  all_goals (go_ret; exact ⟨ret_bool (by simp [occB] <;> (intros; try omega)), rfl⟩)

set_option maxHeartbeats 400000 in
theorem badfr_any (s b : Int) (w : World) : Calls Try.prog 80 #[.agg #[.int .i64 s, .int .i64 b]] w fun e w' => e = .returned (.bool (!fitB s b)) ∧ Below w.heap.size w w' := by
  go_enter Try.func80, Try.ntmps80
  go_wp2_with (first | (go_at_call 81; refine (fit_any _ _ _).mono ?_; rintro e w' ⟨rfl, rfl⟩))
  go_ret
  exact ⟨rfl, by (repeat' (first | (with_reducible exact Below.refl _ _) | (with_reducible assumption) | (with_reducible refine Below.alloc ?_ ?_ _) | (with_reducible refine Below.drew ?_) | (with_reducible refine below_drewN ?_ _) | (with_reducible refine Below.setCell ?_ ?_ _) | (with_reducible exact Nat.le_refl _) | omega | (simp <;> omega)))⟩

set_option maxHeartbeats 400000 in
theorem freefr_any (s b : Int) (w : World) : Calls Try.prog 85 #[.agg #[.int .i64 s, .int .i64 b]] w fun e w' => e = .returned (.bool (s == 0)) ∧ Below w.heap.size w w' := by
  go_enter Try.func85, Try.ntmps85
  go_wp2
  go_ret
  exact ⟨rfl, by (repeat' (first | (with_reducible exact Below.refl _ _) | (with_reducible assumption) | (with_reducible refine Below.alloc ?_ ?_ _) | (with_reducible refine Below.drew ?_) | (with_reducible refine below_drewN ?_ _) | (with_reducible refine Below.setCell ?_ ?_ _) | (with_reducible exact Nat.le_refl _) | omega | (simp <;> omega)))⟩

set_option maxRecDepth 100000 in
set_option maxHeartbeats 2000000 in
theorem index_any (fn : FuncId) (pr : FrD → Bool) (hpr : ∀ s b w, Calls Try.prog fn #[.agg #[.int .i64 s, .int .i64 b]] w fun e w' => e = .returned (.bool (pr ⟨s, b⟩)) ∧ Below w.heap.size w w')
    (hcf : ∀ (s b : Int) (w : World), (callFunc fn #[.agg #[.int .i64 s, .int .i64 b]]).run Try.prog w = .ok (.enter fn #[.agg #[.int .i64 s, .int .i64 b]]) w)
    (A : Option Addr) (n c : Nat) (fs : List FrD) (w : World) (h : Has w A n 2 (frVals fs)) (hn : n ≤ 1048576) :
    Calls Try.prog 84 #[.slice A n c, .func (.func fn) #[] #[]] w fun e w' => e = .returned (.int .i64 (idxF pr fs)) ∧ Below w.heap.size w w' := by
  have Hp := Lib.hid hpr
  have Hcf := Lib.hid hcf
  have Hh := Lib.hid h
  have Hl := Lib.hid h.frame
  clear hpr h hcf
  go_enter Try.func84, Try.ntmps84
  go_wp2_with fail
  go_loopw [8] (fun i wr => ∃ k : Nat, k ≤ n ∧ i = .int .i64 k ∧ Hid (∀ j, j < k → pr (fs.getD j FrD.zero) = false) ∧ Below w.heap.size w wr) (fun i _ => n - (intOf i).toNat)
  case atStart => exact ⟨0, by omega, rfl, fun j hj => absurd hj (by omega), Below.refl _ _⟩
  case round =>
    obtain ⟨k, hk, rfl, Hb, hB⟩ := hrel
    by_cases hlt : k < n
    · obtain ⟨b, off, rfl, hbl, c0, c1⟩ := Hh.out.frame_at hlt
      have d0 := (hB.cell (p := ⟨b, off + k * 2, none⟩) hbl).trans c0
      have d1 := (hB.cell (p := ⟨b, off + k * 2 + 1, none⟩) hbl).trans c1
      obtain ⟨f, hf⟩ : ∃ f, fs.getD k FrD.zero = f := ⟨_, rfl⟩
      rw [hf] at d0 d1
      have Hf := Lib.hid hf
      clear c0 c1 hf
      have hlt' : (k : Int) < (n : Int) := by omega
      have hcf' := Hcf.out f.st f.bl
      cases hpf : pr f
      · have Hpf := Lib.hid hpf
        clear hpf
        go_wp2_with fail
        refine (Hp.out _ _ _).mono ?_
        rintro e w1 ⟨rfl, hb1⟩
        rewrite [Hpf.out]
        have hB1 := hB.trans (hb1.mono hB.size)
        clear hb1 hB
        go_wp2_with fail
        go_roundw
        case rel =>
          refine ⟨k + 1, by omega, by go_num, fun j hj => ?_, hB1⟩
          by_cases hjk : j = k
          · rw [hjk, Hf.out, Hpf.out]
          · exact Hb.out j (by omega)
        case measure => simp [intOf]; omega
      · have Hpf := Lib.hid hpf
        clear hpf
        go_wp2_with fail
        refine (Hp.out _ _ _).mono ?_
        rintro e w1 ⟨rfl, hb1⟩
        rewrite [Hpf.out]
        have hB1 := hB.trans (hb1.mono hB.size)
        clear hb1 hB
        go_wp2_with fail
        go_ret
        exact ⟨ret_int (idxF_at pr fs k (by rw [Hl.out]; exact hlt) (by rw [Hf.out, Hpf.out]) Hb.out).symm, hB1⟩
    · have hge : n ≤ k := by omega
      clear hlt
      go_wp2_with fail
      go_ret
      exact ⟨ret_int (idxF_none pr fs (fun j hj => Hb.out j (by rw [Hl.out] at hj; omega))).symm, hB⟩
theorem callf80 (s b : Int) (w : World) : (callFunc 80 #[.agg #[.int .i64 s, .int .i64 b]]).run Try.prog w = .ok (.enter 80 #[.agg #[.int .i64 s, .int .i64 b]]) w := by kernel_rfl
theorem callf85 (s b : Int) (w : World) : (callFunc 85 #[.agg #[.int .i64 s, .int .i64 b]]).run Try.prog w = .ok (.enter 85 #[.agg #[.int .i64 s, .int .i64 b]]) w := by kernel_rfl

theorem dfree_any (A : Option Addr) (n c : Nat) (fs : List FrD) (w : World) (h : Has w A n 2 (frVals fs)) (hn : n ≤ 1048576) :
    Calls Try.prog 55 #[.slice A n c] w fun e w' => e = .returned (.int .i64 (freeF fs)) ∧ Below w.heap.size w w' := by
  have Hh := Lib.hid h
  clear h
  go_enter Try.func55, Try.ntmps55
  go_wp2_with fail
  refine (index_any 85 (fun f => f.st == 0) (fun s b w => freefr_any s b w) callf85 A n c fs _ Hh.out hn).mono ?_
  rintro e w1 ⟨rfl, hb1⟩
  go_wp2_with fail
  go_ret
  exact ⟨rfl, hb1⟩

theorem contains_any (A : Option Addr) (n c : Nat) (fs : List FrD) (w : World) (h : Has w A n 2 (frVals fs)) (hn : n ≤ 1048576) :
    Calls Try.prog 79 #[.slice A n c, .func (.func 80) #[] #[]] w fun e w' => e = .returned (.bool (!(fs.all fun f => fitB f.st f.bl))) ∧ Below w.heap.size w w' := by
  have Hh := Lib.hid h
  clear h
  go_enter Try.func79, Try.ntmps79
  go_wp2_with fail
  refine (index_any 80 (fun f => !fitB f.st f.bl) (fun s b w => badfr_any s b w) callf80 A n c fs _ Hh.out hn).mono ?_
  rintro e w1 ⟨rfl, hb1⟩
  go_wp2_with fail
  go_ret
  exact ⟨ret_bool (idx_bad fs), hb1⟩

set_option maxHeartbeats 1000000 in
theorem fvalid_any (A : Option Addr) (n c : Nat) (fs : List FrD) (w : World) (h : Has w A n 2 (frVals fs)) :
    Calls Try.prog 50 #[.slice A n c] w fun e w' => e = .returned (.bool (validF fs)) ∧ Below w.heap.size w w' := by
  have Hh := Lib.hid h
  have hl := h.frame
  have Hl := Lib.hid hl
  clear h hl
  by_cases h1 : 1 ≤ n
  · by_cases h2 : n ≤ 64
    · go_enter Try.func50, Try.ntmps50
      go_wp2_with fail
      refine (contains_any A n c fs _ Hh.out (by omega)).mono ?_
      rintro e w1 ⟨rfl, hb1⟩
      go_wp2_with fail
      go_ret
      exact ⟨ret_bool (by simp [validF, Hl.out, h1, h2]), hb1⟩
    · go_enter Try.func50, Try.ntmps50
      go_wp2_with fail
      go_ret
      exact ⟨ret_bool (by simp [validF, Hl.out]; intros; exfalso; omega), by (repeat' (first | (with_reducible exact Below.refl _ _) | (with_reducible assumption) | (with_reducible refine Below.alloc ?_ ?_ _) | (with_reducible refine Below.drew ?_) | (with_reducible refine below_drewN ?_ _) | (with_reducible refine Below.setCell ?_ ?_ _) | (with_reducible exact Nat.le_refl _) | omega | (simp <;> omega)))⟩
  · go_enter Try.func50, Try.ntmps50
    go_wp2_with fail
    go_ret
    exact ⟨ret_bool (by simp [validF, Hl.out]; intros; exfalso; omega), by (repeat' (first | (with_reducible exact Below.refl _ _) | (with_reducible assumption) | (with_reducible refine Below.alloc ?_ ?_ _) | (with_reducible refine Below.drew ?_) | (with_reducible refine below_drewN ?_ _) | (with_reducible refine Below.setCell ?_ ?_ _) | (with_reducible exact Nat.le_refl _) | omega | (simp <;> omega)))⟩
end Go.Proofs.Ytjlmgjpnfppkoaa
