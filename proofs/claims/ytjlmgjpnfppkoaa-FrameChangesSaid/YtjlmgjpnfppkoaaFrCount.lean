/-
  Frames, walked: how many frames have each state, by the program and by the reference.
-/
import Derived.LoopTactic
import Derived.Test.YtjlmgjpnfppkoaaFrGen
namespace Go.Proofs.Ytjlmgjpnfppkoaa
open Go.RowKit
attribute [local go_sem ↓] Go.wp_at_zero Go.wp_at_succ

/-- How many frames have the state s. -/
def cntF (fs : List FrD) (s : Int) : Nat := (fs.filter fun f => f.st == s).length
theorem cnt_le (fs : List FrD) (s : Int) : cntF fs s ≤ fs.length := List.length_filter_le _ _
theorem cnt_take {fs : List FrD} {k : Nat} (hk : k < fs.length) (s : Int) : cntF (fs.take (k + 1)) s = cntF (fs.take k) s + (if (fs.getD k FrD.zero).st = s then 1 else 0) := by
  rw [List.take_add_one, List.getElem?_eq_getElem hk, List.getD, List.getElem?_eq_getElem hk, cntF, List.filter_append, List.length_append]
  by_cases h : (fs[k]).st = s <;> simp [cntF, h]
theorem cnt_same {fs : List FrD} {k : Nat} (hk : k < fs.length) {S : Int} (hS : (fs.getD k FrD.zero).st = S) : cntF (fs.take (k + 1)) S = cntF (fs.take k) S + 1 := by rw [cnt_take hk, if_pos hS]
theorem cnt_other {fs : List FrD} {k : Nat} (hk : k < fs.length) {S : Int} (hS : (fs.getD k FrD.zero).st = S) {s : Int} (hne : S ≠ s) : cntF (fs.take (k + 1)) s = cntF (fs.take k) s := by
  rw [cnt_take hk, if_neg (by rw [hS]; exact hne)]; rfl

/-! ### an element of an array of six -/
theorem idx79_0 (a b c d e f : Value) (w : World) : (Instr.index 79 (.agg #[a, b, c, d, e, f]) (.int .i64 0)).run Try.prog w = .ok a w := by kernel_rfl
theorem idx79_1 (a b c d e f : Value) (w : World) : (Instr.index 79 (.agg #[a, b, c, d, e, f]) (.int .i64 1)).run Try.prog w = .ok b w := by kernel_rfl
theorem idx79_2 (a b c d e f : Value) (w : World) : (Instr.index 79 (.agg #[a, b, c, d, e, f]) (.int .i64 2)).run Try.prog w = .ok c w := by kernel_rfl
theorem idx79_3 (a b c d e f : Value) (w : World) : (Instr.index 79 (.agg #[a, b, c, d, e, f]) (.int .i64 3)).run Try.prog w = .ok d w := by kernel_rfl
theorem idx79_4 (a b c d e f : Value) (w : World) : (Instr.index 79 (.agg #[a, b, c, d, e, f]) (.int .i64 4)).run Try.prog w = .ok e w := by kernel_rfl
theorem idx79_5 (a b c d e f : Value) (w : World) : (Instr.index 79 (.agg #[a, b, c, d, e, f]) (.int .i64 5)).run Try.prog w = .ok f w := by kernel_rfl
/-- Six counts lie in the block g, and may be written. -/
def Box6 (w : World) (g : Nat) (f : Int → Nat) : Prop :=
  w.cell? ⟨g, 0, none⟩ = some (.int .i64 (f 0)) ∧ w.cell? ⟨g, 1, none⟩ = some (.int .i64 (f 1)) ∧ w.cell? ⟨g, 2, none⟩ = some (.int .i64 (f 2)) ∧
  w.cell? ⟨g, 3, none⟩ = some (.int .i64 (f 3)) ∧ w.cell? ⟨g, 4, none⟩ = some (.int .i64 (f 4)) ∧ w.cell? ⟨g, 5, none⟩ = some (.int .i64 (f 5)) ∧
  w.frozen? ⟨g, 0, none⟩ = false ∧ w.frozen? ⟨g, 1, none⟩ = false ∧ w.frozen? ⟨g, 2, none⟩ = false ∧ w.frozen? ⟨g, 3, none⟩ = false ∧ w.frozen? ⟨g, 4, none⟩ = false ∧ w.frozen? ⟨g, 5, none⟩ = false

set_option maxRecDepth 100000 in
set_option maxHeartbeats 4000000 in
theorem count_any (A : Option Addr) (n c : Nat) (fs : List FrD) (w : World) (h : Has w A n 2 (frVals fs)) (hF : AllFit fs) (hn : n ≤ 1048576) :
    Calls Try.prog 53 #[.slice A n c] w fun e w' => e = .returned (.agg #[.int .i64 (cntF fs 0), .int .i64 (cntF fs 1), .int .i64 (cntF fs 2), .int .i64 (cntF fs 3), .int .i64 (cntF fs 4), .int .i64 (cntF fs 5)]) ∧ Below w.heap.size w w' := by
  have Hh := Lib.hid h
  have Hl := Lib.hid h.frame
  have HF := Lib.hid hF
  clear h hF
  go_enter Try.func53, Try.ntmps53
  go_wp2_with fail
  go_loopw [8] (fun i wr => ∃ k : Nat, k ≤ n ∧ i = .int .i64 k ∧ Hid (Box6 wr (w.heap.size + 1) (cntF (fs.take k))) ∧ Hid (Box6 wr w.heap.size (fun _ => 0)) ∧ w.heap.size + 1 < wr.heap.size ∧ Below w.heap.size w wr) (fun i _ => n - (intOf i).toNat)
  case atStart =>
    refine ⟨0, by omega, rfl, ?_, ?_, by simp, by (repeat' (first | (with_reducible exact Below.refl _ _) | (with_reducible assumption) | (with_reducible refine Below.alloc ?_ ?_ _) | (with_reducible refine Below.drew ?_) | (with_reducible refine below_drewN ?_ _) | (with_reducible refine Below.setCell ?_ ?_ _) | (with_reducible exact Nat.le_refl _) | omega | (simp <;> omega)))⟩
    · show Box6 _ _ _; simp [Box6, cntF, go_sem]
    · show Box6 _ _ _; simp [Box6, go_sem]
  case round =>
    obtain ⟨k, hk, rfl, Hx, Hr, hz, hB⟩ := hrel
    have hsz := hB.size
    have hz0 : w.heap.size < wr.heap.size := by omega
    by_cases hlt : k < n
    · obtain ⟨b, off, rfl, hbl, c0, c1⟩ := Hh.out.frame_at hlt
      have d0 := (hB.cell (p := ⟨b, off + k * 2, none⟩) hbl).trans c0
      have d1 := (hB.cell (p := ⟨b, off + k * 2 + 1, none⟩) hbl).trans c1
      have hkl : k < fs.length := by rw [Hl.out]; exact hlt
      obtain ⟨s0, s5⟩ := HF.out.at_ hkl
      have hle := fun s => Nat.le_trans (cnt_le (fs.take k) s) (List.length_take_le k fs)
      obtain ⟨⟨S, B⟩, hf⟩ : ∃ f, fs.getD k FrD.zero = f := ⟨_, rfl⟩
      rw [hf] at d0 d1 s0 s5
      have hst : (fs.getD k FrD.zero).st = S := by rw [hf]
      dsimp only at d0 d1 s0 s5
      have Hst := Lib.hid hst
      have hq : ∀ s, s ≠ S → cntF (fs.take (k + 1)) s = cntF (fs.take k) s := fun s hs => cnt_other hkl hst (fun e => hs e.symm)
      have hp := cnt_same hkl hst
      have Hq := Lib.hid hq
      have Hp := Lib.hid hp
      obtain ⟨x0, x1, x2, x3, x4, x5, f0, f1, f2, f3, f4, f5⟩ := Hx.out
      obtain ⟨y0, y1, y2, y3, y4, y5, g0, g1, g2, g3, g4, g5⟩ := Hr.out
      have hlt' : (k : Int) < (n : Int) := by omega
      have hl0 := hle 0
      have hl1 := hle 1
      have hl2 := hle 2
      have hl3 := hle 3
      have hl4 := hle 4
      have hl5 := hle 5
      obtain ⟨C0, hC0⟩ : ∃ C, cntF (fs.take k) 0 = C := ⟨_, rfl⟩
      obtain ⟨C1, hC1⟩ : ∃ C, cntF (fs.take k) 1 = C := ⟨_, rfl⟩
      obtain ⟨C2, hC2⟩ : ∃ C, cntF (fs.take k) 2 = C := ⟨_, rfl⟩
      obtain ⟨C3, hC3⟩ : ∃ C, cntF (fs.take k) 3 = C := ⟨_, rfl⟩
      obtain ⟨C4, hC4⟩ : ∃ C, cntF (fs.take k) 4 = C := ⟨_, rfl⟩
      obtain ⟨C5, hC5⟩ : ∃ C, cntF (fs.take k) 5 = C := ⟨_, rfl⟩
      rw [hC0] at x0 hl0
      have HC0 := Lib.hid hC0
      rw [hC1] at x1 hl1
      have HC1 := Lib.hid hC1
      rw [hC2] at x2 hl2
      have HC2 := Lib.hid hC2
      rw [hC3] at x3 hl3
      have HC3 := Lib.hid hC3
      rw [hC4] at x4 hl4
      have HC4 := Lib.hid hC4
      rw [hC5] at x5 hl5
      have HC5 := Lib.hid hC5
      clear c0 c1 hf hst hq hp hle hC0 hC1 hC2 hC3 hC4 hC5
      have hcs : S = 0 ∨ S = 1 ∨ S = 2 ∨ S = 3 ∨ S = 4 ∨ S = 5 := by omega
      rcases hcs with rfl | rfl | rfl | rfl | rfl | rfl
      · go_wp2_with fail
        go_roundw
        case rel =>
          refine ⟨k + 1, by omega, by go_num, ?_, ?_, by simp; omega, by (repeat' (first | (with_reducible exact Below.refl _ _) | (with_reducible assumption) | (with_reducible refine Below.alloc ?_ ?_ _) | (with_reducible refine Below.drew ?_) | (with_reducible refine below_drewN ?_ _) | (with_reducible refine Below.setCell ?_ ?_ _) | (with_reducible exact Nat.le_refl _) | omega | (simp <;> omega)))⟩
          · show Box6 _ _ _
            unfold Box6
            rw [Hp.out, Hq.out 1 (by decide), Hq.out 2 (by decide), Hq.out 3 (by decide), Hq.out 4 (by decide), Hq.out 5 (by decide), HC0.out, HC1.out, HC2.out, HC3.out, HC4.out, HC5.out]
            simp [go_sem, *]
          · show Box6 _ _ _
            unfold Box6
            simp [go_sem, *]
        case measure => simp [intOf]; omega
      · go_wp2_with fail
        go_roundw
        case rel =>
          refine ⟨k + 1, by omega, by go_num, ?_, ?_, by simp; omega, by (repeat' (first | (with_reducible exact Below.refl _ _) | (with_reducible assumption) | (with_reducible refine Below.alloc ?_ ?_ _) | (with_reducible refine Below.drew ?_) | (with_reducible refine below_drewN ?_ _) | (with_reducible refine Below.setCell ?_ ?_ _) | (with_reducible exact Nat.le_refl _) | omega | (simp <;> omega)))⟩
          · show Box6 _ _ _
            unfold Box6
            rw [Hq.out 0 (by decide), Hp.out, Hq.out 2 (by decide), Hq.out 3 (by decide), Hq.out 4 (by decide), Hq.out 5 (by decide), HC0.out, HC1.out, HC2.out, HC3.out, HC4.out, HC5.out]
            simp [go_sem, *]
          · show Box6 _ _ _
            unfold Box6
            simp [go_sem, *]
        case measure => simp [intOf]; omega
      · go_wp2_with fail
        go_roundw
        case rel =>
          refine ⟨k + 1, by omega, by go_num, ?_, ?_, by simp; omega, by (repeat' (first | (with_reducible exact Below.refl _ _) | (with_reducible assumption) | (with_reducible refine Below.alloc ?_ ?_ _) | (with_reducible refine Below.drew ?_) | (with_reducible refine below_drewN ?_ _) | (with_reducible refine Below.setCell ?_ ?_ _) | (with_reducible exact Nat.le_refl _) | omega | (simp <;> omega)))⟩
          · show Box6 _ _ _
            unfold Box6
            rw [Hq.out 0 (by decide), Hq.out 1 (by decide), Hp.out, Hq.out 3 (by decide), Hq.out 4 (by decide), Hq.out 5 (by decide), HC0.out, HC1.out, HC2.out, HC3.out, HC4.out, HC5.out]
            simp [go_sem, *]
          · show Box6 _ _ _
            unfold Box6
            simp [go_sem, *]
        case measure => simp [intOf]; omega
      · go_wp2_with fail
        go_roundw
        case rel =>
          refine ⟨k + 1, by omega, by go_num, ?_, ?_, by simp; omega, by (repeat' (first | (with_reducible exact Below.refl _ _) | (with_reducible assumption) | (with_reducible refine Below.alloc ?_ ?_ _) | (with_reducible refine Below.drew ?_) | (with_reducible refine below_drewN ?_ _) | (with_reducible refine Below.setCell ?_ ?_ _) | (with_reducible exact Nat.le_refl _) | omega | (simp <;> omega)))⟩
          · show Box6 _ _ _
            unfold Box6
            rw [Hq.out 0 (by decide), Hq.out 1 (by decide), Hq.out 2 (by decide), Hp.out, Hq.out 4 (by decide), Hq.out 5 (by decide), HC0.out, HC1.out, HC2.out, HC3.out, HC4.out, HC5.out]
            simp [go_sem, *]
          · show Box6 _ _ _
            unfold Box6
            simp [go_sem, *]
        case measure => simp [intOf]; omega
      · go_wp2_with fail
        go_roundw
        case rel =>
          refine ⟨k + 1, by omega, by go_num, ?_, ?_, by simp; omega, by (repeat' (first | (with_reducible exact Below.refl _ _) | (with_reducible assumption) | (with_reducible refine Below.alloc ?_ ?_ _) | (with_reducible refine Below.drew ?_) | (with_reducible refine below_drewN ?_ _) | (with_reducible refine Below.setCell ?_ ?_ _) | (with_reducible exact Nat.le_refl _) | omega | (simp <;> omega)))⟩
          · show Box6 _ _ _
            unfold Box6
            rw [Hq.out 0 (by decide), Hq.out 1 (by decide), Hq.out 2 (by decide), Hq.out 3 (by decide), Hp.out, Hq.out 5 (by decide), HC0.out, HC1.out, HC2.out, HC3.out, HC4.out, HC5.out]
            simp [go_sem, *]
          · show Box6 _ _ _
            unfold Box6
            simp [go_sem, *]
        case measure => simp [intOf]; omega
      · go_wp2_with fail
        go_roundw
        case rel =>
          refine ⟨k + 1, by omega, by go_num, ?_, ?_, by simp; omega, by (repeat' (first | (with_reducible exact Below.refl _ _) | (with_reducible assumption) | (with_reducible refine Below.alloc ?_ ?_ _) | (with_reducible refine Below.drew ?_) | (with_reducible refine below_drewN ?_ _) | (with_reducible refine Below.setCell ?_ ?_ _) | (with_reducible exact Nat.le_refl _) | omega | (simp <;> omega)))⟩
          · show Box6 _ _ _
            unfold Box6
            rw [Hq.out 0 (by decide), Hq.out 1 (by decide), Hq.out 2 (by decide), Hq.out 3 (by decide), Hq.out 4 (by decide), Hp.out, HC0.out, HC1.out, HC2.out, HC3.out, HC4.out, HC5.out]
            simp [go_sem, *]
          · show Box6 _ _ _
            unfold Box6
            simp [go_sem, *]
        case measure => simp [intOf]; omega
    · have hge : n ≤ k := by omega
      have hk' : k = n := by omega
      subst hk'
      have ht : fs.take k = fs := List.take_of_length_le (by rw [Hl.out]; exact Nat.le_refl _)
      have hx := Hx.out
      rw [ht] at hx
      obtain ⟨x0, x1, x2, x3, x4, x5, -⟩ := hx
      obtain ⟨y0, y1, y2, y3, y4, y5, g0, g1, g2, g3, g4, g5⟩ := Hr.out
      clear hlt ht
      go_wp2_with fail
      exact bodyPost_ret (v := .agg #[.int .i64 (cntF fs 0), .int .i64 (cntF fs 1), .int .i64 (cntF fs 2), .int .i64 (cntF fs 3), .int .i64 (cntF fs 4), .int .i64 (cntF fs 5)]) (by simp [results, Try.results53, go_sem, *]) rfl ⟨rfl, by (repeat' (first | (with_reducible exact Below.refl _ _) | (with_reducible assumption) | (with_reducible refine Below.alloc ?_ ?_ _) | (with_reducible refine Below.drew ?_) | (with_reducible refine below_drewN ?_ _) | (with_reducible refine Below.setCell ?_ ?_ _) | (with_reducible exact Nat.le_refl _) | omega | (simp <;> omega)))⟩

set_option maxRecDepth 100000 in
set_option maxHeartbeats 4000000 in
theorem rcount_any (A : Option Addr) (n c : Nat) (fs : List FrD) (w : World) (h : Has w A n 2 (frVals fs)) (hF : AllFit fs) (hn : n ≤ 1048576) :
    Calls Try.prog 60 #[.slice A n c] w fun e w' => e = .returned (.agg #[.int .i64 (cntF fs 0), .int .i64 (cntF fs 1), .int .i64 (cntF fs 2), .int .i64 (cntF fs 3), .int .i64 (cntF fs 4), .int .i64 (cntF fs 5)]) ∧ Below w.heap.size w w' := by
  have Hh := Lib.hid h
  have Hl := Lib.hid h.frame
  have HF := Lib.hid hF
  clear h hF
  go_enter Try.func60, Try.ntmps60
  go_wp2_with fail
  go_loopw [8] (fun i wr => ∃ k : Nat, k ≤ n ∧ i = .int .i64 k ∧ Hid (Box6 wr (w.heap.size + 1) (cntF (fs.take k))) ∧ Hid (Box6 wr w.heap.size (fun _ => 0)) ∧ w.heap.size + 1 < wr.heap.size ∧ Below w.heap.size w wr) (fun i _ => n - (intOf i).toNat)
  case atStart =>
    refine ⟨0, by omega, rfl, ?_, ?_, by simp, by (repeat' (first | (with_reducible exact Below.refl _ _) | (with_reducible assumption) | (with_reducible refine Below.alloc ?_ ?_ _) | (with_reducible refine Below.drew ?_) | (with_reducible refine below_drewN ?_ _) | (with_reducible refine Below.setCell ?_ ?_ _) | (with_reducible exact Nat.le_refl _) | omega | (simp <;> omega)))⟩
    · show Box6 _ _ _; simp [Box6, cntF, go_sem]
    · show Box6 _ _ _; simp [Box6, go_sem]
  case round =>
    obtain ⟨k, hk, rfl, Hx, Hr, hz, hB⟩ := hrel
    have hsz := hB.size
    have hz0 : w.heap.size < wr.heap.size := by omega
    by_cases hlt : k < n
    · obtain ⟨b, off, rfl, hbl, c0, c1⟩ := Hh.out.frame_at hlt
      have d0 := (hB.cell (p := ⟨b, off + k * 2, none⟩) hbl).trans c0
      have d1 := (hB.cell (p := ⟨b, off + k * 2 + 1, none⟩) hbl).trans c1
      have hkl : k < fs.length := by rw [Hl.out]; exact hlt
      obtain ⟨s0, s5⟩ := HF.out.at_ hkl
      have hle := fun s => Nat.le_trans (cnt_le (fs.take k) s) (List.length_take_le k fs)
      obtain ⟨⟨S, B⟩, hf⟩ : ∃ f, fs.getD k FrD.zero = f := ⟨_, rfl⟩
      rw [hf] at d0 d1 s0 s5
      have hst : (fs.getD k FrD.zero).st = S := by rw [hf]
      dsimp only at d0 d1 s0 s5
      have Hst := Lib.hid hst
      have hq : ∀ s, s ≠ S → cntF (fs.take (k + 1)) s = cntF (fs.take k) s := fun s hs => cnt_other hkl hst (fun e => hs e.symm)
      have hp := cnt_same hkl hst
      have Hq := Lib.hid hq
      have Hp := Lib.hid hp
      obtain ⟨x0, x1, x2, x3, x4, x5, f0, f1, f2, f3, f4, f5⟩ := Hx.out
      obtain ⟨y0, y1, y2, y3, y4, y5, g0, g1, g2, g3, g4, g5⟩ := Hr.out
      have hlt' : (k : Int) < (n : Int) := by omega
      have hl0 := hle 0
      have hl1 := hle 1
      have hl2 := hle 2
      have hl3 := hle 3
      have hl4 := hle 4
      have hl5 := hle 5
      obtain ⟨C0, hC0⟩ : ∃ C, cntF (fs.take k) 0 = C := ⟨_, rfl⟩
      obtain ⟨C1, hC1⟩ : ∃ C, cntF (fs.take k) 1 = C := ⟨_, rfl⟩
      obtain ⟨C2, hC2⟩ : ∃ C, cntF (fs.take k) 2 = C := ⟨_, rfl⟩
      obtain ⟨C3, hC3⟩ : ∃ C, cntF (fs.take k) 3 = C := ⟨_, rfl⟩
      obtain ⟨C4, hC4⟩ : ∃ C, cntF (fs.take k) 4 = C := ⟨_, rfl⟩
      obtain ⟨C5, hC5⟩ : ∃ C, cntF (fs.take k) 5 = C := ⟨_, rfl⟩
      rw [hC0] at x0 hl0
      have HC0 := Lib.hid hC0
      rw [hC1] at x1 hl1
      have HC1 := Lib.hid hC1
      rw [hC2] at x2 hl2
      have HC2 := Lib.hid hC2
      rw [hC3] at x3 hl3
      have HC3 := Lib.hid hC3
      rw [hC4] at x4 hl4
      have HC4 := Lib.hid hC4
      rw [hC5] at x5 hl5
      have HC5 := Lib.hid hC5
      clear c0 c1 hf hst hq hp hle hC0 hC1 hC2 hC3 hC4 hC5
      have hcs : S = 0 ∨ S = 1 ∨ S = 2 ∨ S = 3 ∨ S = 4 ∨ S = 5 := by omega
      rcases hcs with rfl | rfl | rfl | rfl | rfl | rfl
      · go_wp2_with fail
        go_roundw
        case rel =>
          refine ⟨k + 1, by omega, by go_num, ?_, ?_, by simp; omega, by (repeat' (first | (with_reducible exact Below.refl _ _) | (with_reducible assumption) | (with_reducible refine Below.alloc ?_ ?_ _) | (with_reducible refine Below.drew ?_) | (with_reducible refine below_drewN ?_ _) | (with_reducible refine Below.setCell ?_ ?_ _) | (with_reducible exact Nat.le_refl _) | omega | (simp <;> omega)))⟩
          · show Box6 _ _ _
            unfold Box6
            rw [Hp.out, Hq.out 1 (by decide), Hq.out 2 (by decide), Hq.out 3 (by decide), Hq.out 4 (by decide), Hq.out 5 (by decide), HC0.out, HC1.out, HC2.out, HC3.out, HC4.out, HC5.out]
            simp [go_sem, *]
          · show Box6 _ _ _
            unfold Box6
            simp [go_sem, *]
        case measure => simp [intOf]; omega
      · go_wp2_with fail
        go_roundw
        case rel =>
          refine ⟨k + 1, by omega, by go_num, ?_, ?_, by simp; omega, by (repeat' (first | (with_reducible exact Below.refl _ _) | (with_reducible assumption) | (with_reducible refine Below.alloc ?_ ?_ _) | (with_reducible refine Below.drew ?_) | (with_reducible refine below_drewN ?_ _) | (with_reducible refine Below.setCell ?_ ?_ _) | (with_reducible exact Nat.le_refl _) | omega | (simp <;> omega)))⟩
          · show Box6 _ _ _
            unfold Box6
            rw [Hq.out 0 (by decide), Hp.out, Hq.out 2 (by decide), Hq.out 3 (by decide), Hq.out 4 (by decide), Hq.out 5 (by decide), HC0.out, HC1.out, HC2.out, HC3.out, HC4.out, HC5.out]
            simp [go_sem, *]
          · show Box6 _ _ _
            unfold Box6
            simp [go_sem, *]
        case measure => simp [intOf]; omega
      · go_wp2_with fail
        go_roundw
        case rel =>
          refine ⟨k + 1, by omega, by go_num, ?_, ?_, by simp; omega, by (repeat' (first | (with_reducible exact Below.refl _ _) | (with_reducible assumption) | (with_reducible refine Below.alloc ?_ ?_ _) | (with_reducible refine Below.drew ?_) | (with_reducible refine below_drewN ?_ _) | (with_reducible refine Below.setCell ?_ ?_ _) | (with_reducible exact Nat.le_refl _) | omega | (simp <;> omega)))⟩
          · show Box6 _ _ _
            unfold Box6
            rw [Hq.out 0 (by decide), Hq.out 1 (by decide), Hp.out, Hq.out 3 (by decide), Hq.out 4 (by decide), Hq.out 5 (by decide), HC0.out, HC1.out, HC2.out, HC3.out, HC4.out, HC5.out]
            simp [go_sem, *]
          · show Box6 _ _ _
            unfold Box6
            simp [go_sem, *]
        case measure => simp [intOf]; omega
      · go_wp2_with fail
        go_roundw
        case rel =>
          refine ⟨k + 1, by omega, by go_num, ?_, ?_, by simp; omega, by (repeat' (first | (with_reducible exact Below.refl _ _) | (with_reducible assumption) | (with_reducible refine Below.alloc ?_ ?_ _) | (with_reducible refine Below.drew ?_) | (with_reducible refine below_drewN ?_ _) | (with_reducible refine Below.setCell ?_ ?_ _) | (with_reducible exact Nat.le_refl _) | omega | (simp <;> omega)))⟩
          · show Box6 _ _ _
            unfold Box6
            rw [Hq.out 0 (by decide), Hq.out 1 (by decide), Hq.out 2 (by decide), Hp.out, Hq.out 4 (by decide), Hq.out 5 (by decide), HC0.out, HC1.out, HC2.out, HC3.out, HC4.out, HC5.out]
            simp [go_sem, *]
          · show Box6 _ _ _
            unfold Box6
            simp [go_sem, *]
        case measure => simp [intOf]; omega
      · go_wp2_with fail
        go_roundw
        case rel =>
          refine ⟨k + 1, by omega, by go_num, ?_, ?_, by simp; omega, by (repeat' (first | (with_reducible exact Below.refl _ _) | (with_reducible assumption) | (with_reducible refine Below.alloc ?_ ?_ _) | (with_reducible refine Below.drew ?_) | (with_reducible refine below_drewN ?_ _) | (with_reducible refine Below.setCell ?_ ?_ _) | (with_reducible exact Nat.le_refl _) | omega | (simp <;> omega)))⟩
          · show Box6 _ _ _
            unfold Box6
            rw [Hq.out 0 (by decide), Hq.out 1 (by decide), Hq.out 2 (by decide), Hq.out 3 (by decide), Hp.out, Hq.out 5 (by decide), HC0.out, HC1.out, HC2.out, HC3.out, HC4.out, HC5.out]
            simp [go_sem, *]
          · show Box6 _ _ _
            unfold Box6
            simp [go_sem, *]
        case measure => simp [intOf]; omega
      · go_wp2_with fail
        go_roundw
        case rel =>
          refine ⟨k + 1, by omega, by go_num, ?_, ?_, by simp; omega, by (repeat' (first | (with_reducible exact Below.refl _ _) | (with_reducible assumption) | (with_reducible refine Below.alloc ?_ ?_ _) | (with_reducible refine Below.drew ?_) | (with_reducible refine below_drewN ?_ _) | (with_reducible refine Below.setCell ?_ ?_ _) | (with_reducible exact Nat.le_refl _) | omega | (simp <;> omega)))⟩
          · show Box6 _ _ _
            unfold Box6
            rw [Hq.out 0 (by decide), Hq.out 1 (by decide), Hq.out 2 (by decide), Hq.out 3 (by decide), Hq.out 4 (by decide), Hp.out, HC0.out, HC1.out, HC2.out, HC3.out, HC4.out, HC5.out]
            simp [go_sem, *]
          · show Box6 _ _ _
            unfold Box6
            simp [go_sem, *]
        case measure => simp [intOf]; omega
    · have hge : n ≤ k := by omega
      have hk' : k = n := by omega
      subst hk'
      have ht : fs.take k = fs := List.take_of_length_le (by rw [Hl.out]; exact Nat.le_refl _)
      have hx := Hx.out
      rw [ht] at hx
      obtain ⟨x0, x1, x2, x3, x4, x5, -⟩ := hx
      obtain ⟨y0, y1, y2, y3, y4, y5, g0, g1, g2, g3, g4, g5⟩ := Hr.out
      clear hlt ht
      go_wp2_with fail
      exact bodyPost_ret (v := .agg #[.int .i64 (cntF fs 0), .int .i64 (cntF fs 1), .int .i64 (cntF fs 2), .int .i64 (cntF fs 3), .int .i64 (cntF fs 4), .int .i64 (cntF fs 5)]) (by simp [results, Try.results60, go_sem, *]) rfl ⟨rfl, by (repeat' (first | (with_reducible exact Below.refl _ _) | (with_reducible assumption) | (with_reducible refine Below.alloc ?_ ?_ _) | (with_reducible refine Below.drew ?_) | (with_reducible refine below_drewN ?_ _) | (with_reducible refine Below.setCell ?_ ?_ _) | (with_reducible exact Nat.le_refl _) | omega | (simp <;> omega)))⟩
end Go.Proofs.Ytjlmgjpnfppkoaa
