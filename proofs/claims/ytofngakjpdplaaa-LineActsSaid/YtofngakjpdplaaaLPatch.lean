/-
  Contracts of functions of the given program (layer 30), walked.
-/
import Derived.Test.YtofngakjpdplaaaLClone
namespace Go.Proofs.Ytofngakjpdplaaa
open Go.RowKit
attribute [local go_sem ↓] Go.wp_at_zero Go.wp_at_succ

def patchF (L : LineD) (k : Int) (b : UInt8) : LineD := if 0 ≤ k ∧ k < L.data.length then ⟨L.addr, L.data.set k.toNat b, true, L.poison⟩ else LineD.zero
def patchE (L : LineD) (k : Int) : Int := if 0 ≤ k ∧ k < L.data.length then 0 else 2

set_option maxHeartbeats 1000000 in
theorem lpatch_any (v : Value) (L : LineD) (k : Int) (b : UInt8) (w : World) (h : IsLine w v L) (hn : L.data.length ≤ 1048576) :
    Calls Try.prog 10 #[v, .int .i64 k, .int .u8 b.toNat] w fun e w' => ∃ v', e = .returned (.tuple #[v', .int .i64 (patchE L k)]) ∧ OwnLine 5 w' w.heap.size v' (patchF L k b) ∧ Below w.heap.size w w' := by
  have h0 := Lib.hid h
  obtain ⟨A, c, rfl, h⟩ := h
  clear h
  by_cases hk : 0 ≤ k ∧ k < L.data.length
  · have hs : patchF L k b = _ := if_pos hk
    have he : patchE L k = 0 := if_pos hk
    rewrite [hs, he]
    clear hs he
    obtain ⟨hk0, hk1⟩ := hk
    obtain ⟨j, rfl⟩ := Int.eq_ofNat_of_zero_le hk0
    have hj : j < L.data.length := by omega
    go_enter Try.func10, Try.ntmps10
    go_wp2_with fail
    refine (lcopy_any _ L _ ((h0.out.alloc _).alloc _) hn).mono ?_
    rintro e w1 ⟨v1, rfl, ⟨A1, c1, rfl, hown⟩, hb1⟩
    have hs1 := hb1.size
    simp only [World.size_alloc] at hown hs1
    obtain ⟨g, rfl, hg, hg1⟩ := own_some hown (by omega)
    obtain ⟨k0, f0⟩ := bkeep hb1 w.heap.size (by (first | (with_reducible exact Nat.le_refl _) | (with_reducible assumption) | omega | (simp <;> omega)))
    obtain ⟨k1, f1⟩ := bkeep hb1 (w.heap.size + 1) (by (first | (with_reducible exact Nat.le_refl _) | (with_reducible assumption) | omega | (simp <;> omega)))
    have hb1' := (show Below w.heap.size w _ by (repeat' (first | (with_reducible exact Below.refl _ _) | (with_reducible assumption) | (with_reducible refine Below.alloc ?_ ?_ _) | (with_reducible refine Below.drew ?_) | (with_reducible refine below_drewN ?_ _) | (with_reducible refine Below.setCell ?_ ?_ _) | (with_reducible exact Nat.le_refl _) | omega | (simp <;> omega)))).trans (hb1.mono (show w.heap.size ≤ _ by (first | (with_reducible exact Nat.le_refl _) | (with_reducible assumption) | omega | (simp <;> omega))))
    have q0 := hown.frozenAt j
    have q1 : w1.cell? ⟨g, j, none⟩ = some (.int .u8 (L.data[j]).toNat) := by rw [hown.cellAt j (by omega)]; simp [byteVals, hj]
    have l0 : w.heap.size < w1.heap.size := by omega
    have l1 : w.heap.size + 1 < w1.heap.size := by omega
    have hne1 : ¬ g = w.heap.size + 1 := by omega
    have hne0 : ¬ g = w.heap.size := by omega
    go_wp2_with fail
    have hst := (hown.stored j (.int .u8 b.toNat)).1
    have hset : (byteVals L.data).set j (.int .u8 b.toNat) = byteVals (L.data.set j b) := by simp [byteVals, List.map_set]
    rw [hset] at hst
    refine bodyPost_ret (v := .tuple #[.agg #[.int .i64 L.addr, .slice (some ⟨g, 0, none⟩) L.data.length c1, .bool true, .bool L.poison], .int .i64 0]) (by simp [results, Try.results10, go_sem, k1, l1]) rfl ?_
    refine ⟨_, rfl, ⟨some ⟨g, 0, none⟩, c1, by simp, ?_⟩, by (repeat' (first | (with_reducible exact Below.refl _ _) | (with_reducible assumption) | (with_reducible refine Below.alloc ?_ ?_ _) | (with_reducible refine Below.drew ?_) | (with_reducible refine below_drewN ?_ _) | (with_reducible refine Below.setCell ?_ ?_ _) | (with_reducible exact Nat.le_refl _) | omega | (simp <;> omega)))⟩
    simp only [Int.toNat_natCast, List.length_set]
    refine ownsRow_base (B := w.heap.size + 1 + 1) ?_ (by omega)
    (repeat' (first | (with_reducible assumption) | (with_reducible refine own_put ?_ ?_ _) | (with_reducible refine own_new ?_ _) | (with_reducible refine own_drew ?_) | (with_reducible refine own_drewN ?_ _) | omega))
  · have hs : patchF L k b = LineD.zero := if_neg hk
    have he : patchE L k = 2 := if_neg hk
    rewrite [hs, he]
    clear hs he
    by_cases hk0 : k < 0
    · clear hk
      go_enter Try.func10, Try.ntmps10
      go_wp2_with fail
      refine bodyPost_ret (v := .tuple #[.agg #[.int .i64 0, .slice none 0 0, .bool false, .bool false], .int .i64 2]) (by simp [results, Try.results10, go_sem]) rfl ?_
      exact ⟨_, rfl, OwnLine.zero_ _ _ _, by (repeat' (first | (with_reducible exact Below.refl _ _) | (with_reducible assumption) | (with_reducible refine Below.alloc ?_ ?_ _) | (with_reducible refine Below.drew ?_) | (with_reducible refine below_drewN ?_ _) | (with_reducible refine Below.setCell ?_ ?_ _) | (with_reducible exact Nat.le_refl _) | omega | (simp <;> omega)))⟩
    · have hk1 : (L.data.length : Int) ≤ k := by omega
      clear hk
      go_enter Try.func10, Try.ntmps10
      go_wp2_with fail
      refine bodyPost_ret (v := .tuple #[.agg #[.int .i64 0, .slice none 0 0, .bool false, .bool false], .int .i64 2]) (by simp [results, Try.results10, go_sem]) rfl ?_
      exact ⟨_, rfl, OwnLine.zero_ _ _ _, by (repeat' (first | (with_reducible exact Below.refl _ _) | (with_reducible assumption) | (with_reducible refine Below.alloc ?_ ?_ _) | (with_reducible refine Below.drew ?_) | (with_reducible refine below_drewN ?_ _) | (with_reducible refine Below.setCell ?_ ?_ _) | (with_reducible exact Nat.le_refl _) | omega | (simp <;> omega)))⟩
set_option maxHeartbeats 1000000 in
theorem rpatch_any (v : Value) (L : LineD) (k : Int) (b : UInt8) (w : World) (h : IsLine w v L) (hn : L.data.length ≤ 1048576) :
    Calls Try.prog 11 #[v, .int .i64 k, .int .u8 b.toNat] w fun e w' => ∃ v', e = .returned (.tuple #[v', .int .i64 (patchE L k)]) ∧ OwnLine 5 w' w.heap.size v' (patchF L k b) ∧ Below w.heap.size w w' := by
  have h0 := Lib.hid h
  obtain ⟨A, c, rfl, h⟩ := h
  clear h
  by_cases hk : 0 ≤ k ∧ k < L.data.length
  · have hs : patchF L k b = _ := if_pos hk
    have he : patchE L k = 0 := if_pos hk
    rewrite [hs, he]
    clear hs he
    obtain ⟨hk0, hk1⟩ := hk
    obtain ⟨j, rfl⟩ := Int.eq_ofNat_of_zero_le hk0
    have hj : j < L.data.length := by omega
    go_enter Try.func11, Try.ntmps11
    go_wp2_with fail
    refine (rcopy_any _ L _ ((h0.out.alloc _).alloc _) hn).mono ?_
    rintro e w1 ⟨v1, rfl, ⟨A1, c1, rfl, hown⟩, hb1⟩
    have hs1 := hb1.size
    simp only [World.size_alloc] at hown hs1
    obtain ⟨g, rfl, hg, hg1⟩ := own_some hown (by omega)
    obtain ⟨k0, f0⟩ := bkeep hb1 w.heap.size (by (first | (with_reducible exact Nat.le_refl _) | (with_reducible assumption) | omega | (simp <;> omega)))
    obtain ⟨k1, f1⟩ := bkeep hb1 (w.heap.size + 1) (by (first | (with_reducible exact Nat.le_refl _) | (with_reducible assumption) | omega | (simp <;> omega)))
    have hb1' := (show Below w.heap.size w _ by (repeat' (first | (with_reducible exact Below.refl _ _) | (with_reducible assumption) | (with_reducible refine Below.alloc ?_ ?_ _) | (with_reducible refine Below.drew ?_) | (with_reducible refine below_drewN ?_ _) | (with_reducible refine Below.setCell ?_ ?_ _) | (with_reducible exact Nat.le_refl _) | omega | (simp <;> omega)))).trans (hb1.mono (show w.heap.size ≤ _ by (first | (with_reducible exact Nat.le_refl _) | (with_reducible assumption) | omega | (simp <;> omega))))
    have q0 := hown.frozenAt j
    have q1 : w1.cell? ⟨g, j, none⟩ = some (.int .u8 (L.data[j]).toNat) := by rw [hown.cellAt j (by omega)]; simp [byteVals, hj]
    have l0 : w.heap.size < w1.heap.size := by omega
    have l1 : w.heap.size + 1 < w1.heap.size := by omega
    have hne1 : ¬ g = w.heap.size + 1 := by omega
    have hne0 : ¬ g = w.heap.size := by omega
    go_wp2_with fail
    have hst := (hown.stored j (.int .u8 b.toNat)).1
    have hset : (byteVals L.data).set j (.int .u8 b.toNat) = byteVals (L.data.set j b) := by simp [byteVals, List.map_set]
    rw [hset] at hst
    refine bodyPost_ret (v := .tuple #[.agg #[.int .i64 L.addr, .slice (some ⟨g, 0, none⟩) L.data.length c1, .bool true, .bool L.poison], .int .i64 0]) (by simp [results, Try.results11, go_sem, k1, l1]) rfl ?_
    refine ⟨_, rfl, ⟨some ⟨g, 0, none⟩, c1, by simp, ?_⟩, by (repeat' (first | (with_reducible exact Below.refl _ _) | (with_reducible assumption) | (with_reducible refine Below.alloc ?_ ?_ _) | (with_reducible refine Below.drew ?_) | (with_reducible refine below_drewN ?_ _) | (with_reducible refine Below.setCell ?_ ?_ _) | (with_reducible exact Nat.le_refl _) | omega | (simp <;> omega)))⟩
    simp only [Int.toNat_natCast, List.length_set]
    refine ownsRow_base (B := w.heap.size + 1 + 1) ?_ (by omega)
    (repeat' (first | (with_reducible assumption) | (with_reducible refine own_put ?_ ?_ _) | (with_reducible refine own_new ?_ _) | (with_reducible refine own_drew ?_) | (with_reducible refine own_drewN ?_ _) | omega))
  · have hs : patchF L k b = LineD.zero := if_neg hk
    have he : patchE L k = 2 := if_neg hk
    rewrite [hs, he]
    clear hs he
    by_cases hk0 : k < 0
    · clear hk
      go_enter Try.func11, Try.ntmps11
      go_wp2_with fail
      refine bodyPost_ret (v := .tuple #[.agg #[.int .i64 0, .slice none 0 0, .bool false, .bool false], .int .i64 2]) (by simp [results, Try.results11, go_sem]) rfl ?_
      exact ⟨_, rfl, OwnLine.zero_ _ _ _, by (repeat' (first | (with_reducible exact Below.refl _ _) | (with_reducible assumption) | (with_reducible refine Below.alloc ?_ ?_ _) | (with_reducible refine Below.drew ?_) | (with_reducible refine below_drewN ?_ _) | (with_reducible refine Below.setCell ?_ ?_ _) | (with_reducible exact Nat.le_refl _) | omega | (simp <;> omega)))⟩
    · have hk1 : (L.data.length : Int) ≤ k := by omega
      clear hk
      go_enter Try.func11, Try.ntmps11
      go_wp2_with fail
      refine bodyPost_ret (v := .tuple #[.agg #[.int .i64 0, .slice none 0 0, .bool false, .bool false], .int .i64 2]) (by simp [results, Try.results11, go_sem]) rfl ?_
      exact ⟨_, rfl, OwnLine.zero_ _ _ _, by (repeat' (first | (with_reducible exact Below.refl _ _) | (with_reducible assumption) | (with_reducible refine Below.alloc ?_ ?_ _) | (with_reducible refine Below.drew ?_) | (with_reducible refine below_drewN ?_ _) | (with_reducible refine Below.setCell ?_ ?_ _) | (with_reducible exact Nat.le_refl _) | omega | (simp <;> omega)))⟩
end Go.Proofs.Ytofngakjpdplaaa
