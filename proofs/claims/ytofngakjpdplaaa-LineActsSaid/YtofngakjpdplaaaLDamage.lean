/-
  Contracts of functions of the given program (layer 30), walked.
-/
import Derived.Test.YtofngakjpdplaaaLClone
namespace Go.Proofs.Ytofngakjpdplaaa
open Go.RowKit
attribute [local go_sem ↓] Go.wp_at_zero Go.wp_at_succ

def damageF (L : LineD) : LineD := ⟨L.addr, List.replicate L.data.length 0, L.dirty, true⟩

set_option maxHeartbeats 1000000 in
theorem ldamage_any (v : Value) (L : LineD) (w : World) (h : IsLine w v L) (hn : L.data.length ≤ 1048576) :
    Calls Try.prog 17 #[v] w fun e w' => ∃ v', e = .returned v' ∧ OwnLine 5 w' w.heap.size v' (damageF L) ∧ Below w.heap.size w w' := by
  obtain ⟨A, c, rfl, h⟩ := h
  clear h
  have hmk := run_make_one (P := Try.prog) 22 5 .u8 1 info5 Try.underlying22 L.data.length (by omega) (by omega)
  go_enter Try.func17, Try.ntmps17
  go_wp2_with fail
  refine bodyPost_ret (v := .agg #[.int .i64 L.addr, .slice (some ⟨w.heap.size + 1 + 1, 0, none⟩) L.data.length L.data.length, .bool L.dirty, .bool true]) (by simp [results, Try.results17, go_sem]) rfl ?_
  have hl : (damageF L).data = List.replicate L.data.length 0 := rfl
  have hl2 : (damageF L).data.length = L.data.length := by rw [hl]; simp
  refine ⟨_, rfl, ⟨some ⟨w.heap.size + 1 + 1, 0, none⟩, L.data.length, by rw [hl2]; rfl, ?_⟩, by (repeat' (first | (with_reducible exact Below.refl _ _) | (with_reducible assumption) | (with_reducible refine Below.alloc ?_ ?_ _) | (with_reducible refine Below.drew ?_) | (with_reducible refine below_drewN ?_ _) | (with_reducible refine Below.setCell ?_ ?_ _) | (with_reducible exact Nat.le_refl _) | omega | (simp <;> omega)))⟩
  rw [hl2, hl]
  exact own_zeros_at _ _ _ _ _ (by omega) (by simp) (by omega)
set_option maxHeartbeats 1000000 in
theorem rdamage_any (v : Value) (L : LineD) (w : World) (h : IsLine w v L) (hn : L.data.length ≤ 1048576) :
    Calls Try.prog 18 #[v] w fun e w' => ∃ v', e = .returned v' ∧ OwnLine 5 w' w.heap.size v' (damageF L) ∧ Below w.heap.size w w' := by
  obtain ⟨A, c, rfl, h⟩ := h
  clear h
  have hmk := run_make_one (P := Try.prog) 22 5 .u8 1 info5 Try.underlying22 L.data.length (by omega) (by omega)
  go_enter Try.func18, Try.ntmps18
  go_wp2_with fail
  go_region_held3 (fun w' => w'.cell? ⟨w.heap.size, 0, none⟩ = some (.int .i64 L.addr) ∧ w'.cell? ⟨w.heap.size, 1, none⟩ = some (.slice A L.data.length c) ∧ w'.cell? ⟨w.heap.size, 2, none⟩ = some (.bool L.dirty)) (go_keep) (fail)
  go_wp2_with fail
  refine bodyPost_ret (v := .agg #[.int .i64 L.addr, .slice (some ⟨w.heap.size + 1 + 1, 0, none⟩) L.data.length L.data.length, .bool L.dirty, .bool true]) (by simp [results, Try.results18, go_sem]) rfl ?_
  have hl : (damageF L).data = List.replicate L.data.length 0 := rfl
  have hl2 : (damageF L).data.length = L.data.length := by rw [hl]; simp
  refine ⟨_, rfl, ⟨some ⟨w.heap.size + 1 + 1, 0, none⟩, L.data.length, by rw [hl2]; rfl, ?_⟩, by (repeat' (first | (with_reducible exact Below.refl _ _) | (with_reducible assumption) | (with_reducible refine Below.alloc ?_ ?_ _) | (with_reducible refine Below.drew ?_) | (with_reducible refine below_drewN ?_ _) | (with_reducible refine Below.setCell ?_ ?_ _) | (with_reducible exact Nat.le_refl _) | omega | (simp <;> omega)))⟩
  rw [hl2, hl]
  exact own_zeros_at _ _ _ _ _ (by omega) (by simp) (by omega)
end Go.Proofs.Ytofngakjpdplaaa
