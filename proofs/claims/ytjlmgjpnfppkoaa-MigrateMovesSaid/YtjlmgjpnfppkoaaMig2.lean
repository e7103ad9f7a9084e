/-
  Contracts of functions of the given program (layer 35), walked: lines in order.
-/
import Derived.LoopTactic
import Derived.Test.YtjlmgjpnfppkoaaMig
import Derived.Test.YtjlmgjpnfppkoaaLines
namespace Go.Proofs.Ytjlmgjpnfppkoaa
open Go.RowKit
attribute [local go_sem ↓] Go.wp_at_zero Go.wp_at_succ

/-- Lines of a whole frame, in order. -/
def ordB (xs : List LineV) : Bool := ((List.range xs.length).all fun j => (xs.getD j LineV.zero).L.addr == IntKind.i64.wrap ((xs.getD 0 LineV.zero).L.addr + j)) && ((xs.getD 0 LineV.zero).L.addr.tmod 4 == 0 && decide (0 ≤ (xs.getD 0 LineV.zero).L.addr ∧ (xs.getD 0 LineV.zero).L.addr / 4 < 64))
theorem ordB_false {xs : List LineV} {j : Nat} (hj : j < xs.length) (h : (xs.getD j LineV.zero).L.addr ≠ IntKind.i64.wrap ((xs.getD 0 LineV.zero).L.addr + j)) : ordB xs = false := by
  have : ((List.range xs.length).all fun j => (xs.getD j LineV.zero).L.addr == IntKind.i64.wrap ((xs.getD 0 LineV.zero).L.addr + j)) = false := by
    rw [Bool.eq_false_iff]
    intro hall
    have := List.all_eq_true.1 hall j (List.mem_range.2 hj)
    exact h (by simpa using this)
  rw [ordB, this, Bool.false_and]
theorem ordB_rest {xs : List LineV} (h : ∀ j, j < xs.length → (xs.getD j LineV.zero).L.addr = IntKind.i64.wrap ((xs.getD 0 LineV.zero).L.addr + j)) :
    ordB xs = ((xs.getD 0 LineV.zero).L.addr.tmod 4 == 0 && decide (0 ≤ (xs.getD 0 LineV.zero).L.addr ∧ (xs.getD 0 LineV.zero).L.addr / 4 < 64)) := by
  have : ((List.range xs.length).all fun j => (xs.getD j LineV.zero).L.addr == IntKind.i64.wrap ((xs.getD 0 LineV.zero).L.addr + j)) = true :=
    List.all_eq_true.2 fun j hj => by simpa using h j (List.mem_range.1 hj)
  rw [ordB, this, Bool.true_and]

set_option maxRecDepth 100000 in
set_option maxHeartbeats 2000000 in
theorem ordered_any (A : Option Addr) (n c : Nat) (xs : List LineV) (w : World) (h : IsLines w A n xs) (h1 : 1 ≤ n) (hn : n ≤ 1048576) (hr : (xs.getD 0 LineV.zero).L.addr ≤ 9223372036854775807) :
    Calls Try.prog 65 #[.slice A n c] w fun e w' => e = .returned (.bool (ordB xs)) ∧ Below w.heap.size w w' := by
  have Hl := Lib.hid h.len
  have HI := Lib.hid h
  obtain ⟨b, off, rfl, hb, c0, -⟩ := h.at_ (k := 0) (by omega)
  obtain ⟨F, hF⟩ : ∃ F, (xs.getD 0 LineV.zero).L.addr = F := ⟨_, rfl⟩
  rw [hF] at c0 hr
  simp only [Nat.zero_mul, Nat.add_zero] at c0
  have HF := Lib.hid hF
  clear h hF
  go_enter Try.func65, Try.ntmps65
  go_wp2_with fail
  go_loopw [12] (fun i wr => ∃ k : Nat, k ≤ n ∧ i = .int .i64 k ∧ Hid (∀ j, j < k → (xs.getD j LineV.zero).L.addr = IntKind.i64.wrap (F + j)) ∧ Below w.heap.size w wr) (fun i _ => n - (intOf i).toNat)
  case atStart => exact ⟨0, by omega, rfl, fun j hj => absurd hj (by omega), Below.refl _ _⟩
  case round =>
    obtain ⟨k, hk, rfl, Hb, hB⟩ := hrel
    have hsz := hB.size
    by_cases hlt : k < n
    · obtain ⟨b', off', e', -, d0, d1, d2, d3, -⟩ := HI.out.at_ hlt
      injection e' with e'
      injection e' with e1 e2
      subst e1 e2
      have g0 := (hB.cell (p := ⟨b, off + k * 4, none⟩) hb).trans d0
      have g1 := (hB.cell (p := ⟨b, off + k * 4 + 1, none⟩) hb).trans d1
      have g2 := (hB.cell (p := ⟨b, off + k * 4 + 2, none⟩) hb).trans d2
      have g3 := (hB.cell (p := ⟨b, off + k * 4 + 3, none⟩) hb).trans d3
      obtain ⟨x, hx⟩ : ∃ x, xs.getD k LineV.zero = x := ⟨_, rfl⟩
      rw [hx] at g0 g1 g2 g3
      obtain ⟨V, hV⟩ : ∃ V, IntKind.i64.wrap (F + k) = V := ⟨_, rfl⟩
      have Hx := Lib.hid hx
      have HV := Lib.hid hV
      obtain ⟨⟨a, bs, d, p⟩, A2, c2⟩ := x
      dsimp only at g0 g1 g2 g3
      clear d0 d1 d2 d3 hx
      have hlt' : (k : Int) < (n : Int) := by omega
      by_cases ha : a = V
      · subst ha
        go_wp2_with fail
        go_roundw
        case rel =>
          refine ⟨k + 1, by omega, by go_num, fun j hj => ?_, by (repeat' (first | (with_reducible exact Below.refl _ _) | (with_reducible assumption) | (with_reducible refine Below.alloc ?_ ?_ _) | (with_reducible refine Below.drew ?_) | (with_reducible refine below_drewN ?_ _) | (with_reducible refine Below.setCell ?_ ?_ _) | (with_reducible exact Nat.le_refl _) | omega | (simp <;> omega)))⟩
          by_cases hjk : j = k
          · rw [hjk, Hx.out, HV.out]
          · exact Hb.out j (by omega)
        case measure => simp [intOf]; omega
      · have ha' : (a != V) = true := by simp [ha]
        go_wp2_with fail
        go_ret
        refine ⟨ret_bool (ordB_false (j := k) (by rw [Hl.out]; exact hlt) ?_).symm, by (repeat' (first | (with_reducible exact Below.refl _ _) | (with_reducible assumption) | (with_reducible refine Below.alloc ?_ ?_ _) | (with_reducible refine Below.drew ?_) | (with_reducible refine below_drewN ?_ _) | (with_reducible refine Below.setCell ?_ ?_ _) | (with_reducible exact Nat.le_refl _) | omega | (simp <;> omega)))⟩
        rw [HF.out, Hx.out, HV.out]
        exact ha
    · have hge : n ≤ k := by omega
      clear hlt
      have Ho := Lib.hid (ordB_rest (xs := xs) (fun j hj => by rw [HF.out]; exact Hb.out j (by rw [Hl.out] at hj; omega)))
      by_cases h4 : F.tmod 4 = 0
      · by_cases hF0 : F < 0
        · go_wp2_with (first | (go_at_call 27; refine (frame_neg _ _ hF0).mono ?_; rintro e w' ⟨rfl, rfl⟩) | (go_at_call 66; refine (framesB_any _ _).mono ?_; rintro e w' ⟨rfl, rfl⟩))
          go_ret
          refine ⟨ret_bool ?_, hB⟩
          rw [Ho.out, HF.out]
          simp
          intros
          omega
        · go_wp2_with (first | (go_at_call 27; refine (frame_pos _ _ (by omega) hr).mono ?_; rintro e w' ⟨rfl, rfl⟩) | (go_at_call 66; refine (framesB_any _ _).mono ?_; rintro e w' ⟨rfl, rfl⟩))
          go_ret
          refine ⟨ret_bool ?_, hB⟩
          rw [Ho.out, HF.out, h4, Bool.eq_iff_iff]
          simp
          omega
      · have h4' : (F.tmod 4 == 0) = false := by simp [h4]
        go_wp2_with fail
        go_ret
        refine ⟨ret_bool ?_, hB⟩
        rw [Ho.out, HF.out, h4']
        simp
end Go.Proofs.Ytjlmgjpnfppkoaa
