/-
  Contracts of small functions of the given program: remainders, copies of bytes and lines, comparing lines.
-/
import Derived.Test.YtjlmgjpnfppkoaaBase
namespace Go.Proofs.Ytjlmgjpnfppkoaa
open Go.RowKit

def mod (n m : Int) : Int := if m < 1 then 0 else n % m

theorem emod_tmod (n m : Int) : n % m = (n.tmod m) % m := by
  have h := Int.mul_tdiv_add_tmod n m
  have h2 : (m * n.tdiv m + n.tmod m) % m = (n.tmod m) % m := Int.mul_add_emod_self_left _ _ _
  rw [h] at h2
  exact h2
theorem mod_range (n m : Int) (h : 1 ≤ m) : 0 ≤ mod n m ∧ mod n m < m := by
  rw [mod, if_neg (by omega)]
  exact ⟨Int.emod_nonneg _ (by omega), Int.emod_lt_of_pos _ (by omega)⟩
theorem mod_of_neg (n m : Int) (h : 1 ≤ m) (h2 : n.tmod m < 0) : n.tmod m + m = mod n m := by
  have hlt := Int.lt_tmod_of_pos n (show 0 < m by omega)
  rw [mod, if_neg (by omega), emod_tmod, ← Int.add_emod_right]
  exact (Int.emod_eq_of_lt (by omega) (by omega)).symm
theorem mod_of_nonneg (n m : Int) (h : 1 ≤ m) (h2 : 0 ≤ n.tmod m) : n.tmod m = mod n m := by
  have hlt := Int.tmod_lt_of_pos n (show 0 < m by omega)
  rw [mod, if_neg (by omega), emod_tmod]
  exact (Int.emod_eq_of_lt (by omega) (by omega)).symm

set_option maxHeartbeats 400000 in
theorem mod_any (n m : Int) (w : World) (hm : m ≤ 9223372036854775807) :
    Calls Try.prog 20 #[.int .i64 n, .int .i64 m] w fun e w' => e = .returned (.int .i64 (mod n m)) ∧ w = w' := by
  by_cases h : m < 1
  · go_enter Try.func20, Try.ntmps20
    go_wp2
    go_ret
    exact ⟨ret_int (by simp [mod, h]), rfl⟩
  · by_cases h2 : n.tmod m < 0
    · have hlt := Int.lt_tmod_of_pos n (show 0 < m by omega)
      go_enter Try.func20, Try.ntmps20
      go_wp2
      go_ret
      exact ⟨ret_int (mod_of_neg n m (by omega) h2), rfl⟩
    · go_enter Try.func20, Try.ntmps20
      go_wp2
      go_ret
      exact ⟨ret_int (mod_of_nonneg n m (by omega) (by omega)), rfl⟩

theorem info5 : (Try.prog.info? 5).map (fun i => (i.zero, i.size, i.bytes)) = some (some (.int .u8 0), 1, 1) := by kernel_rfl

set_option maxHeartbeats 400000 in
theorem clone_any (A : Option Addr) (n c : Nat) (bs : List UInt8) (w : World) (h : Has w A n 1 (byteVals bs)) (hn : n ≤ 1048576) :
    Calls Try.prog 67 #[.slice A n c] w fun e w' => ∃ A' c', e = .returned (.slice A' n c') ∧ w'.ownsRow w.heap.size 5 1 (.slice A' n c') n (byteVals bs) ∧ Below w.heap.size w w' := by
  have hq := fun (w : World) => Lib.run_eql_slice_nil (P := Try.prog) w 26 5 A n c 0 0 Try.underlying26
  rcases A with _ | ad
  · have hn0 : n = 0 := by
      rcases Nat.eq_zero_or_pos n with h0 | h0
      · exact h0
      · obtain ⟨b, off, h', _⟩ := h.2 (by omega)
        cases h'
    subst hn0
    have hb : bs = [] := List.eq_nil_of_length_eq_zero (by have := h.1; simp [byteVals] at this; exact List.length_eq_zero_iff.2 this)
    subst hb
    go_enter Try.func67, Try.ntmps67
    go_wp2
    go_ret
    exact ⟨none, 0, rfl, World.ownsRow_nil _ _ _ _, Below.refl _ _⟩
  · have Hh := Lib.hid h
    clear h
    go_enter Try.func67, Try.ntmps67
    go_wp2_with (first
      | (at_builtin; refine wpList_copy_has _ rfl (.tmp 5) (.tmp 6) 26 rfl w.heap.size 5 _ 1 1 info5 Try.underlying26 rfl (by decide) _ rfl (World.ownsRow_made _ #[] 0 (Nat.le_refl _) (by decide) rfl) _ _ _ (byteVals bs) rfl (Hh.out.alloc _) (byteVals_one _) (by omega) (by omega) (by simp) ?_; intro A' c' w1 hown hb))
    go_ret
    exact ⟨A', c', rfl, hown, ((Below.refl _ _).alloc (Nat.le_refl _) _).trans hb⟩

set_option maxHeartbeats 400000 in
theorem rcopy_any (v : Value) (L : LineD) (w : World) (h : IsLine w v L) (hn : L.data.length ≤ 1048576) :
    Calls Try.prog 68 #[v] w fun e w' => ∃ v', e = .returned v' ∧ OwnLine 5 w' w.heap.size v' L ∧ Below w.heap.size w w' := by
  obtain ⟨A, c, rfl, h⟩ := h
  have Hh := Lib.hid h
  clear h
  go_enter Try.func68, Try.ntmps68
  go_wp2_with (first
      | (at_builtin; refine wpList_copy_has _ rfl (.const (.slice none 0 0)) (.tmp 4) 26 rfl (w.heap.size + 1 + 1) 5 _ 1 1 info5 Try.underlying26 rfl (by decide) (.slice none 0 0) rfl (World.ownsRow_nil _ _ _ _) _ _ _ (byteVals L.data) rfl ((Hh.out.alloc _).alloc _) (byteVals_one _) (by omega) (by omega) (by simp) ?_; intro A' c' w1 hown hb; obtain ⟨c0, f0⟩ := bkeep hb w.heap.size (by omega); obtain ⟨c1, f1⟩ := bkeep hb (w.heap.size + 1) (by omega); have hs := hb.size))
  refine bodyPost_ret (v := .agg #[.int .i64 L.addr, .slice A' L.data.length c', .bool L.dirty, .bool L.poison]) (by simp [results, Try.results68, go_sem, c1]) rfl ?_
  refine ⟨_, rfl, ⟨A', c', rfl, ?_⟩, ?_⟩
  · refine ownsRow_base (B := w.heap.size + 1 + 1) ?_ (by omega)
    iterate 5 refine own_put ?_ (by omega) _
    exact hown
  · iterate 5 refine below_put ?_ (by omega) _
    exact (((Below.refl _ _).alloc (Nat.le_refl _) _).alloc (by simp) _).trans (hb.mono (by omega))

def sameB (a b : LineD) : Bool := decide (a = b)
set_option maxHeartbeats 1000000 in
theorem same_any (v1 v2 : Value) (L1 L2 : LineD) (w : World) (h1 : IsLine w v1 L1) (h2 : IsLine w v2 L2) :
    Calls Try.prog 49 #[v1, v2] w fun e w' => e = .returned (.bool (sameB L1 L2)) ∧ Below w.heap.size w w' := by
  obtain ⟨A1, c1, rfl, h1⟩ := h1
  obtain ⟨A2, c2, rfl, h2⟩ := h2
  obtain ⟨a1, bs1, d1, p1⟩ := L1
  obtain ⟨a2, bs2, d2, p2⟩ := L2
  have q1 := fun o o' => run_string_has (P := Try.prog) 26 9 5 Try.underlying26 (by kernel_rfl) (by kernel_rfl) ((w.alloc o).alloc o') A1 bs1.length c1 bs1 ((h1.alloc _).alloc _)
  have q2 := fun o o' => run_string_has (P := Try.prog) 26 9 5 Try.underlying26 (by kernel_rfl) (by kernel_rfl) ((w.alloc o).alloc o') A2 bs2.length c2 bs2 ((h2.alloc _).alloc _)
  clear h1 h2
  go_enter Try.func49, Try.ntmps49
  go_wp2
  all_goals (go_ret; exact ⟨ret_bool (by simp [sameB, *] <;> (cases p1 <;> cases p2 <;> rfl)), by (repeat' (first | (with_reducible exact Below.refl _ _) | (with_reducible assumption) | (with_reducible refine Below.alloc ?_ ?_ _) | (with_reducible refine Below.drew ?_) | (with_reducible refine below_drewN ?_ _) | (with_reducible refine Below.setCell ?_ ?_ _) | (with_reducible exact Nat.le_refl _) | omega | (simp <;> omega)))⟩)
end Go.Proofs.Ytjlmgjpnfppkoaa
