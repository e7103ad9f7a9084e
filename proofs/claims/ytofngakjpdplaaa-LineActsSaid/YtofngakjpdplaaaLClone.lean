/-
  Contracts of functions of the given program (layer 30), walked.
-/
import Derived.Test.YtofngakjpdplaaaBase
namespace Go.Proofs.Ytofngakjpdplaaa
open Go.RowKit

theorem info5 : (Try.prog.info? 5).map (fun i => (i.zero, i.size, i.bytes)) = some (some (.int .u8 0), 1, 1) := by kernel_rfl

set_option maxHeartbeats 400000 in
theorem clone_any (A : Option Addr) (n c : Nat) (bs : List UInt8) (w : World) (h : Has w A n 1 (byteVals bs)) (hn : n ≤ 1048576) :
    Calls Try.prog 21 #[.slice A n c] w fun e w' => ∃ A' c', e = .returned (.slice A' n c') ∧ w'.ownsRow w.heap.size 5 1 (.slice A' n c') n (byteVals bs) ∧ Below w.heap.size w w' := by
  have hq := fun (w : World) => Lib.run_eql_slice_nil (P := Try.prog) w 22 5 A n c 0 0 Try.underlying22
  rcases A with _ | ad
  · have hn0 : n = 0 := by
      rcases Nat.eq_zero_or_pos n with h0 | h0
      · exact h0
      · obtain ⟨b, off, h', _⟩ := h.2 (by omega)
        cases h'
    subst hn0
    have hb : bs = [] := List.eq_nil_of_length_eq_zero (by have := h.1; simp [byteVals] at this; exact List.length_eq_zero_iff.2 this)
    subst hb
    go_enter Try.func21, Try.ntmps21
    go_wp2
    go_ret
    exact ⟨none, 0, rfl, World.ownsRow_nil _ _ _ _, Below.refl _ _⟩
  · have Hh := Lib.hid h
    clear h
    go_enter Try.func21, Try.ntmps21
    go_wp2_with (first
      | (at_builtin; refine wpList_copy_has _ rfl (.tmp 5) (.tmp 6) 22 rfl w.heap.size 5 _ 1 1 info5 Try.underlying22 rfl (by decide) _ rfl (World.ownsRow_made _ #[] 0 (Nat.le_refl _) (by decide) rfl) _ _ _ (byteVals bs) rfl (Hh.out.alloc _) (byteVals_one _) (by omega) (by omega) (by simp) ?_; intro A' c' w1 hown hb))
    go_ret
    exact ⟨A', c', rfl, hown, ((Below.refl _ _).alloc (Nat.le_refl _) _).trans hb⟩

set_option maxHeartbeats 400000 in
theorem lcopy_any (v : Value) (L : LineD) (w : World) (h : IsLine w v L) (hn : L.data.length ≤ 1048576) :
    Calls Try.prog 19 #[v] w fun e w' => ∃ v', e = .returned v' ∧ OwnLine 5 w' w.heap.size v' L ∧ Below w.heap.size w w' := by
  obtain ⟨A, c, rfl, h⟩ := h
  have Hh := Lib.hid h
  clear h
  go_enter Try.func19, Try.ntmps19
  go_wp2_with fail
  refine (clone_any _ _ _ L.data _ ((Hh.out.alloc _).alloc _) hn).mono ?_
  rintro e w1 ⟨A', c', rfl, hown, hb⟩
  obtain ⟨c0, f0⟩ := bkeep hb w.heap.size (by simp <;> omega)
  obtain ⟨c1, f1⟩ := bkeep hb (w.heap.size + 1) (by simp <;> omega)
  have hs := hb.size
  go_wp2_with fail
  refine bodyPost_ret (v := .agg #[.int .i64 L.addr, .slice A' L.data.length c', .bool L.dirty, .bool L.poison]) (by simp [results, Try.results19, go_sem, c1]) rfl ?_
  refine ⟨_, rfl, ⟨A', c', rfl, ?_⟩, ?_⟩
  · simp only [World.size_alloc] at hown
    refine ownsRow_base (B := w.heap.size + 1 + 1) ?_ (by omega)
    iterate 5 refine own_put ?_ (by omega) _
    exact hown
  · iterate 5 refine below_put ?_ (by omega) _
    exact (((Below.refl _ _).alloc (Nat.le_refl _) _).alloc (by simp) _).trans (hb.mono (by simp <;> omega))

set_option maxHeartbeats 400000 in
theorem rcopy_any (v : Value) (L : LineD) (w : World) (h : IsLine w v L) (hn : L.data.length ≤ 1048576) :
    Calls Try.prog 20 #[v] w fun e w' => ∃ v', e = .returned v' ∧ OwnLine 5 w' w.heap.size v' L ∧ Below w.heap.size w w' := by
  obtain ⟨A, c, rfl, h⟩ := h
  have Hh := Lib.hid h
  clear h
  go_enter Try.func20, Try.ntmps20
  go_wp2_with (first
      | (at_builtin; refine wpList_copy_has _ rfl (.const (.slice none 0 0)) (.tmp 4) 22 rfl (w.heap.size + 1 + 1) 5 _ 1 1 info5 Try.underlying22 rfl (by decide) (.slice none 0 0) rfl (World.ownsRow_nil _ _ _ _) _ _ _ (byteVals L.data) rfl ((Hh.out.alloc _).alloc _) (byteVals_one _) (by omega) (by omega) (by simp) ?_; intro A' c' w1 hown hb; obtain ⟨c0, f0⟩ := bkeep hb w.heap.size (by omega); obtain ⟨c1, f1⟩ := bkeep hb (w.heap.size + 1) (by omega); have hs := hb.size))
  refine bodyPost_ret (v := .agg #[.int .i64 L.addr, .slice A' L.data.length c', .bool L.dirty, .bool L.poison]) (by simp [results, Try.results20, go_sem, c1]) rfl ?_
  refine ⟨_, rfl, ⟨A', c', rfl, ?_⟩, ?_⟩
  · refine ownsRow_base (B := w.heap.size + 1 + 1) ?_ (by omega)
    iterate 5 refine own_put ?_ (by omega) _
    exact hown
  · iterate 5 refine below_put ?_ (by omega) _
    exact (((Below.refl _ _).alloc (Nat.le_refl _) _).alloc (by simp) _).trans (hb.mono (by omega))

end Go.Proofs.Ytofngakjpdplaaa
