/-
  Contracts of functions of the given program (layer 30), walked.
-/
import Derived.Test.YtofngakjpdplaaaLClone
namespace Go.Proofs.Ytofngakjpdplaaa
open Go.RowKit
attribute [local go_sem ↓] Go.wp_at_zero Go.wp_at_succ

def storeF (L : LineD) (bs : List UInt8) : LineD := if bs.length = L.data.length then ⟨L.addr, bs, true, false⟩ else LineD.zero
def storeE (L : LineD) (bs : List UInt8) : Int := if bs.length = L.data.length then 0 else 7

set_option maxHeartbeats 1000000 in
theorem lstore_any (v : Value) (L : LineD) (A2 : Option Addr) (n2 c2 : Nat) (bs : List UInt8) (w : World) (h : IsLine w v L) (h2 : Has w A2 n2 1 (byteVals bs)) (hn : n2 ≤ 1048576) :
    Calls Try.prog 13 #[v, .slice A2 n2 c2] w fun e w' => ∃ v', e = .returned (.tuple #[v', .int .i64 (storeE L bs)]) ∧ OwnLine 5 w' w.heap.size v' (storeF L bs) ∧ Below w.heap.size w w' := by
  obtain ⟨A, c, rfl, h⟩ := h
  have hl : bs.length = n2 := by have := h2.1; simp [byteVals] at this; omega
  subst hl
  have H2 := Lib.hid h2
  clear h h2
  by_cases hne : bs.length = L.data.length
  · have hs : storeF L bs = ⟨L.addr, bs, true, false⟩ := if_pos hne
    have he : storeE L bs = 0 := if_pos hne
    rewrite [hs, he]
    have hb : ((bs.length : Int) != (L.data.length : Int)) = false := by simp [hne]
    clear hne hs he
    go_enter Try.func13, Try.ntmps13
    go_wp2_with fail
    go_region_held3 (fun w' => w'.cell? ⟨w.heap.size, 0, none⟩ = some (.int .i64 L.addr)) (go_keep)
      (first | (go_at_call 21; refine (clone_any _ _ _ bs _ ((H2.out.alloc _).alloc _).drew hn).mono ?_; rintro e w1 ⟨A', c', rfl, hown, hb1⟩; have hs1 := hb1.size; simp only [World.size_alloc, World.size_drew] at hown hs1; obtain ⟨c0, f0⟩ := bkeep hb1 w.heap.size (by (first | (with_reducible exact Nat.le_refl _) | (with_reducible assumption) | omega | (simp <;> omega))); obtain ⟨c1, f1⟩ := bkeep hb1 (w.heap.size + 1) (by (first | (with_reducible exact Nat.le_refl _) | (with_reducible assumption) | omega | (simp <;> omega))); have hb1' := (show Below w.heap.size w _ by (repeat' (first | (with_reducible exact Below.refl _ _) | (with_reducible assumption) | (with_reducible refine Below.alloc ?_ ?_ _) | (with_reducible refine Below.drew ?_) | (with_reducible refine below_drewN ?_ _) | (with_reducible refine Below.setCell ?_ ?_ _) | (with_reducible exact Nat.le_refl _) | omega | (simp <;> omega)))).trans (hb1.mono (show w.heap.size ≤ _ by (first | (with_reducible exact Nat.le_refl _) | (with_reducible assumption) | omega | (simp <;> omega))))))
    go_wp2_with fail
    refine bodyPost_ret (v := .tuple #[.agg #[.int .i64 L.addr, .slice A' bs.length c', .bool true, .bool false], .int .i64 0]) (by simp [results, Try.results13, go_sem, c1]) rfl ?_
    refine ⟨_, rfl, ⟨A', c', rfl, ?_⟩, by (repeat' (first | (with_reducible exact Below.refl _ _) | (with_reducible assumption) | (with_reducible refine Below.alloc ?_ ?_ _) | (with_reducible refine Below.drew ?_) | (with_reducible refine below_drewN ?_ _) | (with_reducible refine Below.setCell ?_ ?_ _) | (with_reducible exact Nat.le_refl _) | omega | (simp <;> omega)))⟩
    refine ownsRow_base (B := w.heap.size + 1 + 1) ?_ (by omega)
    (repeat' (first | (with_reducible assumption) | (with_reducible refine own_put ?_ ?_ _) | (with_reducible refine own_new ?_ _) | (with_reducible refine own_drew ?_) | (with_reducible refine own_drewN ?_ _) | omega))
  · have hs : storeF L bs = LineD.zero := if_neg hne
    have he : storeE L bs = 7 := if_neg hne
    rewrite [hs, he]
    have hb : ((bs.length : Int) != (L.data.length : Int)) = true := by simp; omega
    clear hne hs he
    go_enter Try.func13, Try.ntmps13
    go_wp2_with fail
    refine bodyPost_ret (v := .tuple #[.agg #[.int .i64 0, .slice none 0 0, .bool false, .bool false], .int .i64 7]) (by simp [results, Try.results13, go_sem]) rfl ?_
    exact ⟨_, rfl, OwnLine.zero_ _ _ _, by (repeat' (first | (with_reducible exact Below.refl _ _) | (with_reducible assumption) | (with_reducible refine Below.alloc ?_ ?_ _) | (with_reducible refine Below.drew ?_) | (with_reducible refine below_drewN ?_ _) | (with_reducible refine Below.setCell ?_ ?_ _) | (with_reducible exact Nat.le_refl _) | omega | (simp <;> omega)))⟩

set_option maxHeartbeats 1000000 in
theorem rstore_any (v : Value) (L : LineD) (A2 : Option Addr) (n2 c2 : Nat) (bs : List UInt8) (w : World) (h : IsLine w v L) (h2 : Has w A2 n2 1 (byteVals bs)) (hn : n2 ≤ 1048576) :
    Calls Try.prog 14 #[v, .slice A2 n2 c2] w fun e w' => ∃ v', e = .returned (.tuple #[v', .int .i64 (storeE L bs)]) ∧ OwnLine 5 w' w.heap.size v' (storeF L bs) ∧ Below w.heap.size w w' := by
  obtain ⟨A, c, rfl, h⟩ := h
  have hl : bs.length = n2 := by have := h2.1; simp [byteVals] at this; omega
  subst hl
  have H2 := Lib.hid h2
  clear h h2
  by_cases hne : bs.length = L.data.length
  · have hs : storeF L bs = ⟨L.addr, bs, true, false⟩ := if_pos hne
    have he : storeE L bs = 0 := if_pos hne
    rewrite [hs, he]
    have hb : ((bs.length : Int) != (L.data.length : Int)) = false := by simp [hne]
    clear hne hs he
    go_enter Try.func14, Try.ntmps14
    go_wp2_with fail
    go_region_held3 (fun w' => w'.cell? ⟨w.heap.size, 0, none⟩ = some (.int .i64 L.addr)) (go_keep)
      (first | ((refine step_copy_has _ (by rfl) (.const (.slice none 0 0)) (.tmp 15) 22 (by rfl) (w.heap.size + 1 + 1) 5 _ 1 1 info5 Try.underlying22 rfl (by decide) (.slice none 0 0) (by rfl) (World.ownsRow_nil _ _ _ _) A2 bs.length c2 (byteVals bs) (by rfl) ((H2.out.alloc _).alloc _).drew (byteVals_one _) (by omega) (by omega) (by (first | (with_reducible exact Nat.le_refl _) | (with_reducible assumption) | omega | (simp <;> omega))) ?_); intro A' c' w1 hown hb1; have hs1 := hb1.size; simp only [World.size_alloc, World.size_drew] at hown hs1; obtain ⟨c0, f0⟩ := bkeep hb1 w.heap.size (by (first | (with_reducible exact Nat.le_refl _) | (with_reducible assumption) | omega | (simp <;> omega))); obtain ⟨c1, f1⟩ := bkeep hb1 (w.heap.size + 1) (by (first | (with_reducible exact Nat.le_refl _) | (with_reducible assumption) | omega | (simp <;> omega))); have hb1' := (show Below w.heap.size w _ by (repeat' (first | (with_reducible exact Below.refl _ _) | (with_reducible assumption) | (with_reducible refine Below.alloc ?_ ?_ _) | (with_reducible refine Below.drew ?_) | (with_reducible refine below_drewN ?_ _) | (with_reducible refine Below.setCell ?_ ?_ _) | (with_reducible exact Nat.le_refl _) | omega | (simp <;> omega)))).trans (hb1.mono (show w.heap.size ≤ _ by (first | (with_reducible exact Nat.le_refl _) | (with_reducible assumption) | omega | (simp <;> omega))))))
    go_wp2_with fail
    refine bodyPost_ret (v := .tuple #[.agg #[.int .i64 L.addr, .slice A' bs.length c', .bool true, .bool false], .int .i64 0]) (by simp [results, Try.results14, go_sem, c1]) rfl ?_
    refine ⟨_, rfl, ⟨A', c', rfl, ?_⟩, by (repeat' (first | (with_reducible exact Below.refl _ _) | (with_reducible assumption) | (with_reducible refine Below.alloc ?_ ?_ _) | (with_reducible refine Below.drew ?_) | (with_reducible refine below_drewN ?_ _) | (with_reducible refine Below.setCell ?_ ?_ _) | (with_reducible exact Nat.le_refl _) | omega | (simp <;> omega)))⟩
    refine ownsRow_base (B := w.heap.size + 1 + 1) ?_ (by omega)
    (repeat' (first | (with_reducible assumption) | (with_reducible refine own_put ?_ ?_ _) | (with_reducible refine own_new ?_ _) | (with_reducible refine own_drew ?_) | (with_reducible refine own_drewN ?_ _) | omega))
  · have hs : storeF L bs = LineD.zero := if_neg hne
    have he : storeE L bs = 7 := if_neg hne
    rewrite [hs, he]
    have hb : ((bs.length : Int) != (L.data.length : Int)) = true := by simp; omega
    clear hne hs he
    go_enter Try.func14, Try.ntmps14
    go_wp2_with fail
    refine bodyPost_ret (v := .tuple #[.agg #[.int .i64 0, .slice none 0 0, .bool false, .bool false], .int .i64 7]) (by simp [results, Try.results14, go_sem]) rfl ?_
    exact ⟨_, rfl, OwnLine.zero_ _ _ _, by (repeat' (first | (with_reducible exact Below.refl _ _) | (with_reducible assumption) | (with_reducible refine Below.alloc ?_ ?_ _) | (with_reducible refine Below.drew ?_) | (with_reducible refine below_drewN ?_ _) | (with_reducible refine Below.setCell ?_ ?_ _) | (with_reducible exact Nat.le_refl _) | omega | (simp <;> omega)))⟩
end Go.Proofs.Ytofngakjpdplaaa
