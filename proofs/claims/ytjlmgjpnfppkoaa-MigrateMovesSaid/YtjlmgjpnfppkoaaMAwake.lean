/-
  The sanity check of layer 35: it answers true.
-/
import Derived.LoopTactic
import Derived.Test.YtjlmgjpnfppkoaaMig4
namespace Go.Proofs.Ytjlmgjpnfppkoaa
open Go.RowKit
attribute [local go_sem ↓] Go.wp_at_zero Go.wp_at_succ

/-- One line more, in a region in order. -/
theorem wpList_append_line {w : World} {ops : Array Oper} {rest : List Oper} {o : Oper} {a : Act} {Q : Exit → Act → World → Prop} (hgd : o.guard = none) (s x : Operand)
    (ho : o.op = .call { callee := .builtin .append, args := #[s, x], argTypes := #[22, 22] })
    (base : Nat) (v : Value) (ys : List LineV) (hs : a.eval s = v) (hO : OwnLines w base v ys)
    (A : Option Addr) (c : Nat) (y : LineV) (hx : a.eval x = .slice A 1 c) (hr : Has w A 1 4 (lineVals [y]))
    (hy : w.ownsRow base 5 1 (.slice y.A y.L.data.length y.c) y.L.data.length (byteVals y.L.data)) (hn : ys.length ≤ 1048576) (hbase : base ≤ w.heap.size)
    (h : ∀ v' w', OwnLines w' base v' (ys ++ [y]) → Below base w w' → wpList Try.prog ops Q rest (a.put o.dst v') w') : wpList Try.prog ops Q (o :: rest) a w := by
  obtain ⟨i, hi, hz0, hz1, hz2⟩ := info_parts info28
  refine wpList_append_has w hgd s x 22 ho base 28 i _ 4 40 Try.underlying22 hi hz0 hz1 hz2 rfl (by decide) v ys.length (lineVals ys) hs hO.2.1 A 1 c (lineVals [y]) hx hr (lineVals_one _) (by unfold maxLen; omega) (by omega) hbase ?_
  intro v' w' h2 h3 _
  refine h v' w' ⟨?_, ?_, ?_⟩ ((Below.refl base w).grown h3 hbase fun k hk => (hO.2.1.lt k hk).1)
  · obtain ⟨A', c', hv, _⟩ := own_form h2
    exact ⟨A', c', by rw [hv]; simp⟩
  · rw [lineVals_append]; simpa using h2
  · intro z hz
    rcases List.mem_append.1 hz with hz | hz
    · exact (hO.2.2 z hz).kept h3 (rows_apart (hO.2.2 z hz) hO.2.1 (by decide))
    · have : z = y := by simpa using hz
      subst this
      exact hy.kept h3 (rows_apart hy hO.2.1 (by decide))

theorem own_byte (w : World) (B : Nat) (b : UInt8) (v : Value) (hv : v = .int .u8 b.toNat) (hB : B ≤ w.heap.size) : (w.alloc (.cells #[v] 5)).ownsRow B 5 1 (.slice (some ⟨w.heap.size, 0, none⟩) 1 1) 1 (byteVals [b]) := by
  subst hv
  exact World.ownsRow_lit (size := 1) (e := 5) (base := B) w #[.int .u8 b.toNat] 1 hB (by unfold maxLen; omega) rfl

def awL : List LineD := [⟨8, [8], false, false⟩, ⟨9, [9], false, true⟩, ⟨10, [10], false, false⟩, ⟨11, [11], false, false⟩]

theorem four_of {ys : List LineV} {a b c d : LineD} (h : ys.map LineV.L = [a, b, c, d]) : ∃ A0 c0 A1 c1 A2 c2 A3 c3, ys = [⟨a, A0, c0⟩, ⟨b, A1, c1⟩, ⟨c, A2, c2⟩, ⟨d, A3, c3⟩] := by
  match ys, h with
  | [⟨_, A0, c0⟩, ⟨_, A1, c1⟩, ⟨_, A2, c2⟩, ⟨_, A3, c3⟩], h =>
    simp only [List.map_cons, List.map_nil, List.cons.injEq, and_true] at h
    obtain ⟨rfl, rfl, rfl, rfl⟩ := h
    exact ⟨_, _, _, _, _, _, _, _, rfl⟩

set_option maxRecDepth 100000 in
set_option maxHeartbeats 4000000 in
theorem mawake_any (w : World) : Calls Try.prog 16 #[] w fun e w' => e = .returned (.bool true) ∧ Below w.heap.size w w' := by
  go_enter Try.func16, Try.ntmps16
  go_wp2_with fail
  go_loopw [1, 2] (fun v i wr => ∃ (k : Nat) (ys : List LineV), 8 ≤ k ∧ k ≤ 12 ∧ i = .int .i64 k ∧ Hid (ys.map LineV.L = awL.take (k - 8)) ∧ Hid (OwnLines wr w.heap.size v ys) ∧ Below w.heap.size w wr) (fun _ i _ => 12 - (intOf i).toNat)
  case atStart => exact ⟨8, [], by omega, by omega, rfl, rfl, OwnLines.nil_ _ _, Below.refl _ _⟩
  case round =>
    obtain ⟨k, ys, hk8, hk, rfl, Hy, HO, hB⟩ := hrel
    have hsz := hB.size
    have hl : ys.length ≤ 1048576 := by
      have := congrArg List.length Hy.out
      simp [awL] at this
      omega
    have Hl := Lib.hid hl
    clear hl
    have hc : k = 8 ∨ k = 9 ∨ k = 10 ∨ k = 11 ∨ k = 12 := by omega
    rcases hc with rfl | rfl | rfl | rfl | rfl
    · go_wp2_with (first
          | (at_builtin; refine wpList_append_line rfl (.tmp 9) (.tmp 17) rfl w.heap.size _ ys rfl (HO.out.below (by (repeat' (first | (with_reducible exact Below.refl _ _) | (with_reducible assumption) | (with_reducible refine Below.alloc ?_ ?_ _) | (with_reducible refine Below.drew ?_) | (with_reducible refine below_drewN ?_ _) | (with_reducible refine Below.setCell ?_ ?_ _) | (with_reducible exact Nat.le_refl _) | omega | (simp <;> omega))))) _ _ ⟨⟨8, [8], false, false⟩, some ⟨wr.heap.size, 0, none⟩, 1⟩ rfl (Has.lit_at _ _ _ 1 4 _ _ rfl (by (first | (with_reducible exact Nat.le_refl _) | (with_reducible assumption) | omega | (simp <;> omega))) rfl) (own_new (own_byte _ _ _ _ rfl (by (first | (with_reducible exact Nat.le_refl _) | (with_reducible assumption) | omega | (simp <;> omega)))) _) Hl.out (by (first | (with_reducible exact Nat.le_refl _) | (with_reducible assumption) | omega | (simp <;> omega))) ?_; intro v7 w7 hO7 hb7))
      go_roundw
      case rel => exact ⟨9, ys ++ [_], by omega, by omega, rfl, by show _ = _; rw [List.map_append, Hy.out]; rfl, hO7, (show Below w.heap.size w _ by (repeat' (first | (with_reducible exact Below.refl _ _) | (with_reducible assumption) | (with_reducible refine Below.alloc ?_ ?_ _) | (with_reducible refine Below.drew ?_) | (with_reducible refine below_drewN ?_ _) | (with_reducible refine Below.setCell ?_ ?_ _) | (with_reducible exact Nat.le_refl _) | omega | (simp <;> omega)))).trans hb7⟩
      case measure => simp [intOf]
    · go_wp2_with (first
          | (at_builtin; refine wpList_append_line rfl (.tmp 9) (.tmp 17) rfl w.heap.size _ ys rfl (HO.out.below (by (repeat' (first | (with_reducible exact Below.refl _ _) | (with_reducible assumption) | (with_reducible refine Below.alloc ?_ ?_ _) | (with_reducible refine Below.drew ?_) | (with_reducible refine below_drewN ?_ _) | (with_reducible refine Below.setCell ?_ ?_ _) | (with_reducible exact Nat.le_refl _) | omega | (simp <;> omega))))) _ _ ⟨⟨9, [9], false, true⟩, some ⟨wr.heap.size, 0, none⟩, 1⟩ rfl (Has.lit_at _ _ _ 1 4 _ _ rfl (by (first | (with_reducible exact Nat.le_refl _) | (with_reducible assumption) | omega | (simp <;> omega))) rfl) (own_new (own_byte _ _ _ _ rfl (by (first | (with_reducible exact Nat.le_refl _) | (with_reducible assumption) | omega | (simp <;> omega)))) _) Hl.out (by (first | (with_reducible exact Nat.le_refl _) | (with_reducible assumption) | omega | (simp <;> omega))) ?_; intro v7 w7 hO7 hb7))
      go_roundw
      case rel => exact ⟨10, ys ++ [_], by omega, by omega, rfl, by show _ = _; rw [List.map_append, Hy.out]; rfl, hO7, (show Below w.heap.size w _ by (repeat' (first | (with_reducible exact Below.refl _ _) | (with_reducible assumption) | (with_reducible refine Below.alloc ?_ ?_ _) | (with_reducible refine Below.drew ?_) | (with_reducible refine below_drewN ?_ _) | (with_reducible refine Below.setCell ?_ ?_ _) | (with_reducible exact Nat.le_refl _) | omega | (simp <;> omega)))).trans hb7⟩
      case measure => simp [intOf]
    · go_wp2_with (first
          | (at_builtin; refine wpList_append_line rfl (.tmp 9) (.tmp 17) rfl w.heap.size _ ys rfl (HO.out.below (by (repeat' (first | (with_reducible exact Below.refl _ _) | (with_reducible assumption) | (with_reducible refine Below.alloc ?_ ?_ _) | (with_reducible refine Below.drew ?_) | (with_reducible refine below_drewN ?_ _) | (with_reducible refine Below.setCell ?_ ?_ _) | (with_reducible exact Nat.le_refl _) | omega | (simp <;> omega))))) _ _ ⟨⟨10, [10], false, false⟩, some ⟨wr.heap.size, 0, none⟩, 1⟩ rfl (Has.lit_at _ _ _ 1 4 _ _ rfl (by (first | (with_reducible exact Nat.le_refl _) | (with_reducible assumption) | omega | (simp <;> omega))) rfl) (own_new (own_byte _ _ _ _ rfl (by (first | (with_reducible exact Nat.le_refl _) | (with_reducible assumption) | omega | (simp <;> omega)))) _) Hl.out (by (first | (with_reducible exact Nat.le_refl _) | (with_reducible assumption) | omega | (simp <;> omega))) ?_; intro v7 w7 hO7 hb7))
      go_roundw
      case rel => exact ⟨11, ys ++ [_], by omega, by omega, rfl, by show _ = _; rw [List.map_append, Hy.out]; rfl, hO7, (show Below w.heap.size w _ by (repeat' (first | (with_reducible exact Below.refl _ _) | (with_reducible assumption) | (with_reducible refine Below.alloc ?_ ?_ _) | (with_reducible refine Below.drew ?_) | (with_reducible refine below_drewN ?_ _) | (with_reducible refine Below.setCell ?_ ?_ _) | (with_reducible exact Nat.le_refl _) | omega | (simp <;> omega)))).trans hb7⟩
      case measure => simp [intOf]
    · go_wp2_with (first
          | (at_builtin; refine wpList_append_line rfl (.tmp 9) (.tmp 17) rfl w.heap.size _ ys rfl (HO.out.below (by (repeat' (first | (with_reducible exact Below.refl _ _) | (with_reducible assumption) | (with_reducible refine Below.alloc ?_ ?_ _) | (with_reducible refine Below.drew ?_) | (with_reducible refine below_drewN ?_ _) | (with_reducible refine Below.setCell ?_ ?_ _) | (with_reducible exact Nat.le_refl _) | omega | (simp <;> omega))))) _ _ ⟨⟨11, [11], false, false⟩, some ⟨wr.heap.size, 0, none⟩, 1⟩ rfl (Has.lit_at _ _ _ 1 4 _ _ rfl (by (first | (with_reducible exact Nat.le_refl _) | (with_reducible assumption) | omega | (simp <;> omega))) rfl) (own_new (own_byte _ _ _ _ rfl (by (first | (with_reducible exact Nat.le_refl _) | (with_reducible assumption) | omega | (simp <;> omega)))) _) Hl.out (by (first | (with_reducible exact Nat.le_refl _) | (with_reducible assumption) | omega | (simp <;> omega))) ?_; intro v7 w7 hO7 hb7))
      go_roundw
      case rel => exact ⟨12, ys ++ [_], by omega, by omega, rfl, by show _ = _; rw [List.map_append, Hy.out]; rfl, hO7, (show Below w.heap.size w _ by (repeat' (first | (with_reducible exact Below.refl _ _) | (with_reducible assumption) | (with_reducible refine Below.alloc ?_ ?_ _) | (with_reducible refine Below.drew ?_) | (with_reducible refine below_drewN ?_ _) | (with_reducible refine Below.setCell ?_ ?_ _) | (with_reducible exact Nat.le_refl _) | omega | (simp <;> omega)))).trans hb7⟩
      case measure => simp [intOf]
    · obtain ⟨A0, c0, A1, c1, A2, c2, A3, c3, rfl⟩ := four_of (show ys.map LineV.L = [⟨8, [8], false, false⟩, ⟨9, [9], false, true⟩, ⟨10, [10], false, false⟩, ⟨11, [11], false, false⟩] from Hy.out)
      have hE : rebE [⟨⟨8, [8], false, false⟩, A0, c0⟩, ⟨⟨9, [9], false, true⟩, A1, c1⟩, ⟨⟨10, [10], false, false⟩, A2, c2⟩, ⟨⟨11, [11], false, false⟩, A3, c3⟩] 0 = 0 := by rfl
      have hL : rebL [⟨⟨8, [8], false, false⟩, A0, c0⟩, ⟨⟨9, [9], false, true⟩, A1, c1⟩, ⟨⟨10, [10], false, false⟩, A2, c2⟩, ⟨⟨11, [11], false, false⟩, A3, c3⟩] 0 = [⟨0, [8], true, false⟩, ⟨1, [9], true, true⟩, ⟨2, [10], true, false⟩, ⟨3, [11], true, false⟩] := by rfl
      obtain ⟨A, c, hu⟩ := HO.out.1
      subst hu
      have HE := Lib.hid hE
      have HLL := Lib.hid hL
      have HI := Lib.hid (HO.out.is rfl)
      clear hE hL Hl Hy
      go_wp2_with fail
      refine (rebase_any A 4 c 0 _ _ HI.out (by simp) (by intro x hx; simp at hx; rcases hx with rfl | rfl | rfl | rfl <;> simp)).mono ?_
      rewrite [HE.out, HLL.out]
      rintro e w1 ⟨v1, ys1, rfl, hm1, hO1, hb1⟩
      obtain ⟨B0, e0, B1, e1, B2, e2, B3, e3, rfl⟩ := four_of hm1
      obtain ⟨A', c', hu⟩ := hO1.1
      subst hu
      have hI1 : IsLines w1 A' 4 _ := hO1.is rfl
      have HI1 := Lib.hid hI1
      obtain ⟨b, off, rfl, hb, x0, x1, x2, x3, -⟩ := hI1.at_ (k := 0) (by omega)
      obtain ⟨b', off', e', -, y0, y1, y2, y3, -⟩ := hI1.at_ (k := 1) (by omega)
      injection e' with e'
      injection e' with e1 e2
      subst e1 e2
      obtain ⟨b', off', e', -, z0, z1, z2, z3, -⟩ := hI1.at_ (k := 3) (by omega)
      injection e' with e'
      injection e' with e1 e2
      subst e1 e2
      simp at x0 x1 x2 x3 y0 y1 y2 y3 z0 z1 z2 z3
      have hB1 := hB.trans (hb1.mono hsz)
      clear hI1 hO1 hm1 hb1
      go_wp2_with (first | (go_at_call 27; refine (frame_pos _ _ (by omega) (by omega)).mono ?_; rintro e w' ⟨rfl, rfl⟩) | (go_at_call 29; refine (first_any _ _ (by omega)).mono ?_; rintro e w' ⟨rfl, rfl⟩))
      refine (lost_any _ 4 c' _ _ HI1.out (by omega)).mono ?_
      rintro e w2 ⟨v, rfl, hown, hb2⟩
      have hown' : w2.ownsRow w1.heap.size 3 1 v 1 (intVals [1]) := hown
      obtain ⟨A9, c9, rfl, -⟩ := own_form hown'
      have hB2 := hB1.trans (hb2.mono hB1.size)
      clear hown hown' hb2
      go_wp2_with fail
      go_ret
      exact ⟨rfl, hB2⟩
end Go.Proofs.Ytjlmgjpnfppkoaa
