/-
  Contracts of functions of the reference (layer 35), walked: addresses, poison, comparing lists.
-/
import Derived.LoopTactic
import Derived.Test.YtjlmgjpnfppkoaaMAwake
import Derived.Test.YtjlmgjpnfppkoaaDice
namespace Go.Proofs.Ytjlmgjpnfppkoaa
open Go.RowKit
attribute [local go_sem ↓] Go.wp_at_zero Go.wp_at_succ

theorem rfirst_any (f : Int) (w : World) (h : -1000000000000 ≤ f ∧ f ≤ 1000000000000) :
    Calls Try.prog 30 #[.int .i64 f] w fun e w' => e = .returned (.int .i64 (4 * f)) ∧ w = w' := by
  have hw : IntKind.i64.wrap (4 * f) = 4 * f := IntWalk.i64_in _ (by omega)
  go_enter Try.func30, Try.ntmps30
  go_wp2
  go_ret
  exact ⟨rfl, rfl⟩

theorem rframe_neg (a : Int) (w : World) (h : a < 0) :
    Calls Try.prog 28 #[.int .i64 a] w fun e w' => e = .returned (.int .i64 (-1)) ∧ w = w' := by
  go_enter Try.func28, Try.ntmps28
  go_wp2
  go_ret
  exact ⟨rfl, rfl⟩

theorem rframe_pos (a : Int) (w : World) (h : 0 ≤ a) (h2 : a ≤ 9223372036854775807) :
    Calls Try.prog 28 #[.int .i64 a] w fun e w' => e = .returned (.int .i64 (a / 4)) ∧ w = w' := by
  have hd : a.tdiv 4 = a / 4 := Int.tdiv_eq_ediv_of_nonneg h
  have hw : IntKind.i64.wrap (a / 4) = a / 4 := IntWalk.i64_in _ (by omega)
  go_enter Try.func28, Try.ntmps28
  go_wp2
  go_ret
  exact ⟨ret_int (by first | rfl | omega), rfl⟩

set_option maxRecDepth 100000 in
set_option maxHeartbeats 4000000 in
theorem rlost_any (A : Option Addr) (n c : Nat) (xs : List LineV) (w : World) (h : IsLines w A n xs) (hn : n ≤ 1048576) :
    Calls Try.prog 26 #[.slice A n c] w fun e w' => ∃ v, e = .returned v ∧ w'.ownsRow w.heap.size 3 1 v (lostL xs n).length (intVals (lostL xs n)) ∧ Below w.heap.size w w' := by
  have Hl := Lib.hid h.len
  have HI := Lib.hid h
  clear h
  go_enter Try.func26, Try.ntmps26
  go_wp2_with fail
  go_loopw [3, 8] (fun v i wr => ∃ k : Nat, k ≤ n ∧ i = .int .i64 k ∧ Hid (wr.ownsRow w.heap.size 3 1 v (lostL xs k).length (intVals (lostL xs k))) ∧ Below w.heap.size w wr) (fun _ i _ => n - (intOf i).toNat)
  case atStart => exact ⟨0, by omega, rfl, World.ownsRow_nil _ _ _ _, Below.refl _ _⟩
  case round =>
    obtain ⟨k, hk, rfl, HO, hB⟩ := hrel
    have hsz := hB.size
    by_cases hlt : k < n
    · obtain ⟨b, off, rfl, hb, d0, d1, d2, d3, -⟩ := HI.out.at_ hlt
      have g0 := (hB.cell (p := ⟨b, off + k * 4, none⟩) hb).trans d0
      have g1 := (hB.cell (p := ⟨b, off + k * 4 + 1, none⟩) hb).trans d1
      have g2 := (hB.cell (p := ⟨b, off + k * 4 + 2, none⟩) hb).trans d2
      have g3 := (hB.cell (p := ⟨b, off + k * 4 + 3, none⟩) hb).trans d3
      obtain ⟨x, hx⟩ : ∃ x, xs.getD k LineV.zero = x := ⟨_, rfl⟩
      rw [hx] at g0 g1 g2 g3
      obtain ⟨⟨a, bs, d, p⟩, A2, c2⟩ := x
      dsimp only at g0 g1 g2 g3
      have hlt' : (k : Int) < (n : Int) := by omega
      have hll := lostL_len xs k
      obtain ⟨i3, hi, hz0, hz1, hz2⟩ := info_parts info3
      have Hi := Lib.hid hi
      have Hz0 := Lib.hid hz0
      have Hz1 := Lib.hid hz1
      have Hz2 := Lib.hid hz2
      cases p
      · have hL : lostL xs (k + 1) = lostL xs k := by simp only [lostL, hx]; rfl
        have HL := Lib.hid hL
        clear d0 d1 d2 d3 hx hL hi hz0 hz1 hz2 hll
        go_wp2_with fail
        go_roundw
        case rel => exact ⟨k + 1, by omega, by go_num, by show World.ownsRow _ _ _ _ _ _ _; rw [HL.out]; exact own_new HO.out _, by (repeat' (first | (with_reducible exact Below.refl _ _) | (with_reducible assumption) | (with_reducible refine Below.alloc ?_ ?_ _) | (with_reducible refine Below.drew ?_) | (with_reducible refine below_drewN ?_ _) | (with_reducible refine Below.setCell ?_ ?_ _) | (with_reducible exact Nat.le_refl _) | omega | (simp <;> omega)))⟩
        case measure => simp [intOf]; omega
      · have hL : lostL xs (k + 1) = lostL xs k ++ [(k : Int)] := by simp only [lostL, hx]; rfl
        have HL := Lib.hid hL
        have Hll := Lib.hid hll
        clear d0 d1 d2 d3 hx hL hi hz0 hz1 hz2 hll
        go_wp2_with (first
          | (at_builtin; refine wpList_append_has _ rfl (.tmp 15) (.tmp 17) 23 rfl w.heap.size 3 i3 _ 1 8 Try.underlying23 Hi.out Hz0.out Hz1.out Hz2.out rfl (by decide) _ _ _ rfl (own_new (own_new HO.out _) _) _ 1 1 (intVals [(k : Int)]) rfl (Has.lit_at _ _ _ 1 1 _ _ rfl (by (first | (with_reducible exact Nat.le_refl _) | (with_reducible assumption) | omega | (simp <;> omega))) rfl) (intVals_one _) (by have := Hll.out; unfold maxLen; omega) (by have := Hll.out; omega) (by (first | (with_reducible exact Nat.le_refl _) | (with_reducible assumption) | omega | (simp <;> omega))) ?_; intro v7 w7 h7 hg7 _))
        go_roundw
        case rel =>
          refine ⟨k + 1, by omega, by go_num, ?_, ?_⟩
          · show World.ownsRow _ _ _ _ _ _ _
            rw [HL.out]
            simpa [intVals] using h7
          · exact (show Below w.heap.size w _ by (repeat' (first | (with_reducible exact Below.refl _ _) | (with_reducible assumption) | (with_reducible refine Below.alloc ?_ ?_ _) | (with_reducible refine Below.drew ?_) | (with_reducible refine below_drewN ?_ _) | (with_reducible refine Below.setCell ?_ ?_ _) | (with_reducible exact Nat.le_refl _) | omega | (simp <;> omega)))).grown hg7 (by (first | (with_reducible exact Nat.le_refl _) | (with_reducible assumption) | omega | (simp <;> omega))) fun b hb => (HO.out.lt b hb).1
        case measure => simp [intOf]; omega
    · have hge : n ≤ k := by omega
      have hkn : k = n := by omega
      subst hkn
      clear hlt
      go_wp2_with fail
      go_ret
      exact ⟨_, rfl, HO.out, hB⟩


set_option maxRecDepth 100000 in
set_option maxHeartbeats 2000000 in
theorem ints_any (A A' : Option Addr) (n c n' c' : Nat) (zs : List Int) (w : World) (h : Has w A n 1 (intVals zs)) (h' : Has w A' n' 1 (intVals zs)) (hn : n ≤ 1048576) :
    Calls Try.prog 24 #[.slice A n c, .slice A' n' c'] w fun e w' => e = .returned (.bool true) ∧ Below w.heap.size w w' := by
  have hl : zs.length = n := by have := h.1; simp [intVals] at this; omega
  obtain rfl : n = n' := by have := h'.1; simp [intVals] at this; omega
  have Hh := Lib.hid h
  have Hh' := Lib.hid h'
  have Hl := Lib.hid hl
  clear h h' hl
  go_enter Try.func24, Try.ntmps24
  go_wp2_with fail
  go_loopw [14] (fun i wr => ∃ k : Nat, k ≤ n ∧ i = .int .i64 k ∧ Below w.heap.size w wr) (fun i _ => n - (intOf i).toNat)
  case atStart => exact ⟨0, by omega, rfl, Below.refl _ _⟩
  case round =>
    obtain ⟨k, hk, rfl, hB⟩ := hrel
    by_cases hlt : k < n
    · obtain ⟨b, off, rfl, hbl, c0⟩ := Hh.out.at_ hlt
      obtain ⟨b', off', rfl, hbl', c0'⟩ := Hh'.out.at_ hlt
      have d0 := (hB.cell (p := ⟨b, off + k, none⟩) hbl).trans c0
      have d0' := (hB.cell (p := ⟨b', off' + k, none⟩) hbl').trans c0'
      obtain ⟨z, hz⟩ : ∃ z : Int, (intVals zs).getD k undef = .int .i64 z := by
        have hkl : k < zs.length := by rw [Hl.out]; exact hlt
        exact ⟨zs[k], by simp [intVals, List.getD, List.getElem?_eq_getElem hkl]⟩
      rw [hz] at d0 d0'
      clear c0 c0' hz
      have hlt' : (k : Int) < (n : Int) := by omega
      go_wp2_with fail
      go_roundw
      case rel => exact ⟨k + 1, by omega, by go_num, by (repeat' (first | (with_reducible exact Below.refl _ _) | (with_reducible assumption) | (with_reducible refine Below.alloc ?_ ?_ _) | (with_reducible refine Below.drew ?_) | (with_reducible refine below_drewN ?_ _) | (with_reducible refine Below.setCell ?_ ?_ _) | (with_reducible exact Nat.le_refl _) | omega | (simp <;> omega)))⟩
      case measure => simp [intOf]; omega
    · have hge : n ≤ k := by omega
      clear hlt
      go_wp2_with fail
      go_ret
      exact ⟨rfl, hB⟩

set_option maxRecDepth 100000 in
set_option maxHeartbeats 4000000 in
theorem samelist_any (A A' : Option Addr) (n c n' c' : Nat) (xs ys : List LineV) (w : World) (h : IsLines w A n xs) (h' : IsLines w A' n' ys) (he : xs.map LineV.L = ys.map LineV.L) (hn : n ≤ 1048576) :
    Calls Try.prog 23 #[.slice A n c, .slice A' n' c'] w fun e w' => e = .returned (.bool true) ∧ Below w.heap.size w w' := by
  have hll : xs.length = ys.length := by have := congrArg List.length he; simpa using this
  obtain rfl : n = n' := h.len.symm.trans (hll.trans h'.len)
  have Hh := Lib.hid h
  have Hh' := Lib.hid h'
  have Hl := Lib.hid h.len
  have Hl' := Lib.hid h'.len
  have He := Lib.hid he
  clear h h' hll he
  go_enter Try.func23, Try.ntmps23
  go_wp2_with fail
  go_loopw [14] (fun i wr => ∃ k : Nat, k ≤ n ∧ i = .int .i64 k ∧ Below w.heap.size w wr) (fun i _ => n - (intOf i).toNat)
  case atStart => exact ⟨0, by omega, rfl, Below.refl _ _⟩
  case round =>
    obtain ⟨k, hk, rfl, hB⟩ := hrel
    have hsz := hB.size
    by_cases hlt : k < n
    · obtain ⟨b, off, rfl, hbl, c0, c1, c2, c3, hD⟩ := Hh.out.at_ hlt
      obtain ⟨b', off', rfl, hbl', c0', c1', c2', c3', hD'⟩ := Hh'.out.at_ hlt
      have d0 := cellK hB hbl c0
      have d1 := cellK hB hbl c1
      have d2 := cellK hB hbl c2
      have d3 := cellK hB hbl c3
      have d0' := cellK hB hbl' c0'
      have d1' := cellK hB hbl' c1'
      have d2' := cellK hB hbl' c2'
      have d3' := cellK hB hbl' c3'
      have hLL : (xs.getD k LineV.zero).L = (ys.getD k LineV.zero).L := by
        have hk1 : k < xs.length := by rw [Hl.out]; exact hlt
        have hk2 : k < ys.length := by rw [Hl'.out]; exact hlt
        have := congrArg (fun l => l[k]?) He.out
        simp [List.getElem?_eq_getElem hk1, List.getElem?_eq_getElem hk2] at this
        simpa [List.getD, List.getElem?_eq_getElem hk1, List.getElem?_eq_getElem hk2] using this
      obtain ⟨x, hx⟩ : ∃ x, xs.getD k LineV.zero = x := ⟨_, rfl⟩
      obtain ⟨y, hy⟩ : ∃ y, ys.getD k LineV.zero = y := ⟨_, rfl⟩
      rw [hx] at d0 d1 d2 d3 hD hLL
      rw [hy] at d0' d1' d2' d3' hD' hLL
      obtain ⟨⟨a, bs, d, p⟩, A1, q1⟩ := x
      obtain ⟨L2, A2, q2⟩ := y
      dsimp only at hLL
      subst hLL
      dsimp only at d0 d1 d2 d3 hD d0' d1' d2' d3' hD'
      have HX := Lib.hid (isLine_mk (c := q1) a d p (hD.below hB))
      have HY := Lib.hid (isLine_mk (c := q2) a d p (hD'.below hB))
      have hlt' : (k : Int) < (n : Int) := by omega
      have hge0 : (0 : Int) ≤ (k : Int) := by omega
      have hb1 : b < wr.heap.size := by omega
      have hb2 : b' < wr.heap.size := by omega
      clear c0 c1 c2 c3 c0' c1' c2' c3' hx hy hD hD'
      go_wp2_with fail
      go_region_held3 (fun w' => w'.cell? ⟨wr.heap.size, 0, none⟩ = some (.int .i64 a) ∧ w'.cell? ⟨wr.heap.size, 1, none⟩ = some (.slice A1 bs.length q1) ∧ w'.cell? ⟨wr.heap.size, 2, none⟩ = some (.bool d) ∧ w'.cell? ⟨wr.heap.size, 3, none⟩ = some (.bool p) ∧ w'.cell? ⟨b', off' + k * 4, none⟩ = some (.int .i64 a) ∧ w'.cell? ⟨b', off' + k * 4 + 1, none⟩ = some (.slice A2 bs.length q2) ∧ w'.cell? ⟨b', off' + k * 4 + 2, none⟩ = some (.bool d) ∧ w'.cell? ⟨b', off' + k * 4 + 3, none⟩ = some (.bool p)) (simp [go_sem, *])
        (first | (go_at_call 49; refine (same_any _ _ ⟨a, bs, d, p⟩ ⟨a, bs, d, p⟩ _ (HX.out.below (by (repeat' (first | (with_reducible exact Below.refl _ _) | (with_reducible assumption) | (with_reducible refine Below.alloc ?_ ?_ _) | (with_reducible refine Below.drew ?_) | (with_reducible refine below_drewN ?_ _) | (with_reducible refine Below.setCell ?_ ?_ _) | (with_reducible exact Nat.le_refl _) | omega | (simp <;> omega))))) (HY.out.below (by (repeat' (first | (with_reducible exact Below.refl _ _) | (with_reducible assumption) | (with_reducible refine Below.alloc ?_ ?_ _) | (with_reducible refine Below.drew ?_) | (with_reducible refine below_drewN ?_ _) | (with_reducible refine Below.setCell ?_ ?_ _) | (with_reducible exact Nat.le_refl _) | omega | (simp <;> omega)))))).mono ?_; rewrite [show sameB ⟨a, bs, d, p⟩ ⟨a, bs, d, p⟩ = true from by simp [sameB]]; rintro e w5 ⟨rfl, hb5⟩; have hB5 := (show Below wr.heap.size wr _ by (repeat' (first | (with_reducible exact Below.refl _ _) | (with_reducible assumption) | (with_reducible refine Below.alloc ?_ ?_ _) | (with_reducible refine Below.drew ?_) | (with_reducible refine below_drewN ?_ _) | (with_reducible refine Below.setCell ?_ ?_ _) | (with_reducible exact Nat.le_refl _) | omega | (simp <;> omega)))).trans (hb5.mono (show wr.heap.size ≤ _ by (first | (with_reducible exact Nat.le_refl _) | (with_reducible assumption) | omega | (simp <;> omega)))); obtain ⟨p1, -⟩ := bkeep hb5 wr.heap.size (by (first | (with_reducible exact Nat.le_refl _) | (with_reducible assumption) | omega | (simp <;> omega))); obtain ⟨p2, -⟩ := bkeep hb5 b' (by (first | (with_reducible exact Nat.le_refl _) | (with_reducible assumption) | omega | (simp <;> omega))); clear hb5))
      go_wp2_with fail
      go_roundw
      case rel => exact ⟨k + 1, by omega, by go_num, hB.trans (hB5.mono hsz)⟩
      case measure => simp [intOf]; omega
    · have hge : n ≤ k := by omega
      clear hlt
      go_wp2_with fail
      go_ret
      exact ⟨rfl, hB⟩
end Go.Proofs.Ytjlmgjpnfppkoaa
