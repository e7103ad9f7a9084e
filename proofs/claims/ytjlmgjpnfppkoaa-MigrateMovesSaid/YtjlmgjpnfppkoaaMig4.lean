/-
  Contracts of functions of the given program (layer 35), walked: the indices of the lines with poison.
-/
import Derived.LoopTactic
import Derived.Test.YtjlmgjpnfppkoaaMig3
namespace Go.Proofs.Ytjlmgjpnfppkoaa
open Go.RowKit
attribute [local go_sem ↓] Go.wp_at_zero Go.wp_at_succ

theorem info3 : (Try.prog.info? 3).map (fun i => (i.zero, i.size, i.bytes)) = some (some (.int .i64 0), 1, 8) := by kernel_rfl
def intVals (zs : List Int) : List Value := zs.map (Value.int .i64)
theorem intVals_one (zs : List Int) : ∀ u ∈ intVals zs, u.oneCell' = true := by
  intro u hu
  obtain ⟨z, _, rfl⟩ := List.mem_map.1 hu
  rfl
theorem intVals_len (zs : List Int) : (intVals zs).length = zs.length := by simp [intVals]
/-- The indices below k of the lines with poison. -/
def lostL (xs : List LineV) : Nat → List Int
  | 0 => []
  | k + 1 => if (xs.getD k LineV.zero).L.poison = true then lostL xs k ++ [(k : Int)] else lostL xs k
theorem lostL_len (xs : List LineV) (k : Nat) : (lostL xs k).length ≤ k := by
  induction k with
  | zero => simp [lostL]
  | succ k ih => simp only [lostL]; split <;> simp_all <;> omega

set_option maxRecDepth 100000 in
set_option maxHeartbeats 4000000 in
theorem lost_any (A : Option Addr) (n c : Nat) (xs : List LineV) (w : World) (h : IsLines w A n xs) (hn : n ≤ 1048576) :
    Calls Try.prog 25 #[.slice A n c] w fun e w' => ∃ v, e = .returned v ∧ w'.ownsRow w.heap.size 3 1 v (lostL xs n).length (intVals (lostL xs n)) ∧ Below w.heap.size w w' := by
  have Hl := Lib.hid h.len
  have HI := Lib.hid h
  clear h
  go_enter Try.func25, Try.ntmps25
  go_wp2_with fail
  go_loopw [3, 8] (fun v i wr => ∃ k : Nat, k ≤ n ∧ i = .int .i64 k ∧ Hid (wr.ownsRow w.heap.size 3 1 v (lostL xs k).length (intVals (lostL xs k))) ∧ Below w.heap.size w wr) (fun _ i _ => n - (intOf i).toNat)
  case atStart => exact ⟨0, by omega, rfl, World.ownsRow_nil _ _ _ _, Below.refl _ _⟩
  case round =>
    obtain ⟨k, hk, rfl, HO, hB⟩ := hrel
    have hsz := hB.size
    by_cases hlt : k < n
    · obtain ⟨b, off, rfl, hb, d0, d1, d2, d3, -⟩ := HI.out.at_ hlt
      have g0 := (hB.cell (p := ⟨b, off + k * 4, none⟩) hb).trans d0
      have g1 := (hB.cell (p := ⟨b, off + k * 4 + 1, none⟩) hb).trans d1
      have g2 := (hB.cell (p := ⟨b, off + k * 4 + 2, none⟩) hb).trans d2
      have g3 := (hB.cell (p := ⟨b, off + k * 4 + 3, none⟩) hb).trans d3
      obtain ⟨x, hx⟩ : ∃ x, xs.getD k LineV.zero = x := ⟨_, rfl⟩
      rw [hx] at g0 g1 g2 g3
      obtain ⟨⟨a, bs, d, p⟩, A2, c2⟩ := x
      dsimp only at g0 g1 g2 g3
      have hlt' : (k : Int) < (n : Int) := by omega
      have hll := lostL_len xs k
      obtain ⟨i3, hi, hz0, hz1, hz2⟩ := info_parts info3
      have Hi := Lib.hid hi
      have Hz0 := Lib.hid hz0
      have Hz1 := Lib.hid hz1
      have Hz2 := Lib.hid hz2
      cases p
      · have hL : lostL xs (k + 1) = lostL xs k := by simp only [lostL, hx]; rfl
        have HL := Lib.hid hL
        clear d0 d1 d2 d3 hx hL hi hz0 hz1 hz2 hll
        go_wp2_with fail
        go_roundw
        case rel => exact ⟨k + 1, by omega, by go_num, by show World.ownsRow _ _ _ _ _ _ _; rw [HL.out]; exact own_new HO.out _, by (repeat' (first | (with_reducible exact Below.refl _ _) | (with_reducible assumption) | (with_reducible refine Below.alloc ?_ ?_ _) | (with_reducible refine Below.drew ?_) | (with_reducible refine below_drewN ?_ _) | (with_reducible refine Below.setCell ?_ ?_ _) | (with_reducible exact Nat.le_refl _) | omega | (simp <;> omega)))⟩
        case measure => simp [intOf]; omega
      · have hL : lostL xs (k + 1) = lostL xs k ++ [(k : Int)] := by simp only [lostL, hx]; rfl
        have HL := Lib.hid hL
        have Hll := Lib.hid hll
        clear d0 d1 d2 d3 hx hL hi hz0 hz1 hz2 hll
        go_wp2_with (first
          | (at_builtin; refine wpList_append_has _ rfl (.tmp 15) (.tmp 17) 23 rfl w.heap.size 3 i3 _ 1 8 Try.underlying23 Hi.out Hz0.out Hz1.out Hz2.out rfl (by decide) _ _ _ rfl (own_new (own_new HO.out _) _) _ 1 1 (intVals [(k : Int)]) rfl (Has.lit_at _ _ _ 1 1 _ _ rfl (by (first | (with_reducible exact Nat.le_refl _) | (with_reducible assumption) | omega | (simp <;> omega))) rfl) (intVals_one _) (by have := Hll.out; unfold maxLen; omega) (by have := Hll.out; omega) (by (first | (with_reducible exact Nat.le_refl _) | (with_reducible assumption) | omega | (simp <;> omega))) ?_; intro v7 w7 h7 hg7 _))
        go_roundw
        case rel =>
          refine ⟨k + 1, by omega, by go_num, ?_, ?_⟩
          · show World.ownsRow _ _ _ _ _ _ _
            rw [HL.out]
            simpa [intVals] using h7
          · exact (show Below w.heap.size w _ by (repeat' (first | (with_reducible exact Below.refl _ _) | (with_reducible assumption) | (with_reducible refine Below.alloc ?_ ?_ _) | (with_reducible refine Below.drew ?_) | (with_reducible refine below_drewN ?_ _) | (with_reducible refine Below.setCell ?_ ?_ _) | (with_reducible exact Nat.le_refl _) | omega | (simp <;> omega)))).grown hg7 (by (first | (with_reducible exact Nat.le_refl _) | (with_reducible assumption) | omega | (simp <;> omega))) fun b hb => (HO.out.lt b hb).1
        case measure => simp [intOf]; omega
    · have hge : n ≤ k := by omega
      have hkn : k = n := by omega
      subst hkn
      clear hlt
      go_wp2_with fail
      go_ret
      exact ⟨_, rfl, HO.out, hB⟩
end Go.Proofs.Ytjlmgjpnfppkoaa
