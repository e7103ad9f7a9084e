/-
  Frames made of dice, walked: they are valid, whatever the dice give.
-/
import Derived.LoopTactic
import Derived.Test.YtjlmgjpnfppkoaaFr2
import Derived.Test.YtjlmgjpnfppkoaaDice
namespace Go.Proofs.Ytjlmgjpnfppkoaa
open Go.RowKit
attribute [local go_sem ↓] Go.wp_at_zero Go.wp_at_succ

def AllFit (fs : List FrD) : Prop := ∀ f ∈ fs, fitB f.st f.bl = true
theorem validF_of {fs : List FrD} (h : AllFit fs) (h1 : 1 ≤ fs.length) (h2 : fs.length ≤ 64) : validF fs = true := by
  simp only [validF, Bool.and_eq_true, decide_eq_true_eq]
  exact ⟨⟨h1, h2⟩, List.all_eq_true.2 h⟩
theorem validF_get {fs : List FrD} (h : validF fs = true) : AllFit fs ∧ 1 ≤ fs.length ∧ fs.length ≤ 64 := by
  simp only [validF, Bool.and_eq_true, decide_eq_true_eq] at h
  exact ⟨fun f hf => List.all_eq_true.1 h.2 f hf, h.1.1, h.1.2⟩
theorem AllFit.snoc {fs : List FrD} (h : AllFit fs) {s b : Int} (hf : fitB s b = true) : AllFit (fs ++ [⟨s, b⟩]) := by
  intro f hm
  rcases List.mem_append.1 hm with hm | hm
  · exact h f hm
  · have : f = ⟨s, b⟩ := by simpa using hm
    subst this
    exact hf

theorem fit_range {s b : Int} (h : fitB s b = true) : 0 ≤ s ∧ s ≤ 5 := by
  unfold fitB at h
  split at h
  · omega
  · have := of_decide_eq_true h; omega
theorem AllFit.at_ {fs : List FrD} (h : AllFit fs) {k : Nat} (hk : k < fs.length) : 0 ≤ (fs.getD k FrD.zero).st ∧ (fs.getD k FrD.zero).st ≤ 5 := by
  have := h _ (List.getElem_mem hk)
  rw [List.getD, List.getElem?_eq_getElem hk]
  exact fit_range this

/-- One of the states of the table. -/
theorem state_at (w : World) (z : Int) (h1 : 0 ≤ z) (h2 : z < 8) : ∃ (Z : Nat) (S : Int), z = Z ∧ Z < 8 ∧ 0 ≤ S ∧ S ≤ 5 ∧
    (w.alloc (.cells #[.int .i64 0, .int .i64 2, .int .i64 2, .int .i64 1, .int .i64 3, .int .i64 4, .int .i64 5, .int .i64 0] 3)).cell? ⟨w.heap.size, Z, none⟩ = some (.int .i64 S) := by
  obtain ⟨Z, rfl⟩ : ∃ Z : Nat, z = Z := ⟨z.toNat, by omega⟩
  have hc : Z = 0 ∨ Z = 1 ∨ Z = 2 ∨ Z = 3 ∨ Z = 4 ∨ Z = 5 ∨ Z = 6 ∨ Z = 7 := by omega
  rcases hc with rfl | rfl | rfl | rfl | rfl | rfl | rfl | rfl
  · exact ⟨0, 0, rfl, by omega, by omega, by omega, by simp [go_sem]⟩
  · exact ⟨1, 2, rfl, by omega, by omega, by omega, by simp [go_sem]⟩
  · exact ⟨2, 2, rfl, by omega, by omega, by omega, by simp [go_sem]⟩
  · exact ⟨3, 1, rfl, by omega, by omega, by omega, by simp [go_sem]⟩
  · exact ⟨4, 3, rfl, by omega, by omega, by omega, by simp [go_sem]⟩
  · exact ⟨5, 4, rfl, by omega, by omega, by omega, by simp [go_sem]⟩
  · exact ⟨6, 5, rfl, by omega, by omega, by omega, by simp [go_sem]⟩
  · exact ⟨7, 0, rfl, by omega, by omega, by omega, by simp [go_sem]⟩

set_option maxRecDepth 100000 in
set_option maxHeartbeats 4000000 in
theorem frames_any (g : Nat) (w : World) (hD : DiceOk w g) :
    Calls Try.prog 52 #[.pointer (some ⟨g, 0, none⟩)] w fun e w' => ∃ v fs, e = .returned v ∧ OwnFrs w' w.heap.size v fs ∧ validF fs = true ∧ fs.length ≤ 10 ∧ DiceOk w' g ∧ But g w.heap.size w w' := by
  have HD := Lib.hid hD
  have hg := hD.lt
  clear hD
  obtain ⟨i54, hi, hz0, hz1, hz2⟩ := info_parts info54
  have Hi := Lib.hid hi
  have Hz0 := Lib.hid hz0
  have Hz1 := Lib.hid hz1
  have Hz2 := Lib.hid hz2
  clear hi hz0 hz1 hz2
  go_enter Try.func52, Try.ntmps52
  go_wp2_with fail
  refine (next_any g 10 _ HD.out (by omega) (by omega)).mono ?_
  rintro e w0 ⟨n, rfl, n1, n2, hD0, hb0⟩
  obtain ⟨N, rfl⟩ : ∃ N : Nat, n = N := ⟨n.toNat, by omega⟩
  have hs0 := hb0.size
  have HD0 := Lib.hid hD0
  have HB0 := Lib.hid hb0
  clear hD0 hb0
  go_wp2_with fail
  go_loopw [3, 4] (fun v i wr => ∃ (k : Nat) (fs : List FrD), i = .int .i64 k ∧ k + fs.length = N + 1 ∧ Hid (wr.ownsRow w.heap.size 54 2 v fs.length (frVals fs)) ∧ Hid (AllFit fs) ∧ Hid (DiceOk wr g) ∧ Hid (But g w.heap.size w wr)) (fun _ i _ => (intOf i).toNat)
  case atStart => exact ⟨N + 1, [], by go_num, by simp, World.ownsRow_nil _ _ _ _, fun f hf => by simp at hf, HD0.out, HB0.out⟩
  case round =>
    obtain ⟨k, fs, rfl, hkm, HO, HF, HDr, HB⟩ := hrel
    have hsz := HB.out.size
    have Hkm := Lib.hid hkm
    have hk : k ≤ 11 := by omega
    have hfl : fs.length ≤ 11 := by omega
    clear hkm
    by_cases h0 : 0 < k
    · go_wp2_with fail
      refine (next_any g 8 _ (HDr.out.alloc _) (by omega) (by omega)).mono ?_
      rintro e w1 ⟨z, rfl, z1, z2, hD1, hb1⟩
      have hs1 := hb1.size
      simp only [World.size_alloc] at hs1
      obtain ⟨Z, S, rfl, hZ, S0, S5, hcS⟩ := state_at wr z z1 z2
      have hcS1 := cellB hb1 (by (first | (with_reducible exact Nat.le_refl _) | (with_reducible assumption) | omega | (simp <;> omega))) (by omega) hcS
      have HO1 := Lib.hid (row_but (own_new HO.out _) hb1 hg)
      have HB1 := Lib.hid ((show But g w.heap.size w _ from HB.out.alloc (by (first | (with_reducible exact Nat.le_refl _) | (with_reducible assumption) | omega | (simp <;> omega))) _).trans (hb1.mono (show w.heap.size ≤ _ by (first | (with_reducible exact Nat.le_refl _) | (with_reducible assumption) | omega | (simp <;> omega)))))
      have HD1 := Lib.hid hD1
      have hZ8 : (Z : Int) < 8 := by omega
      clear hb1 hD1 hcS
      by_cases hS : S = 1
      · subst hS
        go_wp2_with fail
        refine (next_any g 4 _ (HD1.out.alloc _) (by omega) (by omega)).mono ?_
        rintro e w2 ⟨y, rfl, y1, y2, hD2, hb2⟩
        have hs2 := hb2.size
        simp only [World.size_alloc] at hs2
        obtain ⟨c2, f2⟩ := bkeepB hb2 w1.heap.size (by (first | (with_reducible exact Nat.le_refl _) | (with_reducible assumption) | omega | (simp <;> omega))) (by omega)
        have l2 : w1.heap.size < w2.heap.size := by omega
        have HO2 := Lib.hid (row_but (own_new HO1.out _) hb2 hg)
        have HB2 := Lib.hid ((show But g w.heap.size w _ from HB1.out.alloc (by (first | (with_reducible exact Nat.le_refl _) | (with_reducible assumption) | omega | (simp <;> omega))) _).trans (hb2.mono (show w.heap.size ≤ _ by (first | (with_reducible exact Nat.le_refl _) | (with_reducible assumption) | omega | (simp <;> omega)))))
        have HD2 := Lib.hid hD2
        clear hb2 hD2
        have hfar : u3.ownBlock ≠ some w1.heap.size := fun e => absurd (HO1.out.lt _ e).2 (Nat.lt_irrefl _)
        have HFAR := Lib.hid hfar
        clear hfar
        go_wp2_with (first
            | (at_builtin; refine wpList_append_has _ rfl (.tmp 26) (.tmp 28) 40 rfl w.heap.size 54 i54 _ 2 16 Try.underlying40 Hi.out Hz0.out Hz1.out Hz2.out rfl (by decide) _ _ _ rfl (own_new (ownsRow_setCell_far HO2.out HFAR.out _) _) _ 1 1 (frVals [⟨1, 1 + y⟩]) rfl (Has.lit_at _ _ _ 1 2 _ _ rfl (by (first | (with_reducible exact Nat.le_refl _) | (with_reducible assumption) | omega | (simp <;> omega))) rfl) (frVals_one _) (by unfold maxLen; omega) (by omega) (by (first | (with_reducible exact Nat.le_refl _) | (with_reducible assumption) | omega | (simp <;> omega))) ?_; intro v7 w7 h7 hg7 _))
        go_roundw
        case rel =>
          have hb7 := (Below.refl w.heap.size _).grown hg7 (by (first | (with_reducible exact Nat.le_refl _) | (with_reducible assumption) | omega | (simp <;> omega))) fun q hq => (HO2.out.lt q hq).1
          have hd := HD2.out
          have hb := HB2.out
          refine ⟨k - 1, fs ++ [⟨1, 1 + y⟩], by go_num, by have := Hkm.out; simp; omega, ?_, show AllFit _ from HF.out.snoc (by simp [fitB]; omega), ?_, ?_⟩
          · show World.ownsRow _ _ _ _ _ _ _
            simpa [frVals_append] using h7
          · exact DiceOk.lies (by (repeat' (first | (with_reducible assumption) | (with_reducible refine DiceOk.put ?_ ?_ _) | (with_reducible refine DiceOk.alloc ?_ _) | (with_reducible refine DiceOk.drew ?_) | (with_reducible refine DiceOk.drewN ?_ _) | omega | (simp <;> omega)))) hb7 hg
          · exact But.and_below (by (repeat' (first | (with_reducible exact But.refl _ _ _) | (with_reducible assumption) | (with_reducible refine But.alloc ?_ ?_ _) | (with_reducible refine But.drew ?_) | (with_reducible refine But.drewN ?_ _) | (with_reducible refine But.setCell ?_ ?_ _) | (with_reducible exact Nat.le_refl _) | omega | (simp <;> omega) | (left; first | omega | (simp <;> omega))))) hb7
        case measure => simp [intOf]; omega
      · have hS' : (S == 1) = false := by simp [hS]
        go_wp2_with (first
            | (at_builtin; refine wpList_append_has _ rfl (.tmp 26) (.tmp 28) 40 rfl w.heap.size 54 i54 _ 2 16 Try.underlying40 Hi.out Hz0.out Hz1.out Hz2.out rfl (by decide) _ _ _ rfl (own_new (own_new HO1.out _) _) _ 1 1 (frVals [⟨S, 0⟩]) rfl (Has.lit_at _ _ _ 1 2 _ _ rfl (by (first | (with_reducible exact Nat.le_refl _) | (with_reducible assumption) | omega | (simp <;> omega))) rfl) (frVals_one _) (by unfold maxLen; omega) (by omega) (by (first | (with_reducible exact Nat.le_refl _) | (with_reducible assumption) | omega | (simp <;> omega))) ?_; intro v7 w7 h7 hg7 _))
        go_roundw
        case rel =>
          have hb7 := (Below.refl w.heap.size _).grown hg7 (by (first | (with_reducible exact Nat.le_refl _) | (with_reducible assumption) | omega | (simp <;> omega))) fun q hq => (HO1.out.lt q hq).1
          have hd := HD1.out
          have hb := HB1.out
          refine ⟨k - 1, fs ++ [⟨S, 0⟩], by go_num, by have := Hkm.out; simp; omega, ?_, show AllFit _ from HF.out.snoc (by simp [fitB, hS]; omega), ?_, ?_⟩
          · show World.ownsRow _ _ _ _ _ _ _
            simpa [frVals_append] using h7
          · exact DiceOk.lies (by (repeat' (first | (with_reducible assumption) | (with_reducible refine DiceOk.put ?_ ?_ _) | (with_reducible refine DiceOk.alloc ?_ _) | (with_reducible refine DiceOk.drew ?_) | (with_reducible refine DiceOk.drewN ?_ _) | omega | (simp <;> omega)))) hb7 hg
          · exact But.and_below (by (repeat' (first | (with_reducible exact But.refl _ _ _) | (with_reducible assumption) | (with_reducible refine But.alloc ?_ ?_ _) | (with_reducible refine But.drew ?_) | (with_reducible refine But.drewN ?_ _) | (with_reducible refine But.setCell ?_ ?_ _) | (with_reducible exact Nat.le_refl _) | omega | (simp <;> omega) | (left; first | omega | (simp <;> omega))))) hb7
        case measure => simp [intOf]; omega
    · have hk0 : k = 0 := by omega
      subst hk0
      go_wp2_with fail
      go_ret
      obtain ⟨A, c, hv, -⟩ := own_form HO.out
      have hl := Hkm.out
      refine ⟨_, fs, rfl, ⟨A, c, hv, HO.out⟩, validF_of HF.out (by omega) (by omega), by omega, HDr.out, HB.out⟩
end Go.Proofs.Ytjlmgjpnfppkoaa
