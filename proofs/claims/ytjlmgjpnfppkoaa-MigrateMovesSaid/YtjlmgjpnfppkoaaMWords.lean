/-
  Lines of a frame made of dice; the reference's lines at another frame: walked.
-/
import Derived.LoopTactic
import Derived.Test.YtjlmgjpnfppkoaaMRef
namespace Go.Proofs.Ytjlmgjpnfppkoaa
open Go.RowKit
attribute [local go_sem ↓] Go.wp_at_zero Go.wp_at_succ

theorem OwnLines.but {w w' : World} {g B : Nat} {v : Value} {xs : List LineV} (h : OwnLines w B v xs) (hb : But g w.heap.size w w') (hg : g < B) : OwnLines w' B v xs :=
  ⟨h.1, row_but h.2.1 hb hg, fun x hx => row_but (h.2.2 x hx) hb hg⟩
theorem OwnLines.alloc {w : World} {B : Nat} {v : Value} {xs : List LineV} (h : OwnLines w B v xs) (o : Obj) : OwnLines (w.alloc o) B v xs := h.below ((Below.refl _ _).alloc (Nat.le_refl _) o)
theorem OwnLines.base {w : World} {B B' : Nat} {v : Value} {xs : List LineV} (h : OwnLines w B v xs) (hB : B' ≤ B) : OwnLines w B' v xs := ⟨h.1, ownsRow_base h.2.1 hB, fun x hx => ownsRow_base (h.2.2 x hx) hB⟩

/-- Four lines of the frame f, two bytes each. -/
def WordsOf (f : Int) (ys : List LineV) : Prop := ys.length = 4 ∧ (∀ k : Nat, k < 4 → (ys.getD k LineV.zero).L.addr = 4 * f + k) ∧ ∀ y ∈ ys, y.L.data.length = 2

set_option maxRecDepth 100000 in
set_option maxHeartbeats 4000000 in
theorem words_any (g : Nat) (f : Int) (w : World) (hD : DiceOk w g) (hf : 0 ≤ f ∧ f ≤ 1000) :
    Calls Try.prog 18 #[.pointer (some ⟨g, 0, none⟩), .int .i64 f] w fun e w' => ∃ v ys, e = .returned v ∧ OwnLines w' w.heap.size v ys ∧ WordsOf f ys ∧ DiceOk w' g ∧ But g w.heap.size w w' := by
  have HD := Lib.hid hD
  have hg := hD.lt
  obtain ⟨hf1, hf2⟩ := hf
  have hw : IntKind.i64.wrap (4 * f) = 4 * f := IntWalk.i64_in _ (by omega)
  clear hD
  go_enter Try.func18, Try.ntmps18
  go_wp2_with fail
  go_loopw [5, 7] (fun v i wr => ∃ (k : Nat) (ys : List LineV), k ≤ 4 ∧ i = .int .i64 k ∧ Hid (ys.length = k) ∧ Hid (∀ j : Nat, j < k → (ys.getD j LineV.zero).L.addr = 4 * f + j) ∧ Hid (∀ y ∈ ys, y.L.data.length = 2) ∧ Hid (OwnLines wr w.heap.size v ys) ∧ Hid (DiceOk wr g) ∧ Hid (But g w.heap.size w wr)) (fun _ i _ => 4 - (intOf i).toNat)
  case atStart => exact ⟨0, [], by omega, rfl, rfl, fun j hj => absurd hj (by omega), fun y hy => by simp at hy, OwnLines.nil_ _ _, HD.out, But.refl _ _ _⟩
  case round =>
    obtain ⟨k, ys, hk, rfl, Hl, Ha, Hd, HO, HDr, HB⟩ := hrel
    have hsz := HB.out.size
    by_cases hlt : k < 4
    · have hlt' : (k : Int) < 4 := by omega
      go_wp2_with fail
      refine (line_any g 2 (4 * f + k) _ HDr.out (by omega)).mono ?_
      rintro e w1 ⟨v1, ⟨la, bs, d, p⟩, rfl, hla, hbs, ⟨A1, c1, rfl, hown⟩, hD1, hb1⟩
      dsimp only at hla hbs hown ⊢
      subst hla
      have hs1 := hb1.size
      have HO1 := Lib.hid (HO.out.but hb1 hg)
      have HB1 := Lib.hid (HB.out.trans (hb1.mono hsz))
      have HD1 := Lib.hid hD1
      have Hown := Lib.hid (ownsRow_base hown hsz)
      have Hbs := Lib.hid hbs
      have hyl : ys.length ≤ 1048576 := by have := Hl.out; omega
      have Hyl := Lib.hid hyl
      clear hb1 hD1 hown hbs hyl
      go_wp2_with (first
          | (at_builtin; refine wpList_append_line rfl (.tmp 10) (.tmp 17) rfl w.heap.size _ ys rfl (HO1.out.alloc _) _ _ ⟨⟨4 * f + k, bs, d, p⟩, A1, c1⟩ rfl (Has.lit_at _ _ _ 1 4 _ _ rfl (by (first | (with_reducible exact Nat.le_refl _) | (with_reducible assumption) | omega | (simp <;> omega))) rfl) (own_new Hown.out _) Hyl.out (by (first | (with_reducible exact Nat.le_refl _) | (with_reducible assumption) | omega | (simp <;> omega))) ?_; intro v7 w7 hO7 hb7))
      go_roundw
      case rel =>
        refine ⟨k + 1, ys ++ [⟨⟨4 * f + k, bs, d, p⟩, A1, c1⟩], by omega, by go_num, ?_, ?_, ?_, (show OwnLines w7 w.heap.size v7 _ from hO7), (HD1.out.alloc _).lies hb7 hg, (show But g w.heap.size w _ from HB1.out.alloc (by (first | (with_reducible exact Nat.le_refl _) | (with_reducible assumption) | omega | (simp <;> omega))) _).and_below hb7⟩
        · show _ = _
          simp [Hl.out]
        · intro j hj
          by_cases hjk : j = k
          · subst hjk
            have : (ys ++ [(⟨⟨4 * f + (j : Int), bs, d, p⟩, A1, c1⟩ : LineV)]).getD j LineV.zero = ⟨⟨4 * f + (j : Int), bs, d, p⟩, A1, c1⟩ := by
              have := Hl.out
              simp [List.getD, this]
            rw [this]
          · have : (ys ++ [(⟨⟨4 * f + (k : Int), bs, d, p⟩, A1, c1⟩ : LineV)]).getD j LineV.zero = ys.getD j LineV.zero := by
              have h2 := Hl.out
              have : j < ys.length := by omega
              simp [List.getD, List.getElem?_append, this]
            rw [this]
            exact Ha.out j (by omega)
        · intro y hy
          rcases List.mem_append.1 hy with hy | hy
          · exact Hd.out y hy
          · have : y = (⟨⟨4 * f + (k : Int), bs, d, p⟩, A1, c1⟩ : LineV) := by simpa using hy
            rw [this]
            exact Hbs.out
      case measure => simp [intOf]; omega
    · have hk4 : k = 4 := by omega
      subst hk4
      clear hlt
      go_wp2_with fail
      go_ret
      exact ⟨_, ys, rfl, HO.out, ⟨Hl.out, fun j hj => Ha.out j hj, Hd.out⟩, HDr.out, HB.out⟩
end Go.Proofs.Ytjlmgjpnfppkoaa
