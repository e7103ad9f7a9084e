/-
  What the walk of MigrateMoves needs: parts of lists of lines, stores into lines, addresses of far frames.
-/
import Derived.LoopTactic
import Derived.IntWalk
import Derived.StillTailTactics
import Derived.Test.YtjlmgjpnfppkoaaFollow
import Derived.Test.YtjlmgjpnfppkoaaHeld
import Derived.Test.YtjlmgjpnfppkoaaMWords
import Derived.Test.YtjlmgjpnfppkoaaMRef
import Derived.Test.YtjlmgjpnfppkoaaMRebR
namespace Go.Proofs.Ytjlmgjpnfppkoaa
open Go.RowKit
attribute [local go_sem ↓] Go.wp_at_zero Go.wp_at_succ

theorem still_tail_drawn {P : Program} {id : Nat} {Q : Exit → Act → World → Prop} {a : Act} {w : World} {l : List Oper} (n : Nat) (hm : P.follows .mixedOrders = true) (hB : Region.lexTailB .any l.toArray n = true)
    (h : wpStill P l.toArray w.drew (fun a' => wpList P l.toArray Q (l.drop n) a' w.drew) (l.take n) a) : (Code.region id l.toArray true).wp P Q a w := wp_region_still_tail n hm hB h
theorem lineVals_take (xs : List LineV) : ∀ (k : Nat), (lineVals xs).take (k * 4) = lineVals (xs.take k) := by
  induction xs with
  | nil => intro k; simp [lineVals]
  | cons x r ih =>
    intro k
    cases k with
    | zero => simp [lineVals]
    | succ k =>
      have e : (k + 1) * 4 = k * 4 + 4 := by omega
      rw [e]
      simp [lineVals, ih]
theorem IsLines.take {w : World} {A : Option Addr} {n k : Nat} {xs : List LineV} (h : IsLines w A n xs) (hk : k ≤ n) : IsLines w A k (xs.take k) :=
  ⟨by rw [← lineVals_take]; exact has_take h.1 hk, fun x hx => h.2 x (List.mem_of_mem_take hx)⟩
def setA (x : LineV) (a : Int) : LineV := { x with L := { x.L with addr := a } }
theorem lineVals_seta (xs : List LineV) : ∀ (k : Nat) (a : Int), (lineVals xs).set (k * 4) (.int .i64 a) = lineVals (xs.set k (setA (xs.getD k LineV.zero) a)) := by
  induction xs with
  | nil => intro k a; simp [lineVals]
  | cons x r ih =>
    intro k a
    cases k with
    | zero => simp [lineVals, setA]
    | succ k =>
      have e : (k + 1) * 4 = k * 4 + 4 := by omega
      rw [e]
      simp only [lineVals, List.set_cons_succ, List.getD_cons_succ]
      rw [ih]
/-- The address of one line of the call's own is written. -/
theorem OwnLines.set_addr {w : World} {B g n c k : Nat} {a : Int} {xs : List LineV} (h : OwnLines w B (.slice (some ⟨g, 0, none⟩) n c) xs) (hn : xs.length = n) (hk : k < n) :
    OwnLines (w.setCell ⟨g, k * 4, none⟩ (.int .i64 a)) B (.slice (some ⟨g, 0, none⟩) n c) (xs.set k (setA (xs.getD k LineV.zero) a)) := by
  subst hn
  refine ⟨⟨_, c, by rw [List.length_set]⟩, ?_, fun x hx => ?_⟩
  · rw [← lineVals_seta, List.length_set]
    exact own_set h.2.1 _ _
  · have keep : ∀ y ∈ xs, (w.setCell ⟨g, k * 4, none⟩ (.int .i64 a)).ownsRow B 5 1 (.slice y.A y.L.data.length y.c) y.L.data.length (byteVals y.L.data) := fun y hy =>
      ownsRow_setCell_far (h.2.2 y hy) (far_of' (h.2.2 y hy) h.2.1 (by decide)) _
    rcases List.mem_or_eq_of_mem_set hx with hx | rfl
    · exact keep x hx
    · have := keep (xs.getD k LineV.zero) (by
        simp only [List.getD, List.getElem?_eq_getElem hk]
        exact List.getElem_mem hk)
      exact this
theorem words_bd {f : Int} {ys : List LineV} (h : WordsOf f ys) (h1 : f ≤ 1000) : ∀ x ∈ ys, x.L.data.length ≤ 100 ∧ x.L.addr ≤ 9223372036854775807 := fun x hx => by
  refine ⟨by rw [h.2.2 x hx]; omega, ?_⟩
  obtain ⟨j, hj, rfl⟩ := List.getElem_of_mem hx
  have := h.2.1 j (by rw [h.1] at hj; exact hj)
  have e : ys.getD j LineV.zero = ys[j] := by simp [List.getD, List.getElem?_eq_getElem hj]
  rw [e] at this
  rw [this]
  have := h.1
  omega
/-- One more line has its new address: the first k lines are anywhere near, the others where they were. -/
def Near (k : Nat) (ls : List LineV) : Prop := ls.length = 4 ∧ (∀ x ∈ ls, x.L.data.length ≤ 100 ∧ x.L.addr ≤ 1000) ∧ ∀ j, k ≤ j → j < 4 → 0 ≤ (ls.getD j LineV.zero).L.addr ∧ (ls.getD j LineV.zero).L.addr ≤ 1000
theorem Near.of {f : Int} {ys : List LineV} (h : WordsOf f ys) (h0 : 0 ≤ f) (h1 : f ≤ 100) : Near 0 ys := by
  refine ⟨h.1, fun x hx => ⟨by rw [h.2.2 x hx]; omega, ?_⟩, fun j _ hj => by rw [h.2.1 j hj]; omega⟩
  obtain ⟨j, hj, rfl⟩ := List.getElem_of_mem hx
  have := h.2.1 j (by rw [h.1] at hj; exact hj)
  have e : ys.getD j LineV.zero = ys[j] := by simp [List.getD, List.getElem?_eq_getElem hj]
  rw [e] at this
  rw [this]
  have := h.1
  omega
theorem near_mem {xs : List LineV} {k : Nat} (hk : k < xs.length) : xs.getD k LineV.zero ∈ xs := by
  simp only [List.getD, List.getElem?_eq_getElem hk]
  exact List.getElem_mem hk
theorem Near.step {k : Nat} {ls : List LineV} {a : Int} (h : Near k ls) (hk : k < 4) (ha : a ≤ 1000) : Near (k + 1) (ls.set k (setA (ls.getD k LineV.zero) a)) := by
  obtain ⟨h4, hx, hj⟩ := h
  refine ⟨by rw [List.length_set]; exact h4, fun x hm => ?_, fun j h1 h2 => ?_⟩
  · rcases List.mem_or_eq_of_mem_set hm with hm | rfl
    · exact hx x hm
    · exact ⟨(hx _ (near_mem (by omega))).1, ha⟩
  · have := hj j (by omega) h2
    simpa [List.getD, List.getElem?_set_ne (show k ≠ j by omega)] using this

theorem first_wide (f : Int) (w : World) (h : -1152921504606846976 ≤ f ∧ f ≤ 1152921504606846976) :
    Calls Try.prog 29 #[.int .i64 f] w fun e w' => e = .returned (.int .i64 (4 * f)) ∧ w = w' := by
  have hw : IntKind.i64.wrap (4 * f) = 4 * f := IntWalk.i64_in _ (by omega)
  go_enter Try.func29, Try.ntmps29
  go_wp2
  go_ret
  exact ⟨rfl, rfl⟩
theorem rfirst_wide (f : Int) (w : World) (h : -1152921504606846976 ≤ f ∧ f ≤ 1152921504606846976) :
    Calls Try.prog 30 #[.int .i64 f] w fun e w' => e = .returned (.int .i64 (4 * f)) ∧ w = w' := by
  have hw : IntKind.i64.wrap (4 * f) = 4 * f := IntWalk.i64_in _ (by omega)
  go_enter Try.func30, Try.ntmps30
  go_wp2
  go_ret
  exact ⟨rfl, rfl⟩
theorem frame_both (a : Int) (h : a ≤ 9223372036854775807) : ∃ F : Int, (∀ w : World, Calls Try.prog 27 #[.int .i64 a] w fun e w' => e = .returned (.int .i64 F) ∧ w = w') ∧ ∀ w : World, Calls Try.prog 28 #[.int .i64 a] w fun e w' => e = .returned (.int .i64 F) ∧ w = w' := by
  by_cases h0 : 0 ≤ a
  · exact ⟨a / 4, fun w => frame_pos a w h0 h, fun w => rframe_pos a w h0 h⟩
  · exact ⟨-1, fun w => frame_neg a w (by omega), fun w => rframe_neg a w (by omega)⟩
theorem head_bd {ls : List LineV} (h : ∀ x ∈ ls, x.L.data.length ≤ 100 ∧ x.L.addr ≤ 9223372036854775807) : (ls.getD 0 LineV.zero).L.addr ≤ 9223372036854775807 := by
  cases ls with
  | nil => decide
  | cons x r => exact (h x (by simp)).2
theorem tdiv_half {x k : Int} (hk : 2 ≤ k) : (x.tdiv k).natAbs ≤ x.natAbs / 2 := by
  rw [Int.natAbs_tdiv]
  exact Nat.div_le_div_left (by omega) (by omega)
theorem tdiv_i64 {x k : Int} (h : -9223372036854775808 ≤ x ∧ x ≤ 9223372036854775807) (hk : 2 ≤ k) : IntKind.i64.wrap (x.tdiv k) = x.tdiv k := by
  have := tdiv_half (x := x) hk
  exact IntWalk.i64_in _ (by omega)
theorem set_bd {ys : List LineV} {k : Nat} {a : Int} (h : ∀ x ∈ ys, x.L.data.length ≤ 100 ∧ x.L.addr ≤ 9223372036854775807) (hk : k < ys.length) (ha : a ≤ 9223372036854775807) : ∀ x ∈ ys.set k (setA (ys.getD k LineV.zero) a), x.L.data.length ≤ 100 ∧ x.L.addr ≤ 9223372036854775807 := fun x hm => by
  rcases List.mem_or_eq_of_mem_set hm with hm | rfl
  · exact h x hm
  · exact ⟨(h _ (near_mem hk)).1, ha⟩
/-- A block of three numbers. -/
def Three (w : World) (g : Nat) (a b c : Int) : Prop := g < w.heap.size ∧ w.cell? ⟨g, 0, none⟩ = some (.int .i64 a) ∧ w.cell? ⟨g, 1, none⟩ = some (.int .i64 b) ∧ w.cell? ⟨g, 2, none⟩ = some (.int .i64 c)
theorem Three.below {w w' : World} {g : Nat} {a b c : Int} (h : Three w g a b c) (hb : Below w.heap.size w w') : Three w' g a b c :=
  ⟨Nat.lt_of_lt_of_le h.1 hb.size, cellK hb h.1 h.2.1, cellK hb h.1 h.2.2.1, cellK hb h.1 h.2.2.2⟩
theorem Three.at_ {w : World} {g k : Nat} {a b c : Int} (h : Three w g a b c) (hk : k < 3) : ∃ v : Int, w.cell? ⟨g, k, none⟩ = some (.int .i64 v) := by
  obtain ⟨-, h0, h1, h2⟩ := h
  rcases (show k = 0 ∨ k = 1 ∨ k = 2 by omega) with rfl | rfl | rfl
  · exact ⟨_, h0⟩
  · exact ⟨_, h1⟩
  · exact ⟨_, h2⟩
/-- A block of three pairs of numbers. -/
def Six (w : World) (g : Nat) (zs : List Int) : Prop := g < w.heap.size ∧ zs.length = 6 ∧ ∀ k : Nat, k < 6 → w.cell? ⟨g, k, none⟩ = some (.int .i64 (zs.getD k 0))
theorem Six.below {w w' : World} {g : Nat} {zs : List Int} (h : Six w g zs) (hb : Below w.heap.size w w') : Six w' g zs :=
  ⟨Nat.lt_of_lt_of_le h.1 hb.size, h.2.1, fun k hk => cellK hb h.1 (h.2.2 k hk)⟩
theorem Six.at_ {w : World} {g k : Nat} {zs : List Int} (h : Six w g zs) (hk : k < 3) : ∃ u v : Int, w.cell? ⟨g, k * 2, none⟩ = some (.int .i64 u) ∧ w.cell? ⟨g, k * 2 + 1, none⟩ = some (.int .i64 v) :=
  ⟨_, _, h.2.2 (k * 2) (by omega), h.2.2 (k * 2 + 1) (by omega)⟩
theorem follow_len (fs : List FrD) (ps : List PrD) (a b : Int) : (followF fs ps a b).length ≤ fs.length := by
  unfold followF
  split
  · rw [shift_len]; omega
  · simp
theorem follow_small {N : Int} {fs : List FrD} {xs ys : List PrV} {a b : Int} (hI : Inv N (xs.map PrV.P)) (h : ys.map PrV.P = followP fs (xs.map PrV.P) a b) : Small ys := by
  have key : (followP fs (xs.map PrV.P) a b).length ≤ 1000 ∧ ∀ p ∈ followP fs (xs.map PrV.P) a b, p.pages.length ≤ 1000 ∧ p.told.length ≤ 1000 := by
    unfold followP
    split
    · unfold replL
      split
      · refine ⟨by rw [List.length_map]; have := hI.1; omega, fun p hp => ?_⟩
        obtain ⟨q, hq, rfl⟩ := List.mem_map.1 hp
        obtain ⟨_, _, h3, h4, _⟩ := hI.2.1 q hq
        simp only [repD, List.length_map, h3]
        exact ⟨by omega, by simp⟩
      · simp
    · simp
  rw [← h] at key
  exact ⟨by have := key.1; rwa [List.length_map] at this, fun x hx => key.2 x.P (List.mem_map_of_mem hx)⟩
end Go.Proofs.Ytjlmgjpnfppkoaa
