/-
  What stays through the loops of a law over transfers.
-/
import Derived.LoopTactic
import Derived.Test.YtjlmgjpnfppkoaaDBox
import Derived.Test.YtjlmgjpnfppkoaaLines
namespace Go.Proofs.Ytjlmgjpnfppkoaa
open Go.RowKit

/-- Four rows of three numbers lie in the block g; the third of each is a number of 64 bits. -/
def Rows3b (w : World) (g : Nat) : Prop := ∀ j : Nat, j < 4 → ∃ X Y Z : Int, -9223372036854775808 ≤ Z ∧ Z ≤ 9223372036854775807 ∧ w.cell? ⟨g, j * 3, none⟩ = some (.int .i64 X) ∧ w.cell? ⟨g, j * 3 + 1, none⟩ = some (.int .i64 Y) ∧ w.cell? ⟨g, j * 3 + 2, none⟩ = some (.int .i64 Z)
theorem Rows3b.below {w w' : World} {g B : Nat} (h : Rows3b w g) (hb : Below B w w') (hg : g < B) : Rows3b w' g := fun j hj => by
  obtain ⟨X, Y, Z, z1, z2, h0, h1, h2⟩ := h j hj
  exact ⟨X, Y, Z, z1, z2, cellK hb hg h0, cellK hb hg h1, cellK hb hg h2⟩
theorem Rows3b.but {w w' : World} {g d B : Nat} (h : Rows3b w g) (hb : But d B w w') (hg : g < B) (hne : g ≠ d) : Rows3b w' g := fun j hj => by
  obtain ⟨X, Y, Z, z1, z2, h0, h1, h2⟩ := h j hj
  exact ⟨X, Y, Z, z1, z2, cellB hb hg hne h0, cellB hb hg hne h1, cellB hb hg hne h2⟩
theorem Rows3b.new (w : World) (a b c d e f g h i j k l : Int) (t : TypeId) (hc : -9223372036854775808 ≤ c ∧ c ≤ 9223372036854775807) (hf : -9223372036854775808 ≤ f ∧ f ≤ 9223372036854775807) (hi : -9223372036854775808 ≤ i ∧ i ≤ 9223372036854775807) (hl : -9223372036854775808 ≤ l ∧ l ≤ 9223372036854775807) :
    Rows3b (w.alloc (.cells #[.int .i64 a, .int .i64 b, .int .i64 c, .int .i64 d, .int .i64 e, .int .i64 f, .int .i64 g, .int .i64 h, .int .i64 i, .int .i64 j, .int .i64 k, .int .i64 l] t)) w.heap.size := by
  intro q hq
  have : q = 0 ∨ q = 1 ∨ q = 2 ∨ q = 3 := by omega
  rcases this with rfl | rfl | rfl | rfl
  · exact ⟨a, b, c, hc.1, hc.2, by simp [go_sem], by simp [go_sem], by simp [go_sem]⟩
  · exact ⟨d, e, f, hf.1, hf.2, by simp [go_sem], by simp [go_sem], by simp [go_sem]⟩
  · exact ⟨g, h, i, hi.1, hi.2, by simp [go_sem], by simp [go_sem], by simp [go_sem]⟩
  · exact ⟨j, k, l, hl.1, hl.2, by simp [go_sem], by simp [go_sem], by simp [go_sem]⟩
/-- Three numbers lie in the block g. -/
def Tri (w : World) (g : Nat) (X Y Z : Int) : Prop := w.cell? ⟨g, 0, none⟩ = some (.int .i64 X) ∧ w.cell? ⟨g, 1, none⟩ = some (.int .i64 Y) ∧ w.cell? ⟨g, 2, none⟩ = some (.int .i64 Z)
theorem Tri.below {w w' : World} {g B : Nat} {X Y Z : Int} (h : Tri w g X Y Z) (hb : Below B w w') (hg : g < B) : Tri w' g X Y Z := ⟨cellK hb hg h.1, cellK hb hg h.2.1, cellK hb hg h.2.2⟩
theorem Tri.but {w w' : World} {g d B : Nat} {X Y Z : Int} (h : Tri w g X Y Z) (hb : But d B w w') (hg : g < B) (hne : g ≠ d) : Tri w' g X Y Z := ⟨cellB hb hg hne h.1, cellB hb hg hne h.2.1, cellB hb hg hne h.2.2⟩
theorem Tri.new (w : World) (X Y Z : Int) (t : TypeId) : Tri (w.alloc (.cells #[.int .i64 X, .int .i64 Y, .int .i64 Z] t)) w.heap.size X Y Z := by simp [Tri, go_sem]

/-- Two transfers lie in the block g. -/
def Two (w : World) (g : Nat) : Prop := ∀ j : Nat, j < 2 → ∃ (f t c n : Int) (s x : Bool), -9223372036854775808 ≤ c ∧ w.cell? ⟨g, j * 6, none⟩ = some (.int .i64 f) ∧ w.cell? ⟨g, j * 6 + 1, none⟩ = some (.int .i64 t) ∧ w.cell? ⟨g, j * 6 + 2, none⟩ = some (.int .i64 c) ∧
  w.cell? ⟨g, j * 6 + 3, none⟩ = some (.int .i64 n) ∧ w.cell? ⟨g, j * 6 + 4, none⟩ = some (.bool s) ∧ w.cell? ⟨g, j * 6 + 5, none⟩ = some (.bool x)
theorem Two.below {w w' : World} {g B : Nat} (h : Two w g) (hb : Below B w w') (hg : g < B) : Two w' g := fun j hj => by
  obtain ⟨f, t, c, n, s, x, hc, h0, h1, h2, h3, h4, h5⟩ := h j hj
  exact ⟨f, t, c, n, s, x, hc, cellK hb hg h0, cellK hb hg h1, cellK hb hg h2, cellK hb hg h3, cellK hb hg h4, cellK hb hg h5⟩
theorem Two.but {w w' : World} {g d B : Nat} (h : Two w g) (hb : But d B w w') (hg : g < B) (hne : g ≠ d) : Two w' g := fun j hj => by
  obtain ⟨f, t, c, n, s, x, hc, h0, h1, h2, h3, h4, h5⟩ := h j hj
  exact ⟨f, t, c, n, s, x, hc, cellB hb hg hne h0, cellB hb hg hne h1, cellB hb hg hne h2, cellB hb hg hne h3, cellB hb hg hne h4, cellB hb hg hne h5⟩
theorem Two.new (w : World) (f t c n f' t' c' n' : Int) (s x s' x' : Bool) (ty : TypeId) (hc : -9223372036854775808 ≤ c) (hc' : -9223372036854775808 ≤ c') :
    Two (w.alloc (.cells #[.int .i64 f, .int .i64 t, .int .i64 c, .int .i64 n, .bool s, .bool x, .int .i64 f', .int .i64 t', .int .i64 c', .int .i64 n', .bool s', .bool x'] ty)) w.heap.size := by
  intro q hq
  have : q = 0 ∨ q = 1 := by omega
  rcases this with rfl | rfl
  · exact ⟨f, t, c, n, s, x, hc, by simp [go_sem], by simp [go_sem], by simp [go_sem], by simp [go_sem], by simp [go_sem], by simp [go_sem]⟩
  · exact ⟨f', t', c', n', s', x', hc', by simp [go_sem], by simp [go_sem], by simp [go_sem], by simp [go_sem], by simp [go_sem], by simp [go_sem]⟩

theorem LnBox.but {w w' : World} {g d B : Nat} {a : Int} {A : Option Addr} {n c : Nat} {q p : Bool} (h : LnBox w g a A n c q p) (hb : But d B w w') (hg : g < B) (hne : g ≠ d) : LnBox w' g a A n c q p :=
  ⟨cellB hb hg hne h.1, cellB hb hg hne h.2.1, cellB hb hg hne h.2.2.1, cellB hb hg hne h.2.2.2⟩

/-- The two boxed arguments, the dice, the rows of numbers; what the caller had is as it was. -/
def EnvD (w0 : World) (T : TrD) (a : Int) (A : Option Addr) (n c : Nat) (q p : Bool) (gK : Nat) (w : World) : Prop :=
  TrBox w w0.heap.size T ∧ LnBox w (w0.heap.size + 1) a A n c q p ∧ DiceOk w (w0.heap.size + 1 + 1) ∧ Rows3b w gK ∧ w0.heap.size + 1 + 1 < gK ∧ gK < w.heap.size ∧ Below w0.heap.size w0 w
section
variable {w0 w w' : World} {T : TrD} {a : Int} {A : Option Addr} {n c : Nat} {q p : Bool} {gK : Nat}
theorem EnvD.below (h : EnvD w0 T a A n c q p gK w) (hb : Below w.heap.size w w') : EnvD w0 T a A n c q p gK w' := by
  obtain ⟨h1, h2, h3, h4, h5, h6, h7⟩ := h
  exact ⟨h1.below hb (by omega), h2.below hb (by omega), h3.below hb, h4.below hb h6, h5, Nat.lt_of_lt_of_le h6 hb.size, h7.trans (hb.mono h7.size)⟩
theorem EnvD.but (h : EnvD w0 T a A n c q p gK w) (hb : But (w0.heap.size + 1 + 1) w.heap.size w w') (hd : DiceOk w' (w0.heap.size + 1 + 1)) : EnvD w0 T a A n c q p gK w' := by
  obtain ⟨h1, h2, h3, h4, h5, h6, h7⟩ := h
  exact ⟨h1.but hb (by omega) (by omega), h2.but hb (by omega) (by omega), hd, h4.but hb h6 (by omega), h5, Nat.lt_of_lt_of_le h6 hb.size, h7.trans (hb.below h7.size (by omega))⟩
theorem EnvD.alloc (h : EnvD w0 T a A n c q p gK w) (o : Obj) : EnvD w0 T a A n c q p gK (w.alloc o) := h.below ((Below.refl _ _).alloc (Nat.le_refl _) o)
theorem EnvD.drew (h : EnvD w0 T a A n c q p gK w) : EnvD w0 T a A n c q p gK w.drew := ⟨h.1, h.2.1, h.2.2.1, h.2.2.2.1, h.2.2.2.2.1, h.2.2.2.2.2.1, h.2.2.2.2.2.2.drew⟩
theorem EnvD.lt (h : EnvD w0 T a A n c q p gK w) : gK < w.heap.size := h.2.2.2.2.2.1
theorem EnvD.dice (h : EnvD w0 T a A n c q p gK w) : DiceOk w (w0.heap.size + 1 + 1) := h.2.2.1
theorem EnvD.old (h : EnvD w0 T a A n c q p gK w) : Below w0.heap.size w0 w := h.2.2.2.2.2.2
theorem EnvD.put (h : EnvD w0 T a A n c q p gK w) {b i : Nat} (hp : gK < b) (u : Value) : EnvD w0 T a A n c q p gK (w.setCell ⟨b, i, none⟩ u) := by
  obtain ⟨h1, h2, h3, h4, h5, h6, h7⟩ := h
  have hb : Below (gK + 1) w (w.setCell ⟨b, i, none⟩ u) := (Below.refl _ _).setCell (show gK + 1 ≤ b from hp) u
  exact ⟨h1.below hb (by omega), h2.below hb (by omega), h3.lies hb (by omega), h4.below hb (by omega), h5, by simpa using h6, h7.trans (hb.mono (by omega))⟩
end
theorem mod_bd (n m : Int) (h : m ≤ 100) : 0 ≤ mod n m ∧ mod n m ≤ 100 := by
  by_cases h1 : 1 ≤ m
  · have := mod_range n m h1; omega
  · rw [mod, if_pos (by omega)]; omega
theorem nextA_bd {T : TrD} : 0 ≤ nextA T ∧ nextA T ≤ 1048576 := by
  unfold nextA
  split
  · rename_i h
    obtain ⟨f, t, c, n, s, x⟩ := T
    obtain ⟨⟨h1, h2, h3, h4, _⟩, h5, h6⟩ := valid_bd (live_valid h)
    dsimp only
    omega
  · omega
end Go.Proofs.Ytjlmgjpnfppkoaa
