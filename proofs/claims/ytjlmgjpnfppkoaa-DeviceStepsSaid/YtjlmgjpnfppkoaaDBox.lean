/-
  Boxes of transfers and of lines, carried over calls.
-/
import Derived.Test.YtjlmgjpnfppkoaaDAwake
import Derived.Test.YtjlmgjpnfppkoaaDev5
import Derived.Test.YtjlmgjpnfppkoaaDice
namespace Go.Proofs.Ytjlmgjpnfppkoaa
open Go.RowKit

/-- A transfer lies in the block g, and may be written. -/
def TrBox (w : World) (g : Nat) (T : TrD) : Prop :=
  w.cell? ⟨g, 0, none⟩ = some (.int .i64 T.fr) ∧ w.cell? ⟨g, 1, none⟩ = some (.int .i64 T.tt) ∧ w.cell? ⟨g, 2, none⟩ = some (.int .i64 T.cnt) ∧
  w.cell? ⟨g, 3, none⟩ = some (.int .i64 T.dn) ∧ w.cell? ⟨g, 4, none⟩ = some (.bool T.strict) ∧ w.cell? ⟨g, 5, none⟩ = some (.bool T.failed) ∧
  w.frozen? ⟨g, 0, none⟩ = false ∧ w.frozen? ⟨g, 1, none⟩ = false ∧ w.frozen? ⟨g, 2, none⟩ = false ∧ w.frozen? ⟨g, 3, none⟩ = false ∧ w.frozen? ⟨g, 4, none⟩ = false ∧ w.frozen? ⟨g, 5, none⟩ = false
/-- A line lies in the block g. -/
def LnBox (w : World) (g : Nat) (a : Int) (A : Option Addr) (n c : Nat) (d p : Bool) : Prop :=
  w.cell? ⟨g, 0, none⟩ = some (.int .i64 a) ∧ w.cell? ⟨g, 1, none⟩ = some (.slice A n c) ∧ w.cell? ⟨g, 2, none⟩ = some (.bool d) ∧ w.cell? ⟨g, 3, none⟩ = some (.bool p)
section
variable {w w' : World} {B g d : Nat} {T : TrD}
theorem TrBox.below (h : TrBox w g T) (hb : Below B w w') (hg : g < B) : TrBox w' g T := by
  obtain ⟨h0, h1, h2, h3, h4, h5, f0, f1, f2, f3, f4, f5⟩ := h
  exact ⟨cellK hb hg h0, cellK hb hg h1, cellK hb hg h2, cellK hb hg h3, cellK hb hg h4, cellK hb hg h5, frozK hb hg f0, frozK hb hg f1, frozK hb hg f2, frozK hb hg f3, frozK hb hg f4, frozK hb hg f5⟩
theorem TrBox.but (h : TrBox w g T) (hb : But d B w w') (hg : g < B) (hne : g ≠ d) : TrBox w' g T := by
  obtain ⟨h0, h1, h2, h3, h4, h5, f0, f1, f2, f3, f4, f5⟩ := h
  exact ⟨cellB hb hg hne h0, cellB hb hg hne h1, cellB hb hg hne h2, cellB hb hg hne h3, cellB hb hg hne h4, cellB hb hg hne h5, frozB hb hg hne f0, frozB hb hg hne f1, frozB hb hg hne f2, frozB hb hg hne f3, frozB hb hg hne f4, frozB hb hg hne f5⟩
theorem TrBox.new (w : World) (f t c n : Int) (s x : Bool) (ty : TypeId) : TrBox (w.alloc (.cells #[.int .i64 f, .int .i64 t, .int .i64 c, .int .i64 n, .bool s, .bool x] ty)) w.heap.size ⟨f, t, c, n, s, x⟩ := by
  simp [TrBox, go_sem]
theorem TrBox.alloc (h : TrBox w g T) (hg : g < w.heap.size) (o : Obj) : TrBox (w.alloc o) g T := h.below ((Below.refl _ _).alloc (Nat.le_refl _) o) hg
theorem LnBox.below {a : Int} {A : Option Addr} {n c : Nat} {d p : Bool} (h : LnBox w g a A n c d p) (hb : Below B w w') (hg : g < B) : LnBox w' g a A n c d p :=
  ⟨cellK hb hg h.1, cellK hb hg h.2.1, cellK hb hg h.2.2.1, cellK hb hg h.2.2.2⟩
theorem LnBox.new (w : World) (a : Int) (A : Option Addr) (n c : Nat) (d p : Bool) (ty : TypeId) : LnBox (w.alloc (.cells #[.int .i64 a, .slice A n c, .bool d, .bool p] ty)) w.heap.size a A n c d p := by
  simp [LnBox, go_sem]
theorem LnBox.alloc {a : Int} {A : Option Addr} {n c : Nat} {d p : Bool} (h : LnBox w g a A n c d p) (hg : g < w.heap.size) (o : Obj) : LnBox (w.alloc o) g a A n c d p := h.below ((Below.refl _ _).alloc (Nat.le_refl _) o) hg
end
end Go.Proofs.Ytjlmgjpnfppkoaa
