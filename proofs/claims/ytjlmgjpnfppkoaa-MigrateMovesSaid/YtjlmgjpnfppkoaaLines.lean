/-
  Lists of lines as plain data: each line with the place of its bytes. Plain lemmas, no program's function.
-/
import Derived.Test.YtjlmgjpnfppkoaaBase
namespace Go.Proofs.Ytjlmgjpnfppkoaa
open Go.RowKit

/-- A line as it stands in a list: what it is, and where its bytes lie. -/
structure LineV where
  L : LineD
  A : Option Addr
  c : Nat
def LineV.zero : LineV := ⟨LineD.zero, none, 0⟩
def lineVals : List LineV → List Value
  | [] => []
  | x :: r => .int .i64 x.L.addr :: .slice x.A x.L.data.length x.c :: .bool x.L.dirty :: .bool x.L.poison :: lineVals r
theorem lineVals_len (xs : List LineV) : (lineVals xs).length = xs.length * 4 := by
  induction xs with
  | nil => rfl
  | cons x r ih => simp [lineVals, ih]; omega
theorem lineVals_append (a b : List LineV) : lineVals (a ++ b) = lineVals a ++ lineVals b := by
  induction a with
  | nil => rfl
  | cons x r ih => simp [lineVals, ih]
theorem lineVals_one (xs : List LineV) : ∀ u ∈ lineVals xs, u.oneCell' = true := by
  induction xs with
  | nil => intro u hu; simp [lineVals] at hu
  | cons f r ih =>
    intro u hu
    simp only [lineVals, List.mem_cons] at hu
    rcases hu with rfl | rfl | rfl | rfl | hu
    · rfl
    · rfl
    · rfl
    · rfl
    · exact ih u hu
theorem lineVals_get (xs : List LineV) : ∀ (k : Nat), k < xs.length →
    (lineVals xs)[k * 4]? = some (.int .i64 (xs.getD k LineV.zero).L.addr) ∧ (lineVals xs)[k * 4 + 1]? = some (.slice (xs.getD k LineV.zero).A (xs.getD k LineV.zero).L.data.length (xs.getD k LineV.zero).c) ∧
    (lineVals xs)[k * 4 + 2]? = some (.bool (xs.getD k LineV.zero).L.dirty) ∧ (lineVals xs)[k * 4 + 3]? = some (.bool (xs.getD k LineV.zero).L.poison) := by
  induction xs with
  | nil => intro k h; simp at h
  | cons x r ih =>
    intro k h
    cases k with
    | zero => exact ⟨by simp [lineVals], by simp [lineVals], by simp [lineVals], by simp [lineVals]⟩
    | succ k =>
      have := ih k (by simpa using h)
      have e : (k + 1) * 4 = k * 4 + 4 := by omega
      rw [e]
      simpa [lineVals] using this

/-- The slice reads as these lines, and their bytes read where they lie. -/
def IsLines (w : World) (A : Option Addr) (n : Nat) (xs : List LineV) : Prop :=
  Has w A n 4 (lineVals xs) ∧ ∀ x ∈ xs, Has w x.A x.L.data.length 1 (byteVals x.L.data)
theorem IsLines.len {w : World} {A : Option Addr} {n : Nat} {xs : List LineV} (h : IsLines w A n xs) : xs.length = n := by
  have := h.1.1; rw [lineVals_len] at this; omega
theorem IsLines.below {w w' : World} {A : Option Addr} {n : Nat} {xs : List LineV} (h : IsLines w A n xs) (hb : Below w.heap.size w w') : IsLines w' A n xs :=
  ⟨h.1.below hb, fun x hx => (h.2 x hx).below hb⟩
theorem IsLines.alloc {w : World} {A : Option Addr} {n : Nat} {xs : List LineV} (h : IsLines w A n xs) (o : Obj) : IsLines (w.alloc o) A n xs :=
  ⟨h.1.alloc o, fun x hx => (h.2 x hx).alloc o⟩
theorem IsLines.drew {w : World} {A : Option Addr} {n : Nat} {xs : List LineV} (h : IsLines w A n xs) : IsLines w.drew A n xs := h
theorem IsLines.at_ {w : World} {A : Option Addr} {n k : Nat} {xs : List LineV} (h : IsLines w A n xs) (hk : k < n) :
    ∃ b off, A = some ⟨b, off, none⟩ ∧ b < w.heap.size ∧
      w.cell? ⟨b, off + k * 4, none⟩ = some (.int .i64 (xs.getD k LineV.zero).L.addr) ∧ w.cell? ⟨b, off + k * 4 + 1, none⟩ = some (.slice (xs.getD k LineV.zero).A (xs.getD k LineV.zero).L.data.length (xs.getD k LineV.zero).c) ∧
      w.cell? ⟨b, off + k * 4 + 2, none⟩ = some (.bool (xs.getD k LineV.zero).L.dirty) ∧ w.cell? ⟨b, off + k * 4 + 3, none⟩ = some (.bool (xs.getD k LineV.zero).L.poison) ∧
      Has w (xs.getD k LineV.zero).A (xs.getD k LineV.zero).L.data.length 1 (byteVals (xs.getD k LineV.zero).L.data) := by
  obtain ⟨b, off, e, hb, hc⟩ := h.1.2 (by omega)
  have hl : k < xs.length := by rw [h.len]; exact hk
  obtain ⟨h0, h1, h2, h3⟩ := lineVals_get xs k hl
  refine ⟨b, off, e, hb, hc _ _ h0, ?_, ?_, ?_, h.2 _ ?_⟩
  · have := hc _ _ h1; rwa [← Nat.add_assoc] at this
  · have := hc _ _ h2; rwa [← Nat.add_assoc] at this
  · have := hc _ _ h3; rwa [← Nat.add_assoc] at this
  · simp [List.getD, List.getElem?_eq_getElem hl]

/-- New lines: the row and the bytes of each line are the call's own, from block B on. -/
def OwnLines (w : World) (B : Nat) (v : Value) (xs : List LineV) : Prop :=
  (∃ A c, v = .slice A xs.length c) ∧ w.ownsRow B 28 4 v xs.length (lineVals xs) ∧ ∀ x ∈ xs, w.ownsRow B 5 1 (.slice x.A x.L.data.length x.c) x.L.data.length (byteVals x.L.data)
theorem OwnLines.nil_ (w : World) (B : Nat) : OwnLines w B (.slice none 0 0) [] := ⟨⟨none, 0, rfl⟩, World.ownsRow_nil _ _ _ _, fun x hx => by simp at hx⟩
theorem OwnLines.is {w : World} {B : Nat} {A : Option Addr} {c n : Nat} {xs : List LineV} (h : OwnLines w B (.slice A n c) xs) (hn : xs.length = n) : IsLines w A n xs := by
  subst hn
  exact ⟨Has.of_own h.2.1, fun x hx => Has.of_own (h.2.2 x hx)⟩
theorem OwnLines.below {w w' : World} {B : Nat} {v : Value} {xs : List LineV} (h : OwnLines w B v xs) (hb : Below w.heap.size w w') : OwnLines w' B v xs :=
  ⟨h.1, ownsRow_below h.2.1 hb, fun x hx => ownsRow_below (h.2.2 x hx) hb⟩
/-- Rows of different element types lie in different blocks. -/
theorem rows_apart {w : World} {B1 B2 e1 e2 s1 s2 n1 n2 : Nat} {v1 v2 : Value} {xs1 xs2 : List Value} (h1 : w.ownsRow B1 e1 s1 v1 n1 xs1) (h2 : w.ownsRow B2 e2 s2 v2 n2 xs2) (hne : e1 ≠ e2) : v1.ownBlock = none ∨ v1.ownBlock ≠ v2.ownBlock := by
  rcases h1.2 with ⟨hv, _⟩ | ⟨g, cap, cur, hv, _, hh, _⟩
  · left; rw [hv]; rfl
  · right
    rcases h2.2 with ⟨hv2, _⟩ | ⟨g2, cap2, cur2, hv2, _, hh2, _⟩
    · rw [hv, hv2]; simp [Value.ownBlock]
    · rw [hv, hv2]
      simp only [Value.ownBlock, ne_eq, Option.some.injEq]
      intro hg
      subst hg
      rw [hh] at hh2
      injection hh2 with hh2
      injection hh2 with _ hh2
      exact hne hh2
end Go.Proofs.Ytjlmgjpnfppkoaa
