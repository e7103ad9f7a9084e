/-
  Frames as plain data: lists of frames, what fits, the first frame with a property. Plain lemmas, no program's function.
-/
import Derived.Test.YtjlmgjpnfppkoaaBase
namespace Go.Proofs.Ytjlmgjpnfppkoaa
open Go.RowKit

structure FrD where
  st : Int
  bl : Int
  deriving DecidableEq
def FrD.zero : FrD := ⟨0, 0⟩
def frVals : List FrD → List Value
  | [] => []
  | f :: r => .int .i64 f.st :: .int .i64 f.bl :: frVals r
theorem frVals_len (fs : List FrD) : (frVals fs).length = fs.length * 2 := by
  induction fs with
  | nil => rfl
  | cons f r ih => simp [frVals, ih]; omega
theorem frVals_get (fs : List FrD) : ∀ (k : Nat), k < fs.length → (frVals fs)[k * 2]? = some (.int .i64 (fs.getD k FrD.zero).st) ∧ (frVals fs)[k * 2 + 1]? = some (.int .i64 (fs.getD k FrD.zero).bl) := by
  induction fs with
  | nil => intro k h; simp at h
  | cons f r ih =>
    intro k h
    cases k with
    | zero => exact ⟨by simp [frVals], by simp [frVals]⟩
    | succ k =>
      have := ih k (by simpa using h)
      have e : (k + 1) * 2 = k * 2 + 2 := by omega
      rw [e]
      simpa [frVals] using this
theorem frVals_one (fs : List FrD) : ∀ u ∈ frVals fs, u.oneCell' = true := by
  induction fs with
  | nil => intro u hu; simp [frVals] at hu
  | cons f r ih =>
    intro u hu
    simp only [frVals, List.mem_cons] at hu
    rcases hu with rfl | rfl | hu
    · rfl
    · rfl
    · exact ih u hu
theorem frVals_append (a b : List FrD) : frVals (a ++ b) = frVals a ++ frVals b := by
  induction a with
  | nil => rfl
  | cons f r ih => simp [frVals, ih]
theorem frVals_set (fs : List FrD) : ∀ (k : Nat) (f : FrD), ((frVals fs).set (k * 2) (.int .i64 f.st)).set (k * 2 + 1) (.int .i64 f.bl) = frVals (fs.set k f) := by
  induction fs with
  | nil => intro k f; simp [frVals]
  | cons g r ih =>
    intro k f
    cases k with
    | zero => simp [frVals]
    | succ k =>
      have e : (k + 1) * 2 = k * 2 + 2 := by omega
      rw [e]
      simp only [frVals, List.set_cons_succ]
      rw [ih]

theorem Has.frame {w : World} {A : Option Addr} {n : Nat} {fs : List FrD} (h : Has w A n 2 (frVals fs)) : fs.length = n := by
  have := h.1; rw [frVals_len] at this; omega
theorem Has.frame_at {w : World} {A : Option Addr} {n k : Nat} {fs : List FrD} (h : Has w A n 2 (frVals fs)) (hk : k < n) :
    ∃ b off, A = some ⟨b, off, none⟩ ∧ b < w.heap.size ∧ w.cell? ⟨b, off + k * 2, none⟩ = some (.int .i64 (fs.getD k FrD.zero).st) ∧ w.cell? ⟨b, off + k * 2 + 1, none⟩ = some (.int .i64 (fs.getD k FrD.zero).bl) := by
  obtain ⟨b, off, e, hb, hc⟩ := h.2 (by omega)
  have hl : k < fs.length := by rw [h.frame]; exact hk
  obtain ⟨h1, h2⟩ := frVals_get fs k hl
  exact ⟨b, off, e, hb, hc _ _ h1, by have := hc _ _ h2; rwa [← Nat.add_assoc] at this⟩

def fitB (s b : Int) : Bool := if s = 1 then decide (1 ≤ b ∧ b ≤ 64) else decide (0 ≤ s ∧ s ≤ 5 ∧ b = 0)
def occB (s : Int) : Bool := decide (1 ≤ s ∧ s ≤ 4)
/-- The first place with the property, or -1. -/
def idxF (pr : FrD → Bool) (fs : List FrD) : Int := match fs.findIdx? pr with | some i => (i : Int) | none => -1
theorem idxF_at (pr : FrD → Bool) (fs : List FrD) (k : Nat) (hk : k < fs.length) (hp : pr (fs.getD k FrD.zero) = true) (hb : ∀ j, j < k → pr (fs.getD j FrD.zero) = false) : idxF pr fs = k := by
  have : fs.findIdx? pr = some k := by
    rw [List.findIdx?_eq_some_iff_getElem]
    refine ⟨hk, by simpa [List.getD, List.getElem?_eq_getElem hk] using hp, fun j hj => ?_⟩
    have := hb j hj
    have hjl : j < fs.length := by omega
    simpa [List.getD, List.getElem?_eq_getElem hjl] using this
  simp [idxF, this]
theorem idxF_none (pr : FrD → Bool) (fs : List FrD) (hb : ∀ j, j < fs.length → pr (fs.getD j FrD.zero) = false) : idxF pr fs = -1 := by
  have : fs.findIdx? pr = none := by
    rw [List.findIdx?_eq_none_iff]
    intro x hx
    obtain ⟨j, hj, rfl⟩ := List.getElem_of_mem hx
    have := hb j hj
    simpa [List.getD, List.getElem?_eq_getElem hj] using this
  simp [idxF, this]
def validF (fs : List FrD) : Bool := decide (1 ≤ fs.length) && decide (fs.length ≤ 64) && fs.all fun f => fitB f.st f.bl
def freeF (fs : List FrD) : Int := idxF (fun f => f.st == 0) fs
theorem idx_bad (fs : List FrD) : decide (0 ≤ idxF (fun f => !fitB f.st f.bl) fs) = !(fs.all fun f => fitB f.st f.bl) := by
  cases h : fs.findIdx? (fun f => !fitB f.st f.bl) with
  | none =>
    have h2 := List.findIdx?_eq_none_iff.1 h
    have : (fs.all fun f => fitB f.st f.bl) = true := List.all_eq_true.2 fun x hx => by simpa using h2 x hx
    simp [idxF, h, this]
  | some i =>
    obtain ⟨hi, hp, _⟩ := List.findIdx?_eq_some_iff_getElem.1 h
    have : (fs.all fun f => fitB f.st f.bl) = false := by
      rw [Bool.eq_false_iff]
      intro hall
      have := List.all_eq_true.1 hall _ (List.getElem_mem hi)
      simp [this] at hp
    simp [idxF, h, this]
end Go.Proofs.Ytjlmgjpnfppkoaa
