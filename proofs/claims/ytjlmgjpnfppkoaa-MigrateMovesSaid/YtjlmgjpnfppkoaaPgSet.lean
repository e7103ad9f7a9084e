/-
  Programs: what one store does to programs of the call's own (plain).
-/
import Derived.Test.YtjlmgjpnfppkoaaPgRepl
import Derived.Test.YtjlmgjpnfppkoaaPgInv
namespace Go.Proofs.Ytjlmgjpnfppkoaa
open Go.RowKit

theorem progVals_set3 (xs : List PrV) : ∀ (i : Nat) (A : Option Addr) (c : Nat) (pgs : List PgD), i < xs.length → (progVals xs).set (i * 5 + 3) (.slice A pgs.length c) = progVals (xs.set i ⟨{ (xs.getD i PrV.zero).P with pages := pgs }, A, c, (xs.getD i PrV.zero).TA, (xs.getD i PrV.zero).Tc⟩) := by
  induction xs with
  | nil => intro i A c pgs h; simp at h
  | cons x r ih =>
    intro i A c pgs h
    cases i with
    | zero => simp [progVals]
    | succ i =>
      have e : (i + 1) * 5 + 3 = (i * 5 + 3) + 5 := by omega
      rw [e]
      simp only [progVals, List.set_cons_succ, List.getD_cons_succ]
      rw [ih i A c pgs (by simpa using h)]
theorem progVals_set2 (xs : List PrV) : ∀ (i : Nat) (d : Bool), i < xs.length → (progVals xs).set (i * 5 + 2) (.bool d) = progVals (xs.set i { xs.getD i PrV.zero with P := { (xs.getD i PrV.zero).P with dead := d } }) := by
  induction xs with
  | nil => intro i d h; simp at h
  | cons x r ih =>
    intro i d h
    cases i with
    | zero => simp [progVals]
    | succ i =>
      have e : (i + 1) * 5 + 2 = (i * 5 + 2) + 5 := by omega
      rw [e]
      simp only [progVals, List.set_cons_succ, List.getD_cons_succ]
      rw [ih i d (by simpa using h)]
theorem pgVals_setsh (xs : List PgD) : ∀ (k : Nat) (f : Bool), (pgVals xs).set (k * 3 + 2) (.bool f) = pgVals (xs.set k { xs.getD k PgD.zero with sh := f }) := by
  induction xs with
  | nil => intro k f; simp [pgVals]
  | cons x r ih =>
    intro k f
    cases k with
    | zero => simp [pgVals]
    | succ k =>
      have e : (k + 1) * 3 + 2 = (k * 3 + 2) + 3 := by omega
      rw [e]
      simp only [pgVals, List.set_cons_succ, List.getD_cons_succ]
      rw [ih]
theorem far_of {w : World} {B1 B2 e1 e2 s1 s2 n1 n2 c1 c2 g : Nat} {A : Option Addr} {xs1 xs2 : List Value} (h1 : w.ownsRow B1 e1 s1 (.slice A n1 c1) n1 xs1) (h2 : w.ownsRow B2 e2 s2 (.slice (some ⟨g, 0, none⟩) n2 c2) n2 xs2) (hne : e1 ≠ e2) : (Value.slice A n1 c1).ownBlock ≠ some g := by
  rcases rows_apart h1 h2 hne with h | h
  · rw [h]; simp
  · intro e
    exact h (by rw [e]; rfl)
/-- One program of the call's own gets other pages. -/
theorem OwnProgs.set_pages {w : World} {B g n c i m c' : Nat} {A' : Option Addr} {xs : List PrV} {pgs : List PgD} (h : OwnProgs w B (.slice (some ⟨g, 0, none⟩) n c) xs) (hn : xs.length = n) (hi : i < xs.length) (hm : pgs.length = m) (hp : w.ownsRow B 98 3 (.slice A' m c') m (pgVals pgs)) :
    OwnProgs (w.setCell ⟨g, i * 5 + 3, none⟩ (.slice A' m c')) B (.slice (some ⟨g, 0, none⟩) n c) (xs.set i ⟨{ (xs.getD i PrV.zero).P with pages := pgs }, A', c', (xs.getD i PrV.zero).TA, (xs.getD i PrV.zero).Tc⟩) := by
  subst hm hn
  refine ⟨⟨_, c, by rw [List.length_set]⟩, ?_, ?_⟩
  · rw [← progVals_set3 xs i A' c' pgs hi, List.length_set]
    exact own_set h.2.1 _ _
  · intro x hx
    have keep : ∀ {e s k : Nat} {A : Option Addr} {cc : Nat} {vs : List Value}, w.ownsRow B e s (.slice A k cc) k vs → e ≠ 96 → (w.setCell ⟨g, i * 5 + 3, none⟩ (.slice A' pgs.length c')).ownsRow B e s (.slice A k cc) k vs :=
      fun hr hne => ownsRow_setCell_far hr (far_of hr h.2.1 hne) _
    rcases List.mem_or_eq_of_mem_set hx with hx | rfl
    · exact ⟨keep (h.2.2 x hx).1 (by decide), keep (h.2.2 x hx).2 (by decide)⟩
    · exact ⟨keep hp (by decide), keep (h.2.2 _ (getD_mem xs PrV.zero hi)).2 (by decide)⟩
/-- One program of the call's own is marked. -/
theorem OwnProgs.set_dead {w : World} {B g n c i : Nat} {d : Bool} {xs : List PrV} (h : OwnProgs w B (.slice (some ⟨g, 0, none⟩) n c) xs) (hn : xs.length = n) (hi : i < xs.length) :
    OwnProgs (w.setCell ⟨g, i * 5 + 2, none⟩ (.bool d)) B (.slice (some ⟨g, 0, none⟩) n c) (xs.set i { xs.getD i PrV.zero with P := { (xs.getD i PrV.zero).P with dead := d } }) := by
  subst hn
  refine ⟨⟨_, c, by rw [List.length_set]⟩, ?_, ?_⟩
  · rw [← progVals_set2 xs i d hi, List.length_set]
    exact own_set h.2.1 _ _
  · intro x hx
    have keep : ∀ {e s k : Nat} {A : Option Addr} {cc : Nat} {vs : List Value}, w.ownsRow B e s (.slice A k cc) k vs → e ≠ 96 → (w.setCell ⟨g, i * 5 + 2, none⟩ (.bool d)).ownsRow B e s (.slice A k cc) k vs :=
      fun hr hne => ownsRow_setCell_far hr (far_of hr h.2.1 hne) _
    rcases List.mem_or_eq_of_mem_set hx with hx | rfl
    · exact ⟨keep (h.2.2 x hx).1 (by decide), keep (h.2.2 x hx).2 (by decide)⟩
    · have := h.2.2 _ (getD_mem xs PrV.zero hi)
      exact ⟨keep this.1 (by decide), keep this.2 (by decide)⟩
/-- One page of the call's own is marked. -/
theorem OwnProgs.set_shared {w : World} {B pb i k : Nat} {v : Value} {zs : List PrV} {f : Bool} (h : OwnProgs w B v zs) (ha : Apart zs) (hi : i < zs.length) (hA : (zs.getD i PrV.zero).A = some ⟨pb, 0, none⟩) :
    OwnProgs (w.setCell ⟨pb, k * 3 + 2, none⟩ (.bool f)) B v (zs.set i { zs.getD i PrV.zero with P := { (zs.getD i PrV.zero).P with pages := (zs.getD i PrV.zero).P.pages.set k { (zs.getD i PrV.zero).P.pages.getD k PgD.zero with sh := f } } }) := by
  have hrow := (h.2.2 _ (getD_mem zs PrV.zero hi)).1
  rw [hA] at hrow
  obtain ⟨A0, c0, hv⟩ := h.1
  refine ⟨⟨A0, c0, by rw [hv, List.length_set]⟩, ?_, ?_⟩
  · rw [progVals_same zs i _ (by simp), List.length_set]
    refine ownsRow_setCell_far h.2.1 ?_ _
    have h21 := h.2.1
    rw [hv] at h21 ⊢
    exact far_of' h21 hrow (by decide)
  · intro x hx
    obtain ⟨j, hj, rfl⟩ := List.getElem_of_mem hx
    have hj' : j < zs.length := by simpa using hj
    rw [List.getElem_set]
    split
    · rename_i e
      subst e
      refine ⟨?_, ?_⟩
      · dsimp only
        rw [List.length_set, ← pgVals_setsh]
        rw [hA]
        exact own_set hrow _ _
      · exact ownsRow_setCell_far (h.2.2 _ (getD_mem zs PrV.zero hi)).2 (far_of' (h.2.2 _ (getD_mem zs PrV.zero hi)).2 hrow (by decide)) _
    · rename_i hne
      have hm := h.2.2 _ (List.getElem_mem hj')
      refine ⟨ownsRow_setCell_far hm.1 ?_ _, ownsRow_setCell_far hm.2 (far_of' hm.2 hrow (by decide)) _⟩
      have hap := ha.get hi hj' hne
      rw [hA, show zs.getD j PrV.zero = zs[j] from by simp [List.getD, List.getElem?_eq_getElem hj']] at hap
      rcases row_cases' hm.1 with hn | ⟨g, hg⟩
      · rw [hn]; simp [Value.ownBlock]
      · rw [hg]
        simp only [Value.ownBlock, ne_eq, Option.some.injEq]
        intro e
        exact hap _ _ rfl hg e.symm
end Go.Proofs.Ytjlmgjpnfppkoaa
