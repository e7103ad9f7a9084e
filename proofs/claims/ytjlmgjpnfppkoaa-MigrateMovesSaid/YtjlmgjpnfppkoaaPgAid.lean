/-
  Pages and programs: parts of lists in memory, and the step laws for appends in a region. Plain lemmas, no program's function.
-/
import Derived.Test.YtjlmgjpnfppkoaaPgEnd
namespace Go.Proofs.Ytjlmgjpnfppkoaa
open Go.RowKit

theorem pgVals_take (xs : List PgD) : ∀ (k : Nat), (pgVals xs).take (k * 3) = pgVals (xs.take k) := by
  induction xs with
  | nil => intro k; simp [pgVals]
  | cons x r ih =>
    intro k
    cases k with
    | zero => simp [pgVals]
    | succ k =>
      have e : (k + 1) * 3 = k * 3 + 3 := by omega
      rw [e]
      simp [pgVals, ih]
theorem pgVals_drop (xs : List PgD) : ∀ (k : Nat), (pgVals xs).drop (k * 3) = pgVals (xs.drop k) := by
  induction xs with
  | nil => intro k; simp [pgVals]
  | cons x r ih =>
    intro k
    cases k with
    | zero => simp [pgVals]
    | succ k =>
      have e : (k + 1) * 3 = k * 3 + 3 := by omega
      rw [e]
      simp [pgVals, ih]
theorem progVals_take (xs : List PrV) : ∀ (k : Nat), (progVals xs).take (k * 5) = progVals (xs.take k) := by
  induction xs with
  | nil => intro k; simp [progVals]
  | cons x r ih =>
    intro k
    cases k with
    | zero => simp [progVals]
    | succ k =>
      have e : (k + 1) * 5 = k * 5 + 5 := by omega
      rw [e]
      simp [progVals, ih]
theorem progVals_drop (xs : List PrV) : ∀ (k : Nat), (progVals xs).drop (k * 5) = progVals (xs.drop k) := by
  induction xs with
  | nil => intro k; simp [progVals]
  | cons x r ih =>
    intro k
    cases k with
    | zero => simp [progVals]
    | succ k =>
      have e : (k + 1) * 5 = k * 5 + 5 := by omega
      rw [e]
      simp [progVals, ih]
theorem has_take {w : World} {A : Option Addr} {n sz k : Nat} {xs : List Value} (h : Has w A n sz xs) (hk : k ≤ n) : Has w A k sz (xs.take (k * sz)) := by
  refine ⟨by rw [List.length_take, h.1]; exact Nat.min_eq_left (Nat.mul_le_mul_right _ hk), fun h0 => ?_⟩
  obtain ⟨b, off, e, hb, hc⟩ := h.2 (Nat.lt_of_lt_of_le h0 (Nat.mul_le_mul_right _ hk))
  refine ⟨b, off, e, hb, fun j u hu => hc j u ?_⟩
  rw [List.getElem?_take] at hu
  split at hu
  · exact hu
  · cases hu
/-- The slice from k on, wherever the list lies (nil, and no room behind it, let in). -/
theorem has_from {w : World} {A : Option Addr} {n sz k c : Nat} {xs : List Value} (h : Has w A n sz xs) (_hk : k ≤ n) (hc : n ≤ c) : Has w (if c = k then A else A.map fun x => x.add (k * sz)) (n - k) sz (xs.drop (k * sz)) := by
  refine ⟨by rw [List.length_drop, h.1, Nat.sub_mul], fun h0 => ?_⟩
  have hn : 0 < n * sz := Nat.lt_of_lt_of_le h0 (Nat.mul_le_mul_right _ (Nat.sub_le _ _))
  have hkn : k < n := by
    rcases Nat.lt_or_ge k n with h1 | h1
    · exact h1
    · rw [Nat.sub_eq_zero_of_le h1] at h0; simp at h0
  rw [if_neg (by omega)]
  obtain ⟨b, off, rfl, hb, hcc⟩ := h.2 hn
  refine ⟨b, off + k * sz, by simp [addr_add], hb, fun j u hu => ?_⟩
  rw [List.getElem?_drop] at hu
  have := hcc _ u hu
  rwa [← Nat.add_assoc] at this
theorem pages_take {w : World} {A : Option Addr} {n k : Nat} {xs : List PgD} (h : Has w A n 3 (pgVals xs)) (hk : k ≤ n) : Has w A k 3 (pgVals (xs.take k)) := by
  rw [← pgVals_take]; exact has_take h hk
theorem pages_from {w : World} {A : Option Addr} {n k c : Nat} {xs : List PgD} (h : Has w A n 3 (pgVals xs)) (hk : k ≤ n) (hc : n ≤ c) : Has w (if c = k then A else A.map fun x => x.add (k * 3)) (n - k) 3 (pgVals (xs.drop k)) := by
  rw [← pgVals_drop]; exact has_from h hk hc
theorem progs_take {w : World} {A : Option Addr} {n k : Nat} {xs : List PrV} (h : Has w A n 5 (progVals xs)) (hk : k ≤ n) : Has w A k 5 (progVals (xs.take k)) := by
  rw [← progVals_take]; exact has_take h hk
theorem progs_from {w : World} {A : Option Addr} {n k c : Nat} {xs : List PrV} (h : Has w A n 5 (progVals xs)) (hk : k ≤ n) (hc : n ≤ c) : Has w (if c = k then A else A.map fun x => x.add (k * 5)) (n - k) 5 (progVals (xs.drop k)) := by
  rw [← progVals_drop]; exact has_from h hk hc
theorem row_cap {w : World} {B e sz n c : Nat} {A : Option Addr} {xs : List Value} (h : w.ownsRow B e sz (.slice A n c) n xs) : n ≤ c := by
  rcases h.2 with ⟨hv, h0⟩ | ⟨g, cap, cur, hv, _, _, hc, _⟩
  · omega
  · injection hv with h1 h2 h3
    subst h3; exact hc

section
variable {w : World} {ops : Array Oper} {o : Oper} {a : Act} {K : Act → World → Prop} {Q : Exit → Act → World → Prop} {E : Prop}
/-- append(nil, x...): pages. -/
theorem step_copy_pages (hgd : o.guard = none) (s x : Operand) (ho : o.op = .call { callee := .builtin .append, args := #[s, x], argTypes := #[94, 94] })
    (hs : a.eval s = .slice none 0 0) (A : Option Addr) (m c : Nat) (pgs : List PgD) (hx : a.eval x = .slice A m c) (hr : Has w A m 3 (pgVals pgs)) (hm : m ≤ 1000)
    (h : ∀ A' c' w', w'.ownsRow w.heap.size 98 3 (.slice A' m c') m (pgVals pgs) → Below w.heap.size w w' → K (a.put o.dst (.slice A' m c')) w') :
    if Region.wanted o (yielded ops a.tmps) = true then Oper.wp Try.prog o a w K Q else E :=
  step_copy_has w hgd s x 94 ho w.heap.size 98 _ 3 24 info98 Try.underlying94 rfl (by decide) (.slice none 0 0) hs (World.ownsRow_nil _ _ _ _) A m c (pgVals pgs) hx hr (pgVals_one _) (by omega) (by omega) (Nat.le_refl _) h
/-- append(own, x...): pages. -/
theorem step_add_pages (hgd : o.guard = none) (s x : Operand) (ho : o.op = .call { callee := .builtin .append, args := #[s, x], argTypes := #[94, 94] })
    (base : Nat) (A : Option Addr) (n c : Nat) (pgs : List PgD) (hs : a.eval s = .slice A n c) (hown : w.ownsRow base 98 3 (.slice A n c) n (pgVals pgs))
    (A2 : Option Addr) (m c2 : Nat) (news : List PgD) (hx : a.eval x = .slice A2 m c2) (hr : Has w A2 m 3 (pgVals news)) (hn : n ≤ 1000) (hm : m ≤ 1000) (hbase : base ≤ w.heap.size)
    (h : ∀ A' c' w', w'.ownsRow base 98 3 (.slice A' (n + m) c') (n + m) (pgVals (pgs ++ news)) → w.grownBy w' (Value.slice A n c).ownBlock → Below base w w' → K (a.put o.dst (.slice A' (n + m) c')) w') :
    if Region.wanted o (yielded ops a.tmps) = true then Oper.wp Try.prog o a w K Q else E := by
  obtain ⟨i, hi, hz0, hz1, hz2⟩ := info_parts info98
  refine step_append_has w hgd s x 94 ho base 98 i _ 3 24 Try.underlying94 hi hz0 hz1 hz2 rfl (by decide) _ n (pgVals pgs) hs hown A2 m c2 (pgVals news) hx hr (pgVals_one _) (by unfold maxLen; omega) (by omega) hbase ?_
  intro v' w' h2 h3 _
  obtain ⟨A', c', rfl, -⟩ := own_form h2
  rw [← pgVals_append] at h2
  exact h A' c' w' h2 h3 ((Below.refl base w).grown h3 hbase fun k hk => (hown.lt k hk).1)
/-- append(nil, x...): programs. -/
theorem step_copy_progs (hgd : o.guard = none) (s x : Operand) (ho : o.op = .call { callee := .builtin .append, args := #[s, x], argTypes := #[41, 41] })
    (hs : a.eval s = .slice none 0 0) (A : Option Addr) (m c : Nat) (xs : List PrV) (hx : a.eval x = .slice A m c) (hr : Has w A m 5 (progVals xs)) (hm : m ≤ 1000)
    (h : ∀ A' c' w', w'.ownsRow w.heap.size 96 5 (.slice A' m c') m (progVals xs) → Below w.heap.size w w' → K (a.put o.dst (.slice A' m c')) w') :
    if Region.wanted o (yielded ops a.tmps) = true then Oper.wp Try.prog o a w K Q else E :=
  step_copy_has w hgd s x 41 ho w.heap.size 96 _ 5 64 info96 Try.underlying41 rfl (by decide) (.slice none 0 0) hs (World.ownsRow_nil _ _ _ _) A m c (progVals xs) hx hr (progVals_one _) (by omega) (by omega) (Nat.le_refl _) h
/-- append(own, x...): programs. -/
theorem step_add_progs (hgd : o.guard = none) (s x : Operand) (ho : o.op = .call { callee := .builtin .append, args := #[s, x], argTypes := #[41, 41] })
    (base : Nat) (A : Option Addr) (n c : Nat) (xs : List PrV) (hs : a.eval s = .slice A n c) (hown : w.ownsRow base 96 5 (.slice A n c) n (progVals xs))
    (A2 : Option Addr) (m c2 : Nat) (news : List PrV) (hx : a.eval x = .slice A2 m c2) (hr : Has w A2 m 5 (progVals news)) (hn : n ≤ 1000) (hm : m ≤ 1000) (hbase : base ≤ w.heap.size)
    (h : ∀ A' c' w', w'.ownsRow base 96 5 (.slice A' (n + m) c') (n + m) (progVals (xs ++ news)) → w.grownBy w' (Value.slice A n c).ownBlock → Below base w w' → K (a.put o.dst (.slice A' (n + m) c')) w') :
    if Region.wanted o (yielded ops a.tmps) = true then Oper.wp Try.prog o a w K Q else E := by
  obtain ⟨i, hi, hz0, hz1, hz2⟩ := info_parts info96
  refine step_append_has w hgd s x 41 ho base 96 i _ 5 64 Try.underlying41 hi hz0 hz1 hz2 rfl (by decide) _ n (progVals xs) hs hown A2 m c2 (progVals news) hx hr (progVals_one _) (by unfold maxLen; omega) (by omega) hbase ?_
  intro v' w' h2 h3 _
  obtain ⟨A', c', rfl, -⟩ := own_form h2
  rw [← progVals_append] at h2
  exact h A' c' w' h2 h3 ((Below.refl base w).grown h3 hbase fun k hk => (hown.lt k hk).1)
end
theorem pageP_cases (xs : List PgD) (q : Int) : (pageP xs q = -1 ∧ ∀ x ∈ xs, x.num ≠ q) ∨ ∃ i : Nat, pageP xs q = i := by
  unfold pageP
  cases h : xs.findIdx? (fun x => x.num == q) with
  | none =>
    left
    refine ⟨rfl, fun x hx => ?_⟩
    have := List.findIdx?_eq_none_iff.1 h x hx
    simpa using this
  | some i => exact .inr ⟨i, rfl⟩
end Go.Proofs.Ytjlmgjpnfppkoaa
