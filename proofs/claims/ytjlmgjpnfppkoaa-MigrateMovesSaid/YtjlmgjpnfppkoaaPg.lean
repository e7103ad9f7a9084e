/-
  Programs and their pages as plain data, and as they lie in memory. Plain lemmas, no program's function.
-/
import Derived.Test.YtjlmgjpnfppkoaaFr
import Derived.Test.YtjlmgjpnfppkoaaDice
namespace Go.Proofs.Ytjlmgjpnfppkoaa
open Go.RowKit

structure PgD where
  num : Int
  fr : Int
  sh : Bool
  deriving DecidableEq
def PgD.zero : PgD := ⟨0, 0, false⟩
def pgVals : List PgD → List Value
  | [] => []
  | x :: r => .int .i64 x.num :: .int .i64 x.fr :: .bool x.sh :: pgVals r
theorem pgVals_len (xs : List PgD) : (pgVals xs).length = xs.length * 3 := by
  induction xs with
  | nil => rfl
  | cons x r ih => simp [pgVals, ih]; omega
theorem pgVals_append (a b : List PgD) : pgVals (a ++ b) = pgVals a ++ pgVals b := by
  induction a with
  | nil => rfl
  | cons x r ih => simp [pgVals, ih]
theorem pgVals_one (xs : List PgD) : ∀ u ∈ pgVals xs, u.oneCell' = true := by
  induction xs with
  | nil => intro u hu; simp [pgVals] at hu
  | cons f r ih =>
    intro u hu
    simp only [pgVals, List.mem_cons] at hu
    rcases hu with rfl | rfl | rfl | hu
    · rfl
    · rfl
    · rfl
    · exact ih u hu
theorem pgVals_get (xs : List PgD) : ∀ (k : Nat), k < xs.length →
    (pgVals xs)[k * 3]? = some (.int .i64 (xs.getD k PgD.zero).num) ∧ (pgVals xs)[k * 3 + 1]? = some (.int .i64 (xs.getD k PgD.zero).fr) ∧ (pgVals xs)[k * 3 + 2]? = some (.bool (xs.getD k PgD.zero).sh) := by
  induction xs with
  | nil => intro k h; simp at h
  | cons x r ih =>
    intro k h
    cases k with
    | zero => exact ⟨by simp [pgVals], by simp [pgVals], by simp [pgVals]⟩
    | succ k =>
      have := ih k (by simpa using h)
      have e : (k + 1) * 3 = k * 3 + 3 := by omega
      rw [e]
      simpa [pgVals] using this
theorem pgVals_set (xs : List PgD) : ∀ (k : Nat) (x : PgD), (((pgVals xs).set (k * 3) (.int .i64 x.num)).set (k * 3 + 1) (.int .i64 x.fr)).set (k * 3 + 2) (.bool x.sh) = pgVals (xs.set k x) := by
  induction xs with
  | nil => intro k x; simp [pgVals]
  | cons y r ih =>
    intro k x
    cases k with
    | zero => simp [pgVals]
    | succ k =>
      have e : (k + 1) * 3 = k * 3 + 3 := by omega
      rw [e]
      simp only [pgVals, List.set_cons_succ]
      rw [ih]
theorem Has.pages {w : World} {A : Option Addr} {n : Nat} {xs : List PgD} (h : Has w A n 3 (pgVals xs)) : xs.length = n := by
  have := h.1; rw [pgVals_len] at this; omega
theorem Has.page_at {w : World} {A : Option Addr} {n k : Nat} {xs : List PgD} (h : Has w A n 3 (pgVals xs)) (hk : k < n) :
    ∃ b off, A = some ⟨b, off, none⟩ ∧ b < w.heap.size ∧ w.cell? ⟨b, off + k * 3, none⟩ = some (.int .i64 (xs.getD k PgD.zero).num) ∧ w.cell? ⟨b, off + k * 3 + 1, none⟩ = some (.int .i64 (xs.getD k PgD.zero).fr) ∧ w.cell? ⟨b, off + k * 3 + 2, none⟩ = some (.bool (xs.getD k PgD.zero).sh) := by
  obtain ⟨b, off, e, hb, hc⟩ := h.2 (by omega)
  have hl : k < xs.length := by rw [h.pages]; exact hk
  obtain ⟨h0, h1, h2⟩ := pgVals_get xs k hl
  refine ⟨b, off, e, hb, hc _ _ h0, ?_, ?_⟩
  · have := hc _ _ h1; rwa [← Nat.add_assoc] at this
  · have := hc _ _ h2; rwa [← Nat.add_assoc] at this

structure PrD where
  id : Int
  tells : Bool
  dead : Bool
  pages : List PgD
  told : List Int
  deriving DecidableEq
def PrD.zero : PrD := ⟨0, false, false, [], []⟩
/-- A program as it stands in a list: what it is, and where its pages and its numbers lie. -/
structure PrV where
  P : PrD
  A : Option Addr
  c : Nat
  TA : Option Addr
  Tc : Nat
def PrV.zero : PrV := ⟨PrD.zero, none, 0, none, 0⟩
def numVals (zs : List Int) : List Value := zs.map (Value.int .i64)
theorem numVals_one (zs : List Int) : ∀ u ∈ numVals zs, u.oneCell' = true := by
  intro u hu
  obtain ⟨z, _, rfl⟩ := List.mem_map.1 hu
  rfl
def progVals : List PrV → List Value
  | [] => []
  | x :: r => .int .i64 x.P.id :: .bool x.P.tells :: .bool x.P.dead :: .slice x.A x.P.pages.length x.c :: .slice x.TA x.P.told.length x.Tc :: progVals r
theorem progVals_len (xs : List PrV) : (progVals xs).length = xs.length * 5 := by
  induction xs with
  | nil => rfl
  | cons x r ih => simp [progVals, ih]; omega
theorem progVals_append (a b : List PrV) : progVals (a ++ b) = progVals a ++ progVals b := by
  induction a with
  | nil => rfl
  | cons x r ih => simp [progVals, ih]
theorem progVals_one (xs : List PrV) : ∀ u ∈ progVals xs, u.oneCell' = true := by
  induction xs with
  | nil => intro u hu; simp [progVals] at hu
  | cons f r ih =>
    intro u hu
    simp only [progVals, List.mem_cons] at hu
    rcases hu with rfl | rfl | rfl | rfl | rfl | hu
    · rfl
    · rfl
    · rfl
    · rfl
    · rfl
    · exact ih u hu
theorem progVals_get (xs : List PrV) : ∀ (k : Nat), k < xs.length →
    (progVals xs)[k * 5]? = some (.int .i64 (xs.getD k PrV.zero).P.id) ∧ (progVals xs)[k * 5 + 1]? = some (.bool (xs.getD k PrV.zero).P.tells) ∧ (progVals xs)[k * 5 + 2]? = some (.bool (xs.getD k PrV.zero).P.dead) ∧
    (progVals xs)[k * 5 + 3]? = some (.slice (xs.getD k PrV.zero).A (xs.getD k PrV.zero).P.pages.length (xs.getD k PrV.zero).c) ∧ (progVals xs)[k * 5 + 4]? = some (.slice (xs.getD k PrV.zero).TA (xs.getD k PrV.zero).P.told.length (xs.getD k PrV.zero).Tc) := by
  induction xs with
  | nil => intro k h; simp at h
  | cons x r ih =>
    intro k h
    cases k with
    | zero => exact ⟨by simp [progVals], by simp [progVals], by simp [progVals], by simp [progVals], by simp [progVals]⟩
    | succ k =>
      have := ih k (by simpa using h)
      have e : (k + 1) * 5 = k * 5 + 5 := by omega
      rw [e]
      simpa [progVals] using this
theorem getD_mem {α : Type} (xs : List α) (z : α) {k : Nat} (hk : k < xs.length) : xs.getD k z ∈ xs := by
  have e : xs.getD k z = xs[k] := by simp [List.getD, List.getElem?_eq_getElem hk]
  rw [e]
  exact List.getElem_mem hk

/-- The slice reads as these programs, and their pages and numbers read where they lie. -/
def IsProgs (w : World) (A : Option Addr) (n : Nat) (xs : List PrV) : Prop :=
  Has w A n 5 (progVals xs) ∧ ∀ x ∈ xs, Has w x.A x.P.pages.length 3 (pgVals x.P.pages) ∧ Has w x.TA x.P.told.length 1 (numVals x.P.told)
theorem IsProgs.len {w : World} {A : Option Addr} {n : Nat} {xs : List PrV} (h : IsProgs w A n xs) : xs.length = n := by
  have := h.1.1; rw [progVals_len] at this; omega
theorem IsProgs.below {w w' : World} {A : Option Addr} {n : Nat} {xs : List PrV} (h : IsProgs w A n xs) (hb : Below w.heap.size w w') : IsProgs w' A n xs :=
  ⟨h.1.below hb, fun x hx => ⟨(h.2 x hx).1.below hb, (h.2 x hx).2.below hb⟩⟩
theorem IsProgs.alloc {w : World} {A : Option Addr} {n : Nat} {xs : List PrV} (h : IsProgs w A n xs) (o : Obj) : IsProgs (w.alloc o) A n xs := h.below ((Below.refl _ _).alloc (Nat.le_refl _) o)
theorem IsProgs.drew {w : World} {A : Option Addr} {n : Nat} {xs : List PrV} (h : IsProgs w A n xs) : IsProgs w.drew A n xs := h
theorem IsProgs.at_ {w : World} {A : Option Addr} {n k : Nat} {xs : List PrV} (h : IsProgs w A n xs) (hk : k < n) :
    ∃ b off, A = some ⟨b, off, none⟩ ∧ b < w.heap.size ∧
      w.cell? ⟨b, off + k * 5, none⟩ = some (.int .i64 (xs.getD k PrV.zero).P.id) ∧ w.cell? ⟨b, off + k * 5 + 1, none⟩ = some (.bool (xs.getD k PrV.zero).P.tells) ∧ w.cell? ⟨b, off + k * 5 + 2, none⟩ = some (.bool (xs.getD k PrV.zero).P.dead) ∧
      w.cell? ⟨b, off + k * 5 + 3, none⟩ = some (.slice (xs.getD k PrV.zero).A (xs.getD k PrV.zero).P.pages.length (xs.getD k PrV.zero).c) ∧ w.cell? ⟨b, off + k * 5 + 4, none⟩ = some (.slice (xs.getD k PrV.zero).TA (xs.getD k PrV.zero).P.told.length (xs.getD k PrV.zero).Tc) ∧
      Has w (xs.getD k PrV.zero).A (xs.getD k PrV.zero).P.pages.length 3 (pgVals (xs.getD k PrV.zero).P.pages) ∧ Has w (xs.getD k PrV.zero).TA (xs.getD k PrV.zero).P.told.length 1 (numVals (xs.getD k PrV.zero).P.told) := by
  obtain ⟨b, off, e, hb, hc⟩ := h.1.2 (by omega)
  have hl : k < xs.length := by rw [h.len]; exact hk
  obtain ⟨h0, h1, h2, h3, h4⟩ := progVals_get xs k hl
  have hm := h.2 _ (getD_mem xs PrV.zero hl)
  refine ⟨b, off, e, hb, hc _ _ h0, ?_, ?_, ?_, ?_, hm.1, hm.2⟩
  · have := hc _ _ h1; rwa [← Nat.add_assoc] at this
  · have := hc _ _ h2; rwa [← Nat.add_assoc] at this
  · have := hc _ _ h3; rwa [← Nat.add_assoc] at this
  · have := hc _ _ h4; rwa [← Nat.add_assoc] at this

/-- New programs: the row, and each program's pages and numbers, are the call's own, from block B on. -/
def OwnProgs (w : World) (B : Nat) (v : Value) (xs : List PrV) : Prop :=
  (∃ A c, v = .slice A xs.length c) ∧ w.ownsRow B 96 5 v xs.length (progVals xs) ∧
  ∀ x ∈ xs, w.ownsRow B 98 3 (.slice x.A x.P.pages.length x.c) x.P.pages.length (pgVals x.P.pages) ∧ w.ownsRow B 3 1 (.slice x.TA x.P.told.length x.Tc) x.P.told.length (numVals x.P.told)
section
variable {w w' : World} {B B' g : Nat} {v : Value} {xs : List PrV}
theorem OwnProgs.nil_ (w : World) (B : Nat) : OwnProgs w B (.slice none 0 0) [] := ⟨⟨none, 0, rfl⟩, World.ownsRow_nil _ _ _ _, fun x hx => by simp at hx⟩
theorem OwnProgs.is {A : Option Addr} {n c : Nat} (h : OwnProgs w B (.slice A n c) xs) (hn : xs.length = n) : IsProgs w A n xs := by
  subst hn
  exact ⟨Has.of_own h.2.1, fun x hx => ⟨Has.of_own (h.2.2 x hx).1, Has.of_own (h.2.2 x hx).2⟩⟩
theorem OwnProgs.below (h : OwnProgs w B v xs) (hb : Below w.heap.size w w') : OwnProgs w' B v xs :=
  ⟨h.1, ownsRow_below h.2.1 hb, fun x hx => ⟨ownsRow_below (h.2.2 x hx).1 hb, ownsRow_below (h.2.2 x hx).2 hb⟩⟩
theorem OwnProgs.but (h : OwnProgs w B v xs) (hb : But g w.heap.size w w') (hg : g < B) : OwnProgs w' B v xs :=
  ⟨h.1, row_but h.2.1 hb hg, fun x hx => ⟨row_but (h.2.2 x hx).1 hb hg, row_but (h.2.2 x hx).2 hb hg⟩⟩
theorem OwnProgs.base (h : OwnProgs w B v xs) (hB : B' ≤ B) : OwnProgs w B' v xs :=
  ⟨h.1, ownsRow_base h.2.1 hB, fun x hx => ⟨ownsRow_base (h.2.2 x hx).1 hB, ownsRow_base (h.2.2 x hx).2 hB⟩⟩
theorem OwnProgs.alloc (h : OwnProgs w B v xs) (o : Obj) : OwnProgs (w.alloc o) B v xs := h.below ((Below.refl _ _).alloc (Nat.le_refl _) o)
end

/-! ### a block known whole -/
theorem cell_of_heap {w : World} {g : Nat} {cs : Array Value} {t : TypeId} (h : w.heap[g]? = some (.cells cs t)) {i : Nat} {u : Value} (hu : cs[i]? = some u) : w.cell? ⟨g, i, none⟩ = some u := by
  unfold World.cell?
  simp [h, hu]
theorem heap_below {w w' : World} {B g : Nat} {o : Obj} (h : w.heap[g]? = some o) (hb : Below B w w') (hg : g < B) : w'.heap[g]? = some o := (hb.block g hg).trans h
theorem heap_grown {w w' : World} {row : Option Nat} {g : Nat} {o : Obj} (h : w.heap[g]? = some o) (hb : w.grownBy w' row) (hne : some g ≠ row) : w'.heap[g]? = some o := by
  have hlt : g < w.heap.size := (Array.getElem?_eq_some_iff.1 h).1
  exact (hb.block g hlt hne).trans h
theorem row_ne_box {w : World} {B e sz n g : Nat} {v : Value} {xs : List Value} {cs : Array Value} {t : TypeId} (h : w.ownsRow B e sz v n xs) (hb : w.heap[g]? = some (.cells cs t)) (hne : e ≠ t) : v.ownBlock ≠ some g := by
  rcases h.2 with ⟨hv, _⟩ | ⟨k, cap, cur, hv, _, hh, _⟩
  · rw [hv]; simp [Value.ownBlock]
  · rw [hv]
    simp only [Value.ownBlock, ne_eq, Option.some.injEq]
    intro hk
    subst hk
    rw [hb] at hh
    injection hh with hh
    injection hh with _ hh
    exact hne hh.symm
theorem heap_new (w : World) (o : Obj) : (w.alloc o).heap[w.heap.size]? = some o := by
  show (w.heap.push o)[w.heap.size]? = _
  simp

/-! ### how many uses a frame has -/
def cntP (xs : List PgD) (f : Int) : Nat := (xs.filter fun x => x.fr == f).length
def usersN (ps : List PrD) (f : Int) : Nat := (ps.map fun p => cntP p.pages f).sum
theorem cntP_le (xs : List PgD) (f : Int) : cntP xs f ≤ xs.length := List.length_filter_le _ _
theorem cntP_take {xs : List PgD} {k : Nat} (hk : k < xs.length) (f : Int) : cntP (xs.take (k + 1)) f = cntP (xs.take k) f + (if (xs.getD k PgD.zero).fr = f then 1 else 0) := by
  rw [List.take_add_one, List.getElem?_eq_getElem hk, List.getD, List.getElem?_eq_getElem hk, cntP, List.filter_append, List.length_append]
  by_cases h : (xs[k]).fr = f <;> simp [cntP, h]
theorem usersN_take {ps : List PrD} {k : Nat} (hk : k < ps.length) (f : Int) : usersN (ps.take (k + 1)) f = usersN (ps.take k) f + cntP (ps.getD k PrD.zero).pages f := by
  rw [List.take_add_one, List.getElem?_eq_getElem hk, List.getD, List.getElem?_eq_getElem hk, usersN, List.map_append, List.sum_append]
  simp [usersN]
theorem usersN_le {ps : List PrD} {f : Int} {M : Nat} (h : ∀ p ∈ ps, p.pages.length ≤ M) : usersN ps f ≤ ps.length * M := by
  induction ps with
  | nil => simp [usersN]
  | cons p r ih =>
    have h1 := ih (fun x hx => h x (List.mem_cons_of_mem _ hx))
    have h2 := h p (List.mem_cons_self ..)
    have h3 := cntP_le p.pages f
    simp only [usersN, List.map_cons, List.sum_cons, List.length_cons] at *
    rw [Nat.add_mul]
    omega
end Go.Proofs.Ytjlmgjpnfppkoaa
