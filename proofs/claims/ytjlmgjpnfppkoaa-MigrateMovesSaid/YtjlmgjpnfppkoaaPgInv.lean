/-
  What holds of the programs that the dice make: plain lemmas, no program's function.
-/
import Derived.Test.YtjlmgjpnfppkoaaPg
namespace Go.Proofs.Ytjlmgjpnfppkoaa

def ProgOk (N : Int) (p : PrD) : Prop :=
  1 ≤ p.id ∧ p.id ≤ 999 ∧ p.told = [] ∧ p.pages.length ≤ 16 ∧ (p.dead = true → p.pages = []) ∧ (∀ x ∈ p.pages, 0 ≤ x.num ∧ x.num ≤ 999 ∧ 0 ≤ x.fr ∧ x.fr < N) ∧ p.pages.Pairwise (fun x y => x.num < y.num ∧ x.fr ≠ y.fr)
def PairOk (p q : PrD) : Prop := p.id < q.id ∧ ∀ x ∈ p.pages, ∀ y ∈ q.pages, x.fr = y.fr → x.sh = true ∧ y.sh = true
/-- The programs are valid for N frames. -/
def Inv (N : Int) (ps : List PrD) : Prop := ps.length ≤ 8 ∧ (∀ p ∈ ps, ProgOk N p) ∧ ps.Pairwise PairOk

theorem Inv.mono {N N' : Int} {ps : List PrD} (h : Inv N ps) (hN : N ≤ N') : Inv N' ps :=
  ⟨h.1, fun p hp => by
    obtain ⟨h1, h2, h3, h4, h5, h6, h7⟩ := h.2.1 p hp
    exact ⟨h1, h2, h3, h4, h5, fun x hx => by have := h6 x hx; omega, h7⟩, h.2.2⟩

theorem pairwise_set {α : Type} {R : α → α → Prop} {l : List α} {i : Nat} {x : α} (h : l.Pairwise R) (h1 : ∀ j (hj : j < l.length), j < i → R l[j] x) (h2 : ∀ j (hj : j < l.length), i < j → R x l[j]) : (l.set i x).Pairwise R := by
  rw [List.pairwise_iff_getElem] at h ⊢
  intro a b ha hb hab
  have ha' : a < l.length := by simpa using ha
  have hb' : b < l.length := by simpa using hb
  rw [List.getElem_set, List.getElem_set]
  by_cases e1 : i = a
  · subst e1
    rw [if_pos rfl, if_neg (by omega)]
    exact h2 b hb' hab
  · rw [if_neg e1]
    by_cases e2 : i = b
    · subst e2
      rw [if_pos rfl]
      exact h1 a ha' hab
    · rw [if_neg e2]
      exact h a b ha' hb' hab

theorem users_zero {ps : List PrD} {f : Int} (h : usersN ps f = 0) : ∀ p ∈ ps, ∀ x ∈ p.pages, x.fr ≠ f := by
  induction ps with
  | nil => intro p hp; simp at hp
  | cons q r ih =>
    simp only [usersN, List.map_cons, List.sum_cons] at h
    intro p hp x hx
    rcases List.mem_cons.1 hp with rfl | hp
    · have h0 : cntP p.pages f = 0 := by omega
      unfold cntP at h0
      rw [List.length_eq_zero_iff, List.filter_eq_nil_iff] at h0
      have := h0 x hx
      simpa using this
    · exact ih (by unfold usersN; omega) p hp x hx

/-- A page was added. -/
def MapStep (ps : List PrD) (q f : Int) (ps' : List PrD) : Prop :=
  ∃ (i k : Nat) (p : PrD), ps[i]? = some p ∧ p.dead = false ∧ 0 ≤ q ∧ q ≤ 999 ∧ 0 ≤ f ∧ (∀ x ∈ p.pages, x.num ≠ q) ∧ usersN ps f = 0 ∧ p.pages.length < 16 ∧ k ≤ p.pages.length ∧
    (∀ j, j < k → (p.pages.getD j PgD.zero).num < q) ∧ (k < p.pages.length → ¬ (p.pages.getD k PgD.zero).num < q) ∧
    ps' = ps.set i { p with pages := p.pages.take k ++ [⟨q, f, false⟩] ++ p.pages.drop k }
theorem MapStep.inv {N : Int} {ps ps' : List PrD} {q f : Int} (h : MapStep ps q f ps') (hI : Inv N ps) (hf : f < N) : Inv N ps' := by
  obtain ⟨i, k, p, hi, hd, q0, q9, f0, habs, hu, hlen, hk, hlo, hhi, rfl⟩ := h
  obtain ⟨hi', hpe⟩ := List.getElem?_eq_some_iff.1 hi
  have hp : p ∈ ps := by rw [← hpe]; exact List.getElem_mem hi'
  have hun := users_zero hu
  obtain ⟨g1, g2, g3, g4, g5, g6, g7⟩ := hI.2.1 p hp
  have hmem : ∀ x, x ∈ p.pages.take k ++ [(⟨q, f, false⟩ : PgD)] ++ p.pages.drop k → x ∈ p.pages ∨ x = ⟨q, f, false⟩ := by
    intro x hx
    simp only [List.mem_append, List.mem_singleton] at hx
    rcases hx with (hx | hx) | hx
    · exact .inl (List.mem_of_mem_take hx)
    · exact .inr hx
    · exact .inl (List.mem_of_mem_drop hx)
  refine ⟨by simpa using hI.1, ?_, ?_⟩
  · intro p' hp'
    rcases List.mem_or_eq_of_mem_set hp' with hp' | rfl
    · exact hI.2.1 p' hp'
    · refine ⟨g1, g2, g3, ?_, ?_, ?_, ?_⟩
      · simp only [List.length_append, List.length_take, List.length_drop, List.length_singleton]; omega
      · intro hdd; rw [hd] at hdd; cases hdd
      · intro x hx
        rcases hmem x hx with hx | rfl
        · exact g6 x hx
        · exact ⟨q0, q9, f0, hf⟩
      · have gl := List.pairwise_iff_getElem.1 g7
        refine List.pairwise_append.2 ⟨List.pairwise_append.2 ⟨g7.sublist (List.take_sublist _ _), List.pairwise_singleton _ _, ?_⟩, g7.sublist (List.drop_sublist _ _), ?_⟩
        · intro x hx y hy
          have : y = ⟨q, f, false⟩ := by simpa using hy
          subst this
          obtain ⟨j, hj, rfl⟩ := List.getElem_of_mem hx
          have hjk : j < k := by simp at hj; omega
          have hjl : j < p.pages.length := by omega
          have h1 := hlo j hjk
          rw [List.getElem_take]
          have e : p.pages.getD j PgD.zero = p.pages[j] := by simp [List.getD, List.getElem?_eq_getElem hjl]
          rw [e] at h1
          exact ⟨h1, hun p hp _ (List.getElem_mem hjl)⟩
        · intro x hx y hy
          obtain ⟨j, hj, rfl⟩ := List.getElem_of_mem hy
          have hjl : k + j < p.pages.length := by simp at hj; omega
          rw [List.getElem_drop]
          have hkl : k < p.pages.length := by omega
          have h2 := hhi hkl
          have e : p.pages.getD k PgD.zero = p.pages[k] := by simp [List.getD, List.getElem?_eq_getElem hkl]
          rw [e] at h2
          have h3 := habs _ (List.getElem_mem hkl)
          have h4 : p.pages[k].num ≤ p.pages[k + j].num := by
            rcases Nat.eq_zero_or_pos j with h0 | h0
            · subst h0; simp
            · have := (gl k (k + j) hkl hjl (by omega)).1; omega
          rcases List.mem_append.1 hx with hx | hx
          · obtain ⟨a, ha, rfl⟩ := List.getElem_of_mem hx
            have hak : a < k := by simp at ha; omega
            rw [List.getElem_take]
            exact gl a (k + j) (by omega) hjl (by omega)
          · have : x = ⟨q, f, false⟩ := by simpa using hx
            subst this
            exact ⟨by show q < _; omega, fun e => hun p hp _ (List.getElem_mem hjl) e.symm⟩
  · have gp := List.pairwise_iff_getElem.1 hI.2.2
    refine pairwise_set hI.2.2 ?_ ?_
    · intro j hj hji
      have hR := gp j i hj hi' hji
      rw [hpe] at hR
      refine ⟨hR.1, fun x hx y hy hxy => ?_⟩
      rcases hmem y hy with hy | rfl
      · exact hR.2 x hx y hy hxy
      · exact absurd hxy (hun _ (List.getElem_mem hj) x hx)
    · intro j hj hji
      have hR := gp i j hi' hj hji
      rw [hpe] at hR
      refine ⟨hR.1, fun x hx y hy hxy => ?_⟩
      rcases hmem x hx with hx | rfl
      · exact hR.2 x hx y hy hxy
      · exact absurd hxy.symm (hun _ (List.getElem_mem hj) y hy)

def shareP (p : PrD) : PrD := { p with pages := p.pages.map fun x => { x with sh := true } }
/-- A program was added with the pages of another one. -/
def ForkStep (ps : List PrD) (o : Int) (ps' : List PrD) : Prop :=
  ∃ (i k : Nat) (p : PrD) (te : Bool), ps[i]? = some p ∧ p.dead = false ∧ 1 ≤ o ∧ o ≤ 999 ∧ (∀ x ∈ ps, x.id ≠ o) ∧ ps.length < 8 ∧ k ≤ ps.length ∧ (∀ j, j < k → (ps.getD j PrD.zero).id < o) ∧ (k < ps.length → ¬ (ps.getD k PrD.zero).id < o) ∧
    ps' = (ps.set i (shareP p)).take k ++ [⟨o, te, false, (shareP p).pages, []⟩] ++ (ps.set i (shareP p)).drop k
theorem share_mem {p : PrD} {x : PgD} (h : x ∈ (shareP p).pages) : x.sh = true ∧ ∃ y ∈ p.pages, y.num = x.num ∧ y.fr = x.fr := by
  obtain ⟨y, hy, rfl⟩ := List.mem_map.1 h
  exact ⟨rfl, y, hy, rfl, rfl⟩
theorem share_ok {N : Int} {p : PrD} (h : ProgOk N p) : ProgOk N (shareP p) := by
  obtain ⟨g1, g2, g3, g4, g5, g6, g7⟩ := h
  refine ⟨g1, g2, g3, by simpa [shareP] using g4, fun hd => by rw [shareP, g5 hd]; rfl, fun x hx => ?_, ?_⟩
  · obtain ⟨_, y, hy, e1, e2⟩ := share_mem hx
    have := g6 y hy
    rw [← e1, ← e2]; exact this
  · exact List.pairwise_map.2 g7
theorem ForkStep.inv {N : Int} {ps ps' : List PrD} {o : Int} (h : ForkStep ps o ps') (hI : Inv N ps) : Inv N ps' := by
  obtain ⟨i, k, p, te, hi, hd, o1, o9, hno, hl8, hk, hlo, hhi, rfl⟩ := h
  obtain ⟨hi', hpe⟩ := List.getElem?_eq_some_iff.1 hi
  have hp : p ∈ ps := by rw [← hpe]; exact List.getElem_mem hi'
  have gp := List.pairwise_iff_getElem.1 hI.2.2
  have hok := hI.2.1 p hp
  have hid : ∀ j (hj : j < (ps.set i (shareP p)).length), (ps.set i (shareP p))[j].id = (ps[j]'(by simpa using hj)).id := by
    intro j hj
    rw [List.getElem_set]
    split
    · rename_i e; subst e; rw [hpe]; rfl
    · rfl
  have hpw : (ps.set i (shareP p)).Pairwise PairOk := by
    refine pairwise_set hI.2.2 ?_ ?_
    · intro j hj hji
      have hR := gp j i hj hi' hji
      rw [hpe] at hR
      refine ⟨hR.1, fun x hx y hy hxy => ?_⟩
      obtain ⟨hs, z, hz, e1, e2⟩ := share_mem hy
      exact ⟨(hR.2 x hx z hz (by rw [e2]; exact hxy)).1, hs⟩
    · intro j hj hji
      have hR := gp i j hi' hj hji
      rw [hpe] at hR
      refine ⟨hR.1, fun x hx y hy hxy => ?_⟩
      obtain ⟨hs, z, hz, e1, e2⟩ := share_mem hx
      exact ⟨hs, (hR.2 z hz y hy (by rw [e2]; exact hxy)).2⟩
  -- a program of the list beside the child
  have hch : ∀ r ∈ ps.set i (shareP p), ∀ x ∈ r.pages, ∀ y ∈ (shareP p).pages, x.fr = y.fr → x.sh = true ∧ y.sh = true := by
    intro r hr x hx y hy hxy
    obtain ⟨hs, z, hz, e1, e2⟩ := share_mem hy
    obtain ⟨j, hj, rfl⟩ := List.getElem_of_mem hr
    have hj' : j < ps.length := by simpa using hj
    rw [List.getElem_set] at hx
    split at hx
    · exact ⟨(share_mem hx).1, hs⟩
    · rename_i hne
      rcases Nat.lt_or_gt_of_ne hne with hlt | hgt
      · have hR := gp i j hi' hj' hlt
        rw [hpe] at hR
        exact ⟨(hR.2 z hz x hx (by rw [e2]; exact hxy.symm)).2, hs⟩
      · have hR := gp j i hj' hi' hgt
        rw [hpe] at hR
        exact ⟨(hR.2 x hx z hz (by rw [e2]; exact hxy)).1, hs⟩
  refine ⟨by simp only [List.length_append, List.length_take, List.length_drop, List.length_set, List.length_singleton]; omega, ?_, ?_⟩
  · intro r hr
    simp only [List.mem_append, List.mem_singleton] at hr
    have hset : ∀ r ∈ ps.set i (shareP p), ProgOk N r := by
      intro r hr
      rcases List.mem_or_eq_of_mem_set hr with hr | rfl
      · exact hI.2.1 r hr
      · exact share_ok hok
    rcases hr with (hr | rfl) | hr
    · exact hset r (List.mem_of_mem_take hr)
    · obtain ⟨g1, g2, g3, g4, g5, g6, g7⟩ := share_ok hok
      exact ⟨o1, o9, rfl, g4, fun hd => (by cases hd), g6, g7⟩
    · exact hset r (List.mem_of_mem_drop hr)
  · refine List.pairwise_append.2 ⟨List.pairwise_append.2 ⟨hpw.sublist (List.take_sublist _ _), List.pairwise_singleton _ _, ?_⟩, hpw.sublist (List.drop_sublist _ _), ?_⟩
    · intro r hr c hc
      have : c = ⟨o, te, false, (shareP p).pages, []⟩ := by simpa using hc
      subst this
      refine ⟨?_, hch r (List.mem_of_mem_take hr)⟩
      obtain ⟨j, hj, rfl⟩ := List.getElem_of_mem hr
      have hjk : j < k := by simp at hj; omega
      have hjl : j < ps.length := by simp at hj; omega
      rw [List.getElem_take, hid]
      have := hlo j hjk
      simpa [List.getD, List.getElem?_eq_getElem hjl] using this
    · intro r hr s hs
      obtain ⟨j, hj, rfl⟩ := List.getElem_of_mem hs
      have hjl : k + j < ps.length := by simp at hj; omega
      have hkl : k < ps.length := by omega
      rcases List.mem_append.1 hr with hr | hr
      · obtain ⟨a, ha, rfl⟩ := List.getElem_of_mem hr
        have hak : a < k := by simp at ha; omega
        rw [List.getElem_take, List.getElem_drop]
        exact (List.pairwise_iff_getElem.1 hpw) a (k + j) (by simp; omega) (by simpa using hjl) (by omega)
      · have : r = ⟨o, te, false, (shareP p).pages, []⟩ := by simpa using hr
        subst this
        refine ⟨?_, fun x hx y hy hxy => ?_⟩
        · show o < _
          rw [List.getElem_drop, hid]
          have h2 := hhi hkl
          have e : ps.getD k PrD.zero = ps[k] := by simp [List.getD, List.getElem?_eq_getElem hkl]
          rw [e] at h2
          have h3 := hno _ (List.getElem_mem hkl)
          have h4 : ps[k].id ≤ ps[k + j].id := by
            rcases Nat.eq_zero_or_pos j with h0 | h0
            · subst h0; simp
            · have := (gp k (k + j) hkl hjl (by omega)).1; omega
          omega
        · have := hch _ (List.mem_of_mem_drop (List.getElem_mem hj)) y hy x hx hxy.symm
          exact ⟨this.2, this.1⟩

/-- A program was ended. -/
def EndStep (ps ps' : List PrD) : Prop := ∃ (i : Nat) (p : PrD), ps[i]? = some p ∧ ps' = ps.set i { p with dead := true, pages := [] }
theorem EndStep.inv {N : Int} {ps ps' : List PrD} (h : EndStep ps ps') (hI : Inv N ps) : Inv N ps' := by
  obtain ⟨i, p, hi, rfl⟩ := h
  obtain ⟨hi', hpe⟩ := List.getElem?_eq_some_iff.1 hi
  have hp : p ∈ ps := by rw [← hpe]; exact List.getElem_mem hi'
  have gp := List.pairwise_iff_getElem.1 hI.2.2
  obtain ⟨g1, g2, g3, g4, g5, g6, g7⟩ := hI.2.1 p hp
  refine ⟨by simpa using hI.1, ?_, ?_⟩
  · intro r hr
    rcases List.mem_or_eq_of_mem_set hr with hr | rfl
    · exact hI.2.1 r hr
    · exact ⟨g1, g2, g3, by simp, fun _ => rfl, fun x hx => by simp at hx, List.Pairwise.nil⟩
  · refine pairwise_set hI.2.2 ?_ ?_
    · intro j hj hji
      have hR := gp j i hj hi' hji
      rw [hpe] at hR
      exact ⟨hR.1, fun x hx y hy => by simp at hy⟩
    · intro j hj hji
      have hR := gp i j hi' hj hji
      rw [hpe] at hR
      exact ⟨hR.1, fun x hx => by simp at hx⟩
end Go.Proofs.Ytjlmgjpnfppkoaa
