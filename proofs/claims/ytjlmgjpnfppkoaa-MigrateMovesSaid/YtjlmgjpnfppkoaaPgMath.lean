/-
  What a move of a frame does to programs and frames, as plain data. Plain lemmas, no program's function.
-/
import Derived.Test.YtjlmgjpnfppkoaaPgRepl
import Derived.Test.YtjlmgjpnfppkoaaPgInv
import Derived.Test.YtjlmgjpnfppkoaaShift
import Derived.Test.YtjlmgjpnfppkoaaFrGen
namespace Go.Proofs.Ytjlmgjpnfppkoaa

theorem cntP_none {xs : List PgD} {f : Int} (h : ∀ x ∈ xs, x.fr ≠ f) : cntP xs f = 0 := by
  unfold cntP
  rw [List.length_eq_zero_iff, List.filter_eq_nil_iff]
  intro x hx
  simpa using h x hx
theorem users_none {ps : List PrD} {f : Int} (h : ∀ p ∈ ps, ∀ x ∈ p.pages, x.fr ≠ f) : usersN ps f = 0 := by
  induction ps with
  | nil => rfl
  | cons q r ih =>
    have h1 := ih fun p hp => h p (List.mem_cons_of_mem _ hp)
    have h2 := cntP_none (h q (List.mem_cons_self ..))
    simp only [usersN, List.map_cons, List.sum_cons] at h1 ⊢
    omega
theorem repP_fr (a b : Int) (x : PgD) : (repP a b x).fr = if x.fr = a then b else x.fr := by
  unfold repP; split <;> rfl
theorem repP_num (a b : Int) (x : PgD) : (repP a b x).num = x.num := by unfold repP; split <;> rfl
theorem repP_sh (a b : Int) (x : PgD) : (repP a b x).sh = x.sh := by unfold repP; split <;> rfl
theorem cntP_rep {xs : List PgD} {a b : Int} (hb : ∀ x ∈ xs, x.fr ≠ b) : cntP (xs.map (repP a b)) b = cntP xs a := by
  induction xs with
  | nil => rfl
  | cons x r ih =>
    have h1 := ih fun p hp => hb p (List.mem_cons_of_mem _ hp)
    have h2 := hb x (List.mem_cons_self ..)
    simp only [cntP] at h1
    simp only [cntP, List.map_cons, List.filter_cons, repP_fr]
    by_cases e : x.fr = a
    · simp [e, h1]
    · simp [e, h1, h2]
theorem users_rep {ps : List PrD} {a b : Int} (hu : usersN ps b = 0) : usersN (ps.map (repD a b)) b = usersN ps a := by
  have hz := users_zero hu
  clear hu
  induction ps with
  | nil => rfl
  | cons q r ih =>
    have h1 := ih fun p hp => hz p (List.mem_cons_of_mem _ hp)
    have h2 := cntP_rep (a := a) (hz q (List.mem_cons_self ..))
    simp only [usersN, List.map_cons, List.sum_cons, List.map_map] at h1 ⊢
    simp only [repD] at h1 ⊢
    rw [h2, h1]
theorem users_gone {ps : List PrD} {a b : Int} (hab : a ≠ b) : usersN (ps.map (repD a b)) a = 0 := by
  refine users_none fun p hp x hx => ?_
  obtain ⟨q, _, rfl⟩ := List.mem_map.1 hp
  obtain ⟨y, _, rfl⟩ := List.mem_map.1 hx
  rw [repP_fr]
  split
  · exact fun e => hab e.symm
  · assumption
theorem repP_back {a b : Int} {x : PgD} (h : x.fr ≠ b) : repP b a (repP a b x) = x := by
  unfold repP
  by_cases e : x.fr = a
  · subst e; simp
  · simp [e, h]
theorem rep_back {ps : List PrD} {a b : Int} (hu : usersN ps b = 0) : (ps.map (repD a b)).map (repD b a) = ps := by
  have hz := users_zero hu
  rw [List.map_map]
  refine (List.map_congr_left fun p hp => ?_).trans (List.map_id _)
  show repD b a (repD a b p) = p
  simp only [repD, List.map_map]
  have : p.pages.map (repP b a ∘ repP a b) = p.pages := (List.map_congr_left fun x hx => repP_back (hz p hp x hx)).trans (List.map_id _)
  rw [this]
theorem rep_ok {N a b : Int} {p : PrD} (h : ProgOk N p) (hu : ∀ x ∈ p.pages, x.fr ≠ b) (b0 : 0 ≤ b) (bN : b < N) : ProgOk N (repD a b p) := by
  obtain ⟨g1, g2, g3, g4, g5, g6, g7⟩ := h
  refine ⟨g1, g2, g3, by simpa [repD] using g4, fun hd => by simp [repD, g5 hd], fun x hx => ?_, ?_⟩
  · obtain ⟨y, hy, rfl⟩ := List.mem_map.1 hx
    have := g6 y hy
    rw [repP_num, repP_fr]
    split <;> omega
  · refine List.pairwise_map.2 (List.Pairwise.imp_of_mem ?_ g7)
    rintro x y hx hy ⟨h1, h2⟩
    refine ⟨by rw [repP_num, repP_num]; exact h1, ?_⟩
    rw [repP_fr, repP_fr]
    have := hu x hx
    have := hu y hy
    split <;> split <;> omega
theorem Inv.rep {N a b : Int} {ps : List PrD} (h : Inv N ps) (hu : usersN ps b = 0) (b0 : 0 ≤ b) (bN : b < N) : Inv N (ps.map (repD a b)) := by
  have hz := users_zero hu
  refine ⟨by simpa using h.1, fun p hp => ?_, ?_⟩
  · obtain ⟨q, hq, rfl⟩ := List.mem_map.1 hp
    exact rep_ok (h.2.1 q hq) (hz q hq) b0 bN
  · refine List.pairwise_map.2 (List.Pairwise.imp_of_mem ?_ h.2.2)
    rintro p q hp hq ⟨h1, h2⟩
    refine ⟨h1, fun x hx y hy hxy => ?_⟩
    obtain ⟨x', hx', rfl⟩ := List.mem_map.1 hx
    obtain ⟨y', hy', rfl⟩ := List.mem_map.1 hy
    rw [repP_sh, repP_sh]
    rw [repP_fr, repP_fr] at hxy
    have := hz p hp x' hx'
    have := hz q hq y' hy'
    refine h2 x' hx' y' hy' ?_
    split at hxy <;> split at hxy <;> omega
theorem replE_ok {ps : List PrD} {a b : Int} (ha : 0 ≤ a ∧ a < 64) (hb : 0 ≤ b ∧ b < 64) (hu : usersN ps b = 0) : replE ps a b = 0 := by
  unfold replE
  rw [if_pos ⟨ha.1, ha.2, hb.1, hb.2⟩, if_neg (fun h => h.2 hu)]
theorem replL_ok {ps : List PrD} {a b : Int} (h : replE ps a b = 0) : replL ps a b = ps.map (repD a b) := by
  unfold replL
  rw [if_pos h]

theorem shift_back {fs : List FrD} {a b : Nat} (ha : a < fs.length) (hb : b < fs.length) (hab : a ≠ b) (h0 : fs.getD b FrD.zero = ⟨0, 0⟩) : shiftL (shiftL fs a b) b a = fs := by
  have h1 : (shiftL fs a b).getD b FrD.zero = fs.getD a FrD.zero := by
    simp [shiftL, List.getD, hab, hb]
  unfold shiftL at h1
  simp only [shiftL, h1]
  refine List.ext_getElem? fun k => ?_
  simp only [List.getElem?_set]
  by_cases e1 : b = k
  · subst e1
    simp [hb]
    simpa [List.getD, List.getElem?_eq_getElem hb] using h0.symm
  · by_cases e2 : a = k
    · subst e2
      simp [ha, e1, List.getD]
    · simp [e1, e2]
theorem shift_len (fs : List FrD) (a b : Nat) : (shiftL fs a b).length = fs.length := by simp [shiftL]
theorem shift_valid {fs : List FrD} {a b : Nat} (h : validF fs = true) (ha : a < fs.length) : validF (shiftL fs a b) = true := by
  obtain ⟨h1, h2, h3⟩ := validF_get h
  refine validF_of ?_ (by rw [shift_len]; exact h2) (by rw [shift_len]; exact h3)
  intro f hf
  rcases List.mem_or_eq_of_mem_set hf with hf | rfl
  · rcases List.mem_or_eq_of_mem_set hf with hf | rfl
    · exact h1 f hf
    · refine h1 _ ?_
      simp only [List.getD, List.getElem?_eq_getElem ha]
      exact List.getElem_mem ha
  · decide
theorem shift_at_b {fs : List FrD} {a b : Nat} (hb : b < fs.length) (hab : a ≠ b) : (shiftL fs a b).getD b FrD.zero = fs.getD a FrD.zero := by
  simp [shiftL, List.getD, hab, hb]
theorem shift_at_a {fs : List FrD} {a b : Nat} (ha : a < fs.length) : (shiftL fs a b).getD a FrD.zero = ⟨0, 0⟩ := by
  simp [shiftL, List.getD, ha]
theorem free_zero {fs : List FrD} (h : validF fs = true) {b : Nat} (hb : b < fs.length) (h0 : (fs.getD b FrD.zero).st = 0) : fs.getD b FrD.zero = ⟨0, 0⟩ := by
  have hm : fs.getD b FrD.zero ∈ fs := by
    simp only [List.getD, List.getElem?_eq_getElem hb]
    exact List.getElem_mem hb
  have hf := (validF_get h).1 _ hm
  obtain ⟨⟨s, c⟩, e⟩ : ∃ f, fs.getD b FrD.zero = f := ⟨_, rfl⟩
  rw [e] at hf h0 ⊢
  dsimp only at h0 hf
  subst h0
  simp [fitB] at hf
  simp [hf]
end Go.Proofs.Ytjlmgjpnfppkoaa
