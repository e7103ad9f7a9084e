/-
  Programs, walked: valid programs are found valid (the given code).
-/
import Derived.LoopTactic
import Derived.IntWalk
import Derived.Test.YtjlmgjpnfppkoaaPVal
import Derived.Test.YtjlmgjpnfppkoaaPgAid
namespace Go.Proofs.Ytjlmgjpnfppkoaa
open Go.RowKit
attribute [local go_sem ↓] Go.wp_at_zero Go.wp_at_succ

set_option maxHeartbeats 400000 in
theorem unshared_any (nu fr : Int) (w : World) : Calls Try.prog 94 #[.agg #[.int .i64 nu, .int .i64 fr, .bool true]] w fun e w' => e = .returned (.bool false) ∧ Below w.heap.size w w' := by
  go_enter Try.func94, Try.ntmps94
  go_wp2
  go_ret
  exact ⟨rfl, by (repeat' (first | (with_reducible exact Below.refl _ _) | (with_reducible assumption) | (with_reducible refine Below.alloc ?_ ?_ _) | (with_reducible refine Below.drew ?_) | (with_reducible refine below_drewN ?_ _) | (with_reducible refine Below.setCell ?_ ?_ _) | (with_reducible exact Nat.le_refl _) | omega | (simp <;> omega)))⟩
theorem callf94 (nu fr : Int) (w : World) : (callFunc 94 #[.agg #[.int .i64 nu, .int .i64 fr, .bool true]]).run Try.prog w = .ok (.enter 94 #[.agg #[.int .i64 nu, .int .i64 fr, .bool true]]) w := by kernel_rfl
set_option maxRecDepth 100000 in
set_option maxHeartbeats 2000000 in
theorem pindex_none (A : Option Addr) (n c : Nat) (pgs : List PgD) (w : World) (h : Has w A n 3 (pgVals pgs)) (hsh : ∀ x ∈ pgs, x.sh = true) (hn : n ≤ 1048576) :
    Calls Try.prog 102 #[.slice A n c, .func (.func 94) #[] #[]] w fun e w' => e = .returned (.int .i64 (-1)) ∧ Below w.heap.size w w' := by
  have Hh := Lib.hid h
  have Hl := Lib.hid h.pages
  have Hs := Lib.hid hsh
  clear h hsh
  go_enter Try.func102, Try.ntmps102
  go_wp2_with fail
  go_loopw [8] (fun i wr => ∃ k : Nat, k ≤ n ∧ i = .int .i64 k ∧ Below w.heap.size w wr) (fun i _ => n - (intOf i).toNat)
  case atStart => exact ⟨0, by omega, rfl, Below.refl _ _⟩
  case round =>
    obtain ⟨k, hk, rfl, hB⟩ := hrel
    by_cases hlt : k < n
    · obtain ⟨b, off, rfl, hbl, c0, c1, c2⟩ := Hh.out.page_at hlt
      have hm := Hs.out (pgs.getD k PgD.zero) (by
        have hl : k < pgs.length := by rw [Hl.out]; exact hlt
        simp only [List.getD, List.getElem?_eq_getElem hl]
        exact List.getElem_mem hl)
      rw [hm] at c2
      have d0 := cellK hB hbl c0
      have d1 := cellK hB hbl c1
      have d2 := cellK hB hbl c2
      obtain ⟨⟨nu, fr, sh⟩, hf⟩ : ∃ f, pgs.getD k PgD.zero = f := ⟨_, rfl⟩
      rw [hf] at d0 d1
      dsimp only at d0 d1
      have hlt' : (k : Int) < (n : Int) := by omega
      have hcf' := callf94 nu fr
      clear c0 c1 c2 hf hm
      go_wp2_with fail
      refine (unshared_any nu fr _).mono ?_
      rintro e w1 ⟨rfl, hb1⟩
      have hB1 := hB.trans (hb1.mono hB.size)
      clear hb1 hB
      go_wp2_with fail
      go_roundw
      case rel => exact ⟨k + 1, by omega, by go_num, hB1⟩
      case measure => simp [intOf]; omega
    · have hge : n ≤ k := by omega
      clear hlt
      go_wp2_with fail
      go_ret
      exact ⟨rfl, hB⟩
set_option maxHeartbeats 2000000 in
theorem pcontains_no (A : Option Addr) (n c : Nat) (pgs : List PgD) (w : World) (h : Has w A n 3 (pgVals pgs)) (hsh : ∀ x ∈ pgs, x.sh = true) (hn : n ≤ 1048576) :
    Calls Try.prog 93 #[.slice A n c, .func (.func 94) #[] #[]] w fun e w' => e = .returned (.bool false) ∧ Below w.heap.size w w' := by
  have Hh := Lib.hid h
  have Hs := Lib.hid hsh
  clear h hsh
  go_enter Try.func93, Try.ntmps93
  go_wp2_with fail
  refine (pindex_none A n c pgs _ Hh.out Hs.out hn).mono ?_
  rintro e w1 ⟨rfl, hb1⟩
  go_wp2_with fail
  go_ret
  exact ⟨rfl, hb1⟩

/-- The pages before page q of program k. -/
def flatN (ps : List PrD) (k q : Nat) : List PgD := (ps.take k).flatMap PrD.pages ++ (ps.getD k PrD.zero).pages.take q
theorem flat_zero (ps : List PrD) : flatN ps 0 0 = [] := by simp [flatN]
theorem flat_page {ps : List PrD} {k q : Nat} (hq : q < (ps.getD k PrD.zero).pages.length) : flatN ps k (q + 1) = flatN ps k q ++ [(ps.getD k PrD.zero).pages.getD q PgD.zero] := by
  simp only [flatN]
  rw [List.take_add_one, List.getElem?_eq_getElem hq, ← List.append_assoc]
  congr 1
  have : ∀ (l : List PgD) (h : q < l.length), (some l[q]).toList = [l.getD q PgD.zero] := fun l h => by simp [List.getD, List.getElem?_eq_getElem h]
  exact this _ hq
theorem flat_prog {ps : List PrD} {k : Nat} (hk : k < ps.length) : flatN ps (k + 1) 0 = flatN ps k (ps.getD k PrD.zero).pages.length := by
  simp only [flatN]
  have e : ps.getD k PrD.zero = ps[k] := by simp [List.getD, List.getElem?_eq_getElem hk]
  rw [e, List.take_length, List.take_zero, List.append_nil, List.take_add_one, List.getElem?_eq_getElem hk, List.flatMap_append]
  simp
def ShR (x y : PgD) : Prop := x.fr = y.fr → x.sh = true ∧ y.sh = true
theorem flat_pair {N : Int} {ps : List PrD} (h : Inv N ps) : (ps.flatMap PrD.pages).Pairwise ShR := by
  refine List.pairwise_flatMap.2 ⟨fun p hp => ?_, h.2.2.imp ?_⟩
  · exact (h.2.1 p hp).2.2.2.2.2.2.imp fun hxy e => absurd e hxy.2
  · intro p q hpq x hx y hy e
    exact hpq.2 x hx y hy e
theorem pair_all {zs : List PgD} {f : Int} (hp : zs.Pairwise ShR) (hf : ∀ z ∈ zs, z.fr = f) (hl : 1 < zs.length) : ∀ z ∈ zs, z.sh = true := by
  intro z hz
  obtain ⟨i, hi, rfl⟩ := List.getElem_of_mem hz
  have hpp := List.pairwise_iff_getElem.1 hp
  by_cases h0 : i = 0
  · subst h0
    have := hpp 0 1 hi hl (by omega)
    exact (this (by rw [hf _ (List.getElem_mem hi), hf _ (List.getElem_mem hl)])).1
  · have := hpp 0 i (by omega) hi (by omega)
    exact (this (by rw [hf _ (List.getElem_mem _), hf _ (List.getElem_mem hi)])).2

/-- What stands at frame f: its pages so far, in a row of the call's own. -/
def Grp (w : World) (B : Nat) (ps : List PrD) (k q : Nat) (f : Int) (v : Value) : Prop :=
  ∃ A c zs, v = .slice A zs.length c ∧ w.ownsRow B 98 3 v zs.length (pgVals zs) ∧ zs ≠ [] ∧ (∀ z ∈ zs, z.fr = f) ∧ zs.length ≤ 16 * k + q ∧ zs.Sublist (flatN ps k q)
theorem Grp.keep {w w' : World} {B : Nat} {ps : List PrD} {k q : Nat} {f : Int} {v : Value} {row : Option Nat} (h : Grp w B ps k q f v) (hg : w.grownBy w' row) (hne : v.ownBlock = none ∨ v.ownBlock ≠ row) : Grp w' B ps k q f v := by
  obtain ⟨A, c, zs, hv, ho, r⟩ := h
  exact ⟨A, c, zs, hv, ho.kept hg hne, r⟩
theorem Grp.next {w : World} {B : Nat} {ps : List PrD} {k q : Nat} {f : Int} {v : Value} (h : Grp w B ps k q f v) (hq : q < (ps.getD k PrD.zero).pages.length) : Grp w B ps k (q + 1) f v := by
  obtain ⟨A, c, zs, hv, ho, h1, h2, h3, h4⟩ := h
  refine ⟨A, c, zs, hv, ho, h1, h2, by omega, ?_⟩
  rw [flat_page hq]
  exact h4.trans (List.sublist_append_left _ _)
theorem Grp.prog {w : World} {B : Nat} {ps : List PrD} {k M : Nat} {f : Int} {v : Value} (h : Grp w B ps k M f v) (hk : k < ps.length) (hM : (ps.getD k PrD.zero).pages.length = M) (h16 : M ≤ 16) : Grp w B ps (k + 1) 0 f v := by
  obtain ⟨A, c, zs, hv, ho, h1, h2, h3, h4⟩ := h
  refine ⟨A, c, zs, hv, ho, h1, h2, by omega, ?_⟩
  rw [flat_prog hk, hM]
  exact h4
/-- Two rows in one block with pages of two frames: there are none. -/
theorem rows_frames {w : World} {B : Nat} {A1 A2 : Option Addr} {c1 c2 : Nat} {z1 z2 : List PgD} {f1 f2 : Int} (h1 : w.ownsRow B 98 3 (.slice A1 z1.length c1) z1.length (pgVals z1)) (h2 : w.ownsRow B 98 3 (.slice A2 z2.length c2) z2.length (pgVals z2)) (n1 : z1 ≠ []) (hf1 : ∀ z ∈ z1, z.fr = f1) (hf2 : ∀ z ∈ z2, z.fr = f2) (hne : f1 ≠ f2) :
    (Value.slice A1 z1.length c1).ownBlock = none ∨ (Value.slice A1 z1.length c1).ownBlock ≠ (Value.slice A2 z2.length c2).ownBlock ∨ z2 = [] := by
  by_cases n2 : z2 = []
  · exact .inr (.inr n2)
  right; left
  have l1 := List.length_pos_iff.2 n1
  have l2 := List.length_pos_iff.2 n2
  obtain ⟨g1, rfl, -, -⟩ := own_some h1 l1
  obtain ⟨g2, rfl, -, -⟩ := own_some h2 l2
  intro e
  simp only [Value.ownBlock, Option.some.injEq] at e
  subst e
  obtain ⟨b, o, e1, _, _, x1, _⟩ := (Has.of_own h1).page_at l1
  obtain ⟨b', o', e2, _, _, y1, _⟩ := (Has.of_own h2).page_at l2
  injection e1 with e1
  injection e1 with a1 a2
  injection e2 with e2
  injection e2 with b1 b2
  subst a1 a2 b1 b2
  rw [x1] at y1
  injection y1 with y1
  injection y1 with _ y1
  have m1 : z1.getD 0 PgD.zero ∈ z1 := by simp only [List.getD, List.getElem?_eq_getElem l1]; exact List.getElem_mem l1
  have m2 : z2.getD 0 PgD.zero ∈ z2 := by simp only [List.getD, List.getElem?_eq_getElem l2]; exact List.getElem_mem l2
  rw [hf1 _ m1, hf2 _ m2] at y1
  exact hne y1
theorem grp_store {wq W w7 : World} {B0 k q n7 c0 c7 : Nat} {ps : List PrD} {A0 A7 : Option Addr} {zs : List PgD} {y : PgD} (hMA : MapAll wq B0 (16 * k + q) (Grp wq (B0 + 1) ps k q)) (hg0 : wq.grownBy W none)
    (hrow : wq.ownsRow (B0 + 1) 98 3 (.slice A0 zs.length c0) zs.length (pgVals zs)) (hnil : zs = [] → A0 = none) (hzf : ∀ z ∈ zs, z.fr = y.fr) (hzl : zs.length ≤ 16 * k + q) (hzs : zs.Sublist (flatN ps k q))
    (hg7 : W.grownBy w7 (Value.slice A0 zs.length c0).ownBlock) (hn7 : n7 = zs.length + 1) (hown7 : w7.ownsRow (B0 + 1) 98 3 (.slice A7 n7 c7) n7 (pgVals (zs ++ [y])))
    (hq : q < (ps.getD k PrD.zero).pages.length) (hy : (ps.getD k PrD.zero).pages.getD q PgD.zero = y) (f0 : 0 ≤ y.fr) (f9 : y.fr ≤ 1000000) (hk : k ≤ 8) (hq16 : q ≤ 16) :
    ∃ w8, (Instr.mapUpdate 113 (.map (some B0)) (.int .i64 y.fr) (.slice A7 n7 c7)).run Try.prog w7 = .ok () w8 ∧ MapAll w8 B0 (16 * k + q + 1) (Grp w8 (B0 + 1) ps k (q + 1)) ∧ w7.grownBy w8 (some B0) := by
  subst hn7
  have hB0 : some B0 ≠ (Value.slice A0 zs.length c0).ownBlock := fun e => by
    have := (hrow.lt B0 e.symm).1
    omega
  have hM7 : MapAll w7 B0 (16 * k + q) (Grp wq (B0 + 1) ps k q) := (hMA.grown hg0 (by simp)).grown hg7 hB0
  obtain ⟨w8, hrun, hM8, hg8⟩ := hM7.store (t := 113) (e := 94) (f := y.fr) Try.underlying113 (wf_i64 f0 f9) (.slice A7 (zs.length + 1) c7) (Pr' := fun f v => (f = y.fr ∧ v = .slice A7 (zs.length + 1) c7) ∨ (f ≠ y.fr ∧ Grp wq (B0 + 1) ps k q f v)) (.inl ⟨rfl, rfl⟩) (fun f' v' hne hv => .inr ⟨hne, hv⟩) (by unfold maxLen; omega)
  refine ⟨w8, hrun, hM8.imp fun f v hfv => ?_, hg8⟩
  have far : ∀ {u : Value} {m : Nat} {us : List Value} {wz : World}, wz.ownsRow (B0 + 1) 98 3 u m us → u.ownBlock = none ∨ u.ownBlock ≠ some B0 := fun {u m us wz} ho => by
    cases hu : u.ownBlock with
    | none => exact .inl rfl
    | some g =>
      refine .inr fun e => ?_
      have := (ho.lt g hu).1
      cases e
      omega
  rcases hfv with ⟨rfl, rfl⟩ | ⟨hne, hgr⟩
  · refine ⟨A7, c7, zs ++ [y], by simp, ?_, by simp, fun z hz => ?_, by simp; omega, ?_⟩
    · have := hown7.kept hg8 (far hown7)
      simpa using this
    · rcases List.mem_append.1 hz with hz | hz
      · exact hzf z hz
      · have : z = y := by simpa using hz
        rw [this]
    · rw [flat_page hq, hy]
      exact hzs.append (List.Sublist.refl _)
  · obtain ⟨A1, c1, z1, hv, ho, h1, h2, h3, h4⟩ := hgr
    subst hv
    have hne2 : (Value.slice A1 z1.length c1).ownBlock = none ∨ (Value.slice A1 z1.length c1).ownBlock ≠ (Value.slice A0 zs.length c0).ownBlock := by
      rcases rows_frames ho hrow h1 h2 hzf hne with hx | hx | hx
      · exact .inl hx
      · exact .inr hx
      · rw [hnil hx]
        cases (Value.slice A1 z1.length c1).ownBlock <;> simp [Value.ownBlock]
    have ho0 := ho.kept hg0 (by cases (Value.slice A1 z1.length c1).ownBlock <;> simp)
    have ho7 := ho0.kept hg7 hne2
    have ho8 := ho7.kept hg8 (far ho7)
    refine ⟨A1, c1, z1, rfl, ho8, h1, h2, by omega, ?_⟩
    rw [flat_page hq]
    exact h4.trans (List.sublist_append_left _ _)
/-- What the look-up gives. -/
theorem grp_look {wq : World} {B0 k q : Nat} {ps : List PrD} {f : Int} (hMA : MapAll wq B0 (16 * k + q) (Grp wq (B0 + 1) ps k q)) (f0 : 0 ≤ f) (f9 : f ≤ 1000000) :
    ∃ A0 c0 zs, wq.ownsRow (B0 + 1) 98 3 (.slice A0 zs.length c0) zs.length (pgVals zs) ∧ (zs = [] → A0 = none) ∧ (∀ z ∈ zs, z.fr = f) ∧ zs.length ≤ 16 * k + q ∧ zs.Sublist (flatN ps k q) ∧
      ∀ w', w'.heap[B0]? = wq.heap[B0]? → (Instr.lookup 113 (.map (some B0)) (.int .i64 f) false).run Try.prog w' = .ok (.slice A0 zs.length c0) w' := by
  rcases hMA.look (t := 113) (e := 94) (f := f) Try.underlying113 zero94 (wf_i64 f0 f9) false with hr | ⟨v, ⟨A, c, zs, hv, ho, h1, h2, h3, h4⟩, hr⟩
  · exact ⟨none, 0, [], World.ownsRow_nil _ _ _ _, fun _ => rfl, fun z hz => by simp at hz, by simp, List.nil_sublist _, fun w' hw' => by simpa using hr w' hw'⟩
  · subst hv
    exact ⟨A, c, zs, ho, fun e => absurd e h1, h2, h3, h4, fun w' hw' => by simpa using hr w' hw'⟩
end Go.Proofs.Ytjlmgjpnfppkoaa
