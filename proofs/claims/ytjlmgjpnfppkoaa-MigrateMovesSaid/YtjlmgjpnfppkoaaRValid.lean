/-
  Programs, walked: valid programs are found valid (the reference).
-/
import Derived.LoopTactic
import Derived.IntWalk
import Derived.Test.YtjlmgjpnfppkoaaOVal
namespace Go.Proofs.Ytjlmgjpnfppkoaa
open Go.RowKit
attribute [local go_sem ↓] Go.wp_at_zero Go.wp_at_succ

/-- What stands at a frame: is it shared in a page so far? -/
def ShOf (ps : List PrD) (k q : Nat) (f : Int) (v : Value) : Prop := ∃ x ∈ flatN ps k q, x.fr = f ∧ v = .bool x.sh
theorem ShOf.next {ps : List PrD} {k q : Nat} {f : Int} {v : Value} (h : ShOf ps k q f v) (hq : q < (ps.getD k PrD.zero).pages.length) : ShOf ps k (q + 1) f v := by
  obtain ⟨x, hx, e, hv⟩ := h
  exact ⟨x, by rw [flat_page hq]; exact List.mem_append_left _ hx, e, hv⟩
theorem ShOf.mk {ps : List PrD} {k q : Nat} {y : PgD} (hq : q < (ps.getD k PrD.zero).pages.length) (hy : (ps.getD k PrD.zero).pages.getD q PgD.zero = y) : ShOf ps k (q + 1) y.fr (.bool y.sh) :=
  ⟨y, by rw [flat_page hq, hy]; exact List.mem_append_right _ (List.mem_singleton_self _), rfl, rfl⟩
theorem ShOf.prog {ps : List PrD} {k M : Nat} {f : Int} {v : Value} (h : ShOf ps k M f v) (hk : k < ps.length) (hM : (ps.getD k PrD.zero).pages.length = M) : ShOf ps (k + 1) 0 f v := by
  obtain ⟨x, hx, e, hv⟩ := h
  exact ⟨x, by rw [flat_prog hk, hM]; exact hx, e, hv⟩
theorem pg_mem {pgs : List PgD} {q : Nat} (h : q < pgs.length) : pgs.getD q PgD.zero ∈ pgs := by
  simp only [List.getD, List.getElem?_eq_getElem h]
  exact List.getElem_mem h
theorem ShOf.sh {N : Int} {ps : List PrD} {k : Nat} {v : Value} {y : PgD} (hI : Inv N ps) (hk : k < ps.length) (hy : y ∈ (ps.getD k PrD.zero).pages) (h : ShOf ps k 0 y.fr v) : v = .bool true ∧ y.sh = true := by
  obtain ⟨x, hx, e, hv⟩ := h
  have hx' : x ∈ (ps.take k).flatMap PrD.pages := by simpa [flatN] using hx
  obtain ⟨p, hp, hxp⟩ := List.mem_flatMap.1 hx'
  obtain ⟨j, hj, rfl⟩ := List.getElem_of_mem hp
  have hjk : j < k := by simp at hj; omega
  have hR := List.pairwise_iff_getElem.1 hI.2.2 j k (by omega) hk hjk
  rw [List.getElem_take] at hxp
  have hy' : y ∈ ps[k].pages := by simpa [List.getD, List.getElem?_eq_getElem hk] using hy
  have := hR.2 x hxp y hy' e
  exact ⟨by rw [hv, this.1], this.2⟩

set_option maxRecDepth 100000 in
set_option maxHeartbeats 16000000 in
theorem rvalid_any (A : Option Addr) (n c : Nat) (N : Int) (xs : List PrV) (w : World) (h : IsProgs w A n xs) (hI : Inv N (xs.map PrV.P)) (hN : N ≤ 1000000) :
    Calls Try.prog 72 #[.slice A n c, .int .i64 N] w fun e w' => e = .returned (.bool true) ∧ Below w.heap.size w w' := by
  have HI := Lib.hid h
  have Hl := Lib.hid h.len
  have HInv := Lib.hid hI
  have hn : n ≤ 8 := by have := hI.1; rw [List.length_map, h.len] at this; exact this
  have hn' : (n : Int) ≤ 8 := by omega
  have hcell : ∀ i, i < n → ProgOk N (xs.getD i PrV.zero).P := fun i hi => by
    refine hI.2.1 _ (List.mem_map_of_mem (getD_mem xs PrV.zero (by rw [h.len]; exact hi)))
  have Hok := Lib.hid hcell
  have hord : ∀ i j, i < j → j < n → (xs.getD i PrV.zero).P.id < (xs.getD j PrV.zero).P.id := fun i j hij hj => by
    have hj' : j < (xs.map PrV.P).length := by rw [List.length_map, h.len]; exact hj
    have := (List.pairwise_iff_getElem.1 hI.2.2 i j (by omega) hj' hij).1
    have hjx : j < xs.length := by rw [h.len]; exact hj
    simpa [List.getD, List.getElem?_eq_getElem hjx, List.getElem?_eq_getElem (show i < xs.length by omega)] using this
  have Hord := Lib.hid hord
  have hmap : ∀ i, i < n → (xs.map PrV.P).getD i PrD.zero = (xs.getD i PrV.zero).P := fun i hi => map_getD (by rw [h.len]; exact hi)
  have Hmap := Lib.hid hmap
  clear h hI hcell hord hmap
  have hmm := @run_makeMap Try.prog
  go_enter Try.func72, Try.ntmps72
  go_wp2_with fail
  go_loopw [18] (fun i wr => ∃ k : Nat, k ≤ n ∧ i = .int .i64 k ∧ Hid (MapAll wr w.heap.size (16 * k) (ShOf (xs.map PrV.P) k 0)) ∧ Hid (Below w.heap.size w wr) ∧ w.heap.size < wr.heap.size) (fun i _ => n - (intOf i).toNat)
  case atStart =>
    refine ⟨0, by omega, rfl, MapAll.made w _, ?_, by simp⟩
    show Below _ _ _
    (repeat' (first | (with_reducible exact Below.refl _ _) | (with_reducible assumption) | (with_reducible refine Below.alloc ?_ ?_ _) | (with_reducible refine Below.drew ?_) | (with_reducible refine below_drewN ?_ _) | (with_reducible refine Below.setCell ?_ ?_ _) | (with_reducible exact Nat.le_refl _) | omega | (simp <;> omega)))
  case round =>
    obtain ⟨k, hk, rfl, HMA, HB, hlt0⟩ := hrel
    have hs := HB.out.size
    by_cases hlt : k < n
    · have hlt' : (k : Int) < (n : Int) := by omega
      have hk0 : (0 : Int) ≤ (k : Int) := by omega
      obtain ⟨b, off, rfl, hb, d0, d1, d2, d3, d4, hP, hT⟩ := HI.out.at_ hlt
      have hok := Hok.out k hlt
      have hmp := Hmap.out k hlt
      obtain ⟨x, hx⟩ : ∃ x, xs.getD k PrV.zero = x := ⟨_, rfl⟩
      rw [hx] at d0 d1 d2 d3 d4 hP hok hmp
      have Hx := Lib.hid hx
      obtain ⟨⟨id, te, de, pgs, told⟩, PA, Pc, TA, Tc⟩ := x
      dsimp only at d0 d1 d2 d3 d4 hP hok hmp
      obtain rfl : told = [] := hok.2.2.1
      obtain ⟨M, hM⟩ : ∃ M, pgs.length = M := ⟨_, rfl⟩
      rw [hM] at d3 hP
      simp only [List.length_nil] at d4
      have HM := Lib.hid hM
      have HP := Lib.hid hP
      have HK := Lib.hid hok
      have Hmp := Lib.hid hmp
      have hM16 : M ≤ 16 := by have := hok.2.2.2.1; dsimp only at this; rw [hM] at this; exact this
      have g0 := cellK HB.out hb d0
      have g1 := cellK HB.out hb d1
      have g2 := cellK HB.out hb d2
      have g3 := cellK HB.out hb d3
      have g4 := cellK HB.out hb d4
      have lbr := Nat.lt_of_lt_of_le hb hs
      clear d0 d1 d2 d3 d4 hx hM hP hT hok hmp
      obtain ⟨id1, id9, -, -, hdM, -, -⟩ := HK.out
      dsimp only at id1 id9 hdM
      have HdM := Lib.hid hdM
      have d1 : decide (id < 1) = false := by simp; omega
      have d2 : decide (999 < id) = false := by simp; omega
      have d6 : decide (16 < (M : Int)) = false := by simp; omega
      clear hdM
      rcases Nat.eq_zero_or_pos k with hkz | hkp
      · subst hkz
        simp only [show ((0 : Nat) : Int) = 0 from rfl]
        simp only [Nat.zero_mul, Nat.add_zero] at g0 g1 g2 g3 g4
        cases de
        · go_wp2_with fail
          go_big_quiet (fail)
          go_wp2_with fail
          obtain ⟨wo, rfl⟩ : ∃ wo : World, wo = wr := ⟨_, rfl⟩
          have HX0 : Hid ((wo.alloc (.cells #[.int .i64 id, .bool te, .bool false, .slice PA M Pc, .slice TA 0 Tc] 96)).heap[wo.heap.size]? = some (.cells #[.int .i64 id, .bool te, .bool false, .slice PA M Pc, .slice TA 0 Tc] 96)) := heap_new wo _
          go_loopw [72] (fun i wr => ∃ q : Nat, q ≤ M ∧ i = .int .i64 q ∧ Hid (MapAll wr w.heap.size (16 * 0) (ShOf (xs.map PrV.P) 0 0)) ∧ Hid (MapAll wr (wo.heap.size + 1) q (FrOf pgs q)) ∧ Hid (wr.heap[wo.heap.size]? = some (.cells #[.int .i64 id, .bool te, .bool false, .slice PA M Pc, .slice TA 0 Tc] 96)) ∧ Hid (Below w.heap.size w wr) ∧ wo.heap.size + 1 < wr.heap.size) (fun i _ => M - (intOf i).toNat)
          case atStart =>
            refine ⟨0, by omega, rfl, (HMA.out.alloc _).alloc _, ?_, ?_, ?_, by simp⟩
            · show MapAll _ _ _ _
              have := MapAll.made (wo.alloc (.cells #[.int .i64 id, .bool te, .bool false, .slice PA M Pc, .slice TA 0 Tc] 96)) (FrOf pgs 0)
              exact MapAll.heap (w := (wo.alloc (.cells #[.int .i64 id, .bool te, .bool false, .slice PA M Pc, .slice TA 0 Tc] 96)).alloc (.map #[] 0)) (by simpa using this) rfl
            · show _ = _
              exact ((MapKept.heap_alloc _ _).2 _ (by simp)).trans HX0.out
            · show Below _ _ _
              have hb := HB.out
              (repeat' (first | (with_reducible exact Below.refl _ _) | (with_reducible assumption) | (with_reducible refine Below.alloc ?_ ?_ _) | (with_reducible refine Below.drew ?_) | (with_reducible refine below_drewN ?_ _) | (with_reducible refine Below.setCell ?_ ?_ _) | (with_reducible exact Nat.le_refl _) | omega | (simp <;> omega)))
          case round =>
            obtain ⟨q, hq, rfl, HMo, HMm, HX, HBq, hltq⟩ := hrel
            have hsq := HBq.out.size
            have x3 := cell_of_heap HX.out (i := 3) rfl
            have hlto : wo.heap.size < wr.heap.size := by omega
            have hltB : w.heap.size < wr.heap.size := by omega
            by_cases hqM : q < M
            · have hqM' : (q : Int) < (M : Int) := by omega
              have hq0 : (0 : Int) ≤ (q : Int) := by omega
              have hql : q < pgs.length := by rw [HM.out]; exact hqM
              obtain ⟨a0, a9, f0, fN⟩ := pg_at HK.out (q := q) (by exact hql)
              have hpl := fun i (hi : i < q) => pg_lt HK.out hi (by exact hql)
              dsimp only at a0 a9 f0 fN hpl
              have hym : pgs.getD q PgD.zero ∈ ((xs.map PrV.P).getD 0 PrD.zero).pages := by
                rw [Hmp.out]
                exact pg_mem hql
              obtain ⟨pb, poff, rfl, hpb, p0, p1, p2⟩ := (HP.out.below HBq.out).page_at hqM
              have hlook : ∀ (o : Obj) (j : Nat), (Instr.lookup 118 (.map (some (wo.heap.size + 1))) (.int .i64 (pgs.getD q PgD.zero).fr) false).run Try.prog ((wr.alloc o).drewN j) = .ok (.bool false) ((wr.alloc o).drewN j) := by
                intro o j
                rcases HMm.out.look (t := 118) (e := 4) (f := (pgs.getD q PgD.zero).fr) Try.underlying118 zero4 (wf_i64 f0 (by omega)) false with hr | ⟨v, ⟨i, hi, he⟩, _⟩
                · have := hr ((wr.alloc o).drewN j) (by show (wr.alloc o).heap[wo.heap.size + 1]? = _; exact (MapKept.heap_alloc wr o).2 _ hltq)
                  simpa using this
                · exact absurd he (hpl i hi).2
              have hsh : ∀ v, ShOf (xs.map PrV.P) 0 0 (pgs.getD q PgD.zero).fr v → v = .bool true ∧ (pgs.getD q PgD.zero).sh = true := fun v hv => hv.sh HInv.out (by rw [List.length_map, Hl.out]; exact hlt) hym
              have Hpl := Lib.hid hpl
              obtain ⟨⟨num, fr, sh⟩, hy⟩ : ∃ y, pgs.getD q PgD.zero = y := ⟨_, rfl⟩
              rw [hy] at p0 p1 p2 a0 a9 f0 fN hlook hsh
              dsimp only at p0 p1 p2 a0 a9 f0 fN hlook hsh
              have Hy := Lib.hid hy
              have Hsh := Lib.hid hsh
              have Hwf := Lib.hid (wf_i64 f0 (show fr ≤ 1000000 by omega))
              have b1 : decide (num < 0) = false := by simp; omega
              have b2 : decide (999 < num) = false := by simp; omega
              have b3 : decide (fr < 0) = false := by simp; omega
              have b4 : decide (N ≤ fr) = false := by simp; omega
              clear hy hpl hsh hym
              rcases Nat.eq_zero_or_pos q with hqz | hqp
              · subst hqz
                simp only [Nat.zero_mul, Nat.add_zero] at p0 p1 p2
                simp only [show ((0 : Nat) : Int) = 0 from rfl]
                go_wp2_with fail
                go_big_quiet (fail)
                go_wp2_with (first
                  | (at_lookup; refine wpList_look_all rfl _ _ 118 rfl 4 (.bool false) Try.underlying118 zero4 rfl ((HMo.out.alloc _).heap rfl) rfl Hwf.out ?_ ?_)
                  | (at_mapUpdate; refine wpList_store_all rfl _ _ _ 118 rfl 4 Try.underlying118 rfl ((HMm.out.alloc _).heap rfl) rfl Hwf.out _ rfl (Pr' := FrOf pgs (0 + 1)) ⟨0, by omega, by rw [Hy.out]⟩ (fun _ _ _ h => h.more) (by unfold maxLen; omega) ?_; intro w9 hM9 hg9))
                · go_roundw
                  case rel =>
                    refine ⟨0 + 1, by omega, by go_num, ?_, hM9, ?_, ?_, ?_⟩
                    · show MapAll _ _ _ _
                      exact MapAll.grown (show MapAll ((wr.alloc (.cells #[.int .i64 num, .int .i64 fr, .bool sh] 98)).drewN nq) w.heap.size (16 * 0) (ShOf (xs.map PrV.P) 0 0) from HMo.out.alloc _) hg9 (by simp; omega)
                    · show _ = _
                      exact (hg9.block wo.heap.size (by simp; omega) (by simp)).trans (((MapKept.heap_alloc wr _).2 _ hlto).trans HX.out)
                    · exact (show Below w.heap.size w _ by have hb := HBq.out; (repeat' (first | (with_reducible exact Below.refl _ _) | (with_reducible assumption) | (with_reducible refine Below.alloc ?_ ?_ _) | (with_reducible refine Below.drew ?_) | (with_reducible refine below_drewN ?_ _) | (with_reducible refine Below.setCell ?_ ?_ _) | (with_reducible exact Nat.le_refl _) | omega | (simp <;> omega)))).grown hg9 (by simp; omega) (fun j hj => by cases hj; omega)
                    · have := hg9.size
                      simp at this
                      omega
                  case measure => simp [intOf]; omega
                · intro v hv
                  obtain ⟨rfl, hs1⟩ := Hsh.out v hv
                  subst hs1
                  go_wp2_with (first
                    | (at_mapUpdate; refine wpList_store_all rfl _ _ _ 118 rfl 4 Try.underlying118 rfl ((HMm.out.alloc _).heap rfl) rfl Hwf.out _ rfl (Pr' := FrOf pgs (0 + 1)) ⟨0, by omega, by rw [Hy.out]⟩ (fun _ _ _ h => h.more) (by unfold maxLen; omega) ?_; intro w9 hM9 hg9))
                  go_roundw
                  case rel =>
                    refine ⟨0 + 1, by omega, by go_num, ?_, hM9, ?_, ?_, ?_⟩
                    · show MapAll _ _ _ _
                      exact MapAll.grown (show MapAll ((wr.alloc (.cells #[.int .i64 num, .int .i64 fr, .bool true] 98)).drewN nq) w.heap.size (16 * 0) (ShOf (xs.map PrV.P) 0 0) from HMo.out.alloc _) hg9 (by simp; omega)
                    · show _ = _
                      exact (hg9.block wo.heap.size (by simp; omega) (by simp)).trans (((MapKept.heap_alloc wr _).2 _ hlto).trans HX.out)
                    · exact (show Below w.heap.size w _ by have hb := HBq.out; (repeat' (first | (with_reducible exact Below.refl _ _) | (with_reducible assumption) | (with_reducible refine Below.alloc ?_ ?_ _) | (with_reducible refine Below.drew ?_) | (with_reducible refine below_drewN ?_ _) | (with_reducible refine Below.setCell ?_ ?_ _) | (with_reducible exact Nat.le_refl _) | omega | (simp <;> omega)))).grown hg9 (by simp; omega) (fun j hj => by cases hj; omega)
                    · have := hg9.size
                      simp at this
                      omega
                  case measure => simp [intOf]; omega
              · obtain ⟨s, rfl⟩ : ∃ s, q = s + 1 := ⟨q - 1, by omega⟩
                have hpr := (Hpl.out s (by omega)).1
                rw [Hy.out] at hpr
                dsimp only at hpr
                obtain ⟨pb', poff', e', -, r0, -, -⟩ := (HP.out.below HBq.out).page_at (k := s) (by omega)
                injection e' with e'
                injection e' with e1 e2
                subst e1 e2
                obtain ⟨pn, hpn⟩ : ∃ z, (pgs.getD s PgD.zero).num = z := ⟨_, rfl⟩
                rw [hpn] at r0 hpr
                have b5 : decide (num ≤ pn) = false := by simp; omega
                have b6 : decide ((0 : Int) < (s : Int) + 1) = true := by simp <;> omega
                have w6 : IntKind.i64.wrap (s : Int) = s := IntWalk.i64_in _ (by omega)
                have hsM : (s : Int) < (M : Int) := by omega
                have hs0 : (0 : Int) ≤ (s : Int) := by omega
                clear hpn
                go_wp2_with fail
                go_big_quiet (fail)
                go_wp2_with (first
                  | (at_lookup; refine wpList_look_all rfl _ _ 118 rfl 4 (.bool false) Try.underlying118 zero4 rfl ((HMo.out.alloc _).heap rfl) rfl Hwf.out ?_ ?_)
                  | (at_mapUpdate; refine wpList_store_all rfl _ _ _ 118 rfl 4 Try.underlying118 rfl ((HMm.out.alloc _).heap rfl) rfl Hwf.out _ rfl (Pr' := FrOf pgs ((s + 1) + 1)) ⟨(s + 1), by omega, by rw [Hy.out]⟩ (fun _ _ _ h => h.more) (by unfold maxLen; omega) ?_; intro w9 hM9 hg9))
                · go_roundw
                  case rel =>
                    refine ⟨(s + 1) + 1, by omega, by go_num, ?_, hM9, ?_, ?_, ?_⟩
                    · show MapAll _ _ _ _
                      exact MapAll.grown (show MapAll ((wr.alloc (.cells #[.int .i64 num, .int .i64 fr, .bool sh] 98)).drewN nq) w.heap.size (16 * 0) (ShOf (xs.map PrV.P) 0 0) from HMo.out.alloc _) hg9 (by simp; omega)
                    · show _ = _
                      exact (hg9.block wo.heap.size (by simp; omega) (by simp)).trans (((MapKept.heap_alloc wr _).2 _ hlto).trans HX.out)
                    · exact (show Below w.heap.size w _ by have hb := HBq.out; (repeat' (first | (with_reducible exact Below.refl _ _) | (with_reducible assumption) | (with_reducible refine Below.alloc ?_ ?_ _) | (with_reducible refine Below.drew ?_) | (with_reducible refine below_drewN ?_ _) | (with_reducible refine Below.setCell ?_ ?_ _) | (with_reducible exact Nat.le_refl _) | omega | (simp <;> omega)))).grown hg9 (by simp; omega) (fun j hj => by cases hj; omega)
                    · have := hg9.size
                      simp at this
                      omega
                  case measure => simp [intOf]; omega
                · intro v hv
                  obtain ⟨rfl, hs1⟩ := Hsh.out v hv
                  subst hs1
                  go_wp2_with (first
                    | (at_mapUpdate; refine wpList_store_all rfl _ _ _ 118 rfl 4 Try.underlying118 rfl ((HMm.out.alloc _).heap rfl) rfl Hwf.out _ rfl (Pr' := FrOf pgs ((s + 1) + 1)) ⟨(s + 1), by omega, by rw [Hy.out]⟩ (fun _ _ _ h => h.more) (by unfold maxLen; omega) ?_; intro w9 hM9 hg9))
                  go_roundw
                  case rel =>
                    refine ⟨(s + 1) + 1, by omega, by go_num, ?_, hM9, ?_, ?_, ?_⟩
                    · show MapAll _ _ _ _
                      exact MapAll.grown (show MapAll ((wr.alloc (.cells #[.int .i64 num, .int .i64 fr, .bool true] 98)).drewN nq) w.heap.size (16 * 0) (ShOf (xs.map PrV.P) 0 0) from HMo.out.alloc _) hg9 (by simp; omega)
                    · show _ = _
                      exact (hg9.block wo.heap.size (by simp; omega) (by simp)).trans (((MapKept.heap_alloc wr _).2 _ hlto).trans HX.out)
                    · exact (show Below w.heap.size w _ by have hb := HBq.out; (repeat' (first | (with_reducible exact Below.refl _ _) | (with_reducible assumption) | (with_reducible refine Below.alloc ?_ ?_ _) | (with_reducible refine Below.drew ?_) | (with_reducible refine below_drewN ?_ _) | (with_reducible refine Below.setCell ?_ ?_ _) | (with_reducible exact Nat.le_refl _) | omega | (simp <;> omega)))).grown hg9 (by simp; omega) (fun j hj => by cases hj; omega)
                    · have := hg9.size
                      simp at this
                      omega
                  case measure => simp [intOf]; omega
            · have hqq : q = M := by omega
              have hqq' : (M : Int) ≤ (q : Int) := by omega
              have hqd : decide (q < M) = false := by simp <;> omega
              clear hqM HMm hqq
              have hHq := HP.out.below HBq.out
              obtain ⟨wp, rfl⟩ : ∃ wp : World, wp = wr := ⟨_, rfl⟩
              go_wp2_with fail
              go_loopw [142] (fun i wr => ∃ q : Nat, q ≤ M ∧ i = .int .i64 q ∧ Hid (MapAll wr w.heap.size (16 * 0 + q) (ShOf (xs.map PrV.P) 0 q)) ∧ Hid (Below w.heap.size w wr) ∧ w.heap.size < wr.heap.size) (fun i _ => M - (intOf i).toNat)
              case atStart => exact ⟨0, by omega, rfl, HMo.out, HBq.out, hltB⟩
              case round =>
                obtain ⟨u, hu, rfl, HM3, HB3, hlt3⟩ := hrel
                have hs3 := HB3.out.size
                by_cases huM : u < M
                · have huM' : (u : Int) < (M : Int) := by omega
                  have hu0 : (0 : Int) ≤ (u : Int) := by omega
                  have hul : u < pgs.length := by rw [HM.out]; exact huM
                  obtain ⟨-, -, f0, fN⟩ := pg_at HK.out (q := u) (by exact hul)
                  dsimp only at f0 fN
                  obtain ⟨pb, poff, hPA, hpb, p0, p1, p2⟩ := (HP.out.below HB3.out).page_at huM
                  obtain ⟨⟨num, fr, sh⟩, hy⟩ : ∃ y, pgs.getD u PgD.zero = y := ⟨_, rfl⟩
                  rw [hy] at p0 p1 p2 f0 fN
                  dsimp only at p0 p1 p2 f0 fN
                  have Hyq : Hid (((xs.map PrV.P).getD 0 PrD.zero).pages.getD u PgD.zero = ⟨num, fr, sh⟩) := by
                    show _ = _
                    rw [Hmp.out]; exact hy
                  have Hqp : Hid (u < ((xs.map PrV.P).getD 0 PrD.zero).pages.length) := by
                    show _ < _
                    rw [Hmp.out]; exact hul
                  have Hwf := Lib.hid (wf_i64 f0 (show fr ≤ 1000000 by omega))
                  subst hPA
                  clear hy
                  go_wp2_with (first
                    | (at_mapUpdate; refine wpList_store_all rfl _ _ _ 118 rfl 4 Try.underlying118 rfl (HM3.out.alloc _) rfl Hwf.out _ rfl (Pr' := ShOf (xs.map PrV.P) 0 (u + 1)) (ShOf.mk Hqp.out Hyq.out) (fun _ _ _ h => h.next Hqp.out) (by unfold maxLen; omega) ?_; intro w9 hM9 hg9))
                  go_roundw
                  case rel =>
                    refine ⟨u + 1, by omega, by go_num, hM9, ?_, ?_⟩
                    · exact (show Below w.heap.size w _ by have hb := HB3.out; (repeat' (first | (with_reducible exact Below.refl _ _) | (with_reducible assumption) | (with_reducible refine Below.alloc ?_ ?_ _) | (with_reducible refine Below.drew ?_) | (with_reducible refine below_drewN ?_ _) | (with_reducible refine Below.setCell ?_ ?_ _) | (with_reducible exact Nat.le_refl _) | omega | (simp <;> omega)))).grown hg9 (by simp; omega) (fun j hj => by cases hj; omega)
                    · have := hg9.size
                      simp at this
                      omega
                  case measure => simp [intOf]; omega
                · have huu : u = M := by omega
                  have huu' : (M : Int) ≤ (u : Int) := by omega
                  have hud : decide (u < M) = false := by simp <;> omega
                  have Huu := Lib.hid huu
                  clear huM huu
                  go_wp2_with fail
                  go_roundw
                  case rel =>
                    refine ⟨0 + 1, by omega, by go_num, ?_, HB3.out, hlt3⟩
                    show MapAll _ _ _ _
                    have huu := Huu.out
                    subst huu
                    exact (HM3.out.imp fun f v hv => hv.prog (by rw [List.length_map, Hl.out]; exact hlt) (by rw [Hmp.out]; exact HM.out)).more (by omega)
                  case measure => simp [intOf]; omega
        · obtain rfl : M = 0 := by rw [← HM.out, HdM.out rfl]; rfl
          go_wp2_with fail
          go_big_quiet (fail)
          go_wp2_with fail
          obtain ⟨wo, rfl⟩ : ∃ wo : World, wo = wr := ⟨_, rfl⟩
          have HX0 : Hid ((wo.alloc (.cells #[.int .i64 id, .bool te, .bool true, .slice PA 0 Pc, .slice TA 0 Tc] 96)).heap[wo.heap.size]? = some (.cells #[.int .i64 id, .bool te, .bool true, .slice PA 0 Pc, .slice TA 0 Tc] 96)) := heap_new wo _
          go_loopw [72] (fun i wr => ∃ q : Nat, q ≤ 0 ∧ i = .int .i64 q ∧ Hid (MapAll wr w.heap.size (16 * 0) (ShOf (xs.map PrV.P) 0 0)) ∧ Hid (MapAll wr (wo.heap.size + 1) q (FrOf pgs q)) ∧ Hid (wr.heap[wo.heap.size]? = some (.cells #[.int .i64 id, .bool te, .bool true, .slice PA 0 Pc, .slice TA 0 Tc] 96)) ∧ Hid (Below w.heap.size w wr) ∧ wo.heap.size + 1 < wr.heap.size) (fun i _ => 0 - (intOf i).toNat)
          case atStart =>
            refine ⟨0, by omega, rfl, (HMA.out.alloc _).alloc _, ?_, ?_, ?_, by simp⟩
            · show MapAll _ _ _ _
              have := MapAll.made (wo.alloc (.cells #[.int .i64 id, .bool te, .bool true, .slice PA 0 Pc, .slice TA 0 Tc] 96)) (FrOf pgs 0)
              exact MapAll.heap (w := (wo.alloc (.cells #[.int .i64 id, .bool te, .bool true, .slice PA 0 Pc, .slice TA 0 Tc] 96)).alloc (.map #[] 0)) (by simpa using this) rfl
            · show _ = _
              exact ((MapKept.heap_alloc _ _).2 _ (by simp)).trans HX0.out
            · show Below _ _ _
              have hb := HB.out
              (repeat' (first | (with_reducible exact Below.refl _ _) | (with_reducible assumption) | (with_reducible refine Below.alloc ?_ ?_ _) | (with_reducible refine Below.drew ?_) | (with_reducible refine below_drewN ?_ _) | (with_reducible refine Below.setCell ?_ ?_ _) | (with_reducible exact Nat.le_refl _) | omega | (simp <;> omega)))
          case round =>
            obtain ⟨q, hq, rfl, HMo, HMm, HX, HBq, hltq⟩ := hrel
            have hsq := HBq.out.size
            have x3 := cell_of_heap HX.out (i := 3) rfl
            have hlto : wo.heap.size < wr.heap.size := by omega
            have hltB : w.heap.size < wr.heap.size := by omega
            by_cases hqM : q < 0
            · exact absurd hqM (by omega)
            · have hqq : q = 0 := by omega
              have hqq' : (0 : Int) ≤ (q : Int) := by omega
              have hqd : decide (q < 0) = false := by simp <;> omega
              clear hqM HMm hqq
              have hHq := HP.out.below HBq.out
              obtain ⟨wp, rfl⟩ : ∃ wp : World, wp = wr := ⟨_, rfl⟩
              go_wp2_with fail
              go_loopw [142] (fun i wr => ∃ q : Nat, q ≤ 0 ∧ i = .int .i64 q ∧ Hid (MapAll wr w.heap.size (16 * 0 + q) (ShOf (xs.map PrV.P) 0 q)) ∧ Hid (Below w.heap.size w wr) ∧ w.heap.size < wr.heap.size) (fun i _ => 0 - (intOf i).toNat)
              case atStart => exact ⟨0, by omega, rfl, HMo.out, HBq.out, hltB⟩
              case round =>
                obtain ⟨u, hu, rfl, HM3, HB3, hlt3⟩ := hrel
                have hs3 := HB3.out.size
                by_cases huM : u < 0
                · exact absurd huM (by omega)
                · have huu : u = 0 := by omega
                  have huu' : (0 : Int) ≤ (u : Int) := by omega
                  have hud : decide (u < 0) = false := by simp <;> omega
                  have Huu := Lib.hid huu
                  clear huM huu
                  go_wp2_with fail
                  go_roundw
                  case rel =>
                    refine ⟨0 + 1, by omega, by go_num, ?_, HB3.out, hlt3⟩
                    show MapAll _ _ _ _
                    have huu := Huu.out
                    subst huu
                    exact (HM3.out.imp fun f v hv => hv.prog (by rw [List.length_map, Hl.out]; exact hlt) (by rw [Hmp.out]; exact HM.out)).more (by omega)
                  case measure => simp [intOf]; omega
      · obtain ⟨r, rfl⟩ : ∃ r, k = r + 1 := ⟨k - 1, by omega⟩
        have hrn0 : r < n := by omega
        obtain ⟨b', off', e', -, t0, -⟩ := HI.out.at_ hrn0
        injection e' with e'
        injection e' with e1 e2
        subst e1 e2
        obtain ⟨pid, hpid⟩ : ∃ z, (xs.getD r PrV.zero).P.id = z := ⟨_, rfl⟩
        have hpl := Hord.out r (r + 1) (by omega) hlt
        rw [hpid, Hx.out] at hpl
        rw [hpid] at t0
        dsimp only at hpl
        have gp := cellK HB.out hb t0
        have d5 : decide (id ≤ pid) = false := by simp; omega
        have dk : decide ((0 : Int) < (r : Int) + 1) = true := by simp <;> omega
        have wr5 : IntKind.i64.wrap (r : Int) = r := IntWalk.i64_in _ (by omega)
        have hrn : (r : Int) < (n : Int) := by omega
        have hr0 : (0 : Int) ≤ (r : Int) := by omega
        clear hpid t0
        cases de
        · go_wp2_with fail
          go_big_quiet (fail)
          go_wp2_with fail
          obtain ⟨wo, rfl⟩ : ∃ wo : World, wo = wr := ⟨_, rfl⟩
          have HX0 : Hid ((wo.alloc (.cells #[.int .i64 id, .bool te, .bool false, .slice PA M Pc, .slice TA 0 Tc] 96)).heap[wo.heap.size]? = some (.cells #[.int .i64 id, .bool te, .bool false, .slice PA M Pc, .slice TA 0 Tc] 96)) := heap_new wo _
          go_loopw [72] (fun i wr => ∃ q : Nat, q ≤ M ∧ i = .int .i64 q ∧ Hid (MapAll wr w.heap.size (16 * (r + 1)) (ShOf (xs.map PrV.P) (r + 1) 0)) ∧ Hid (MapAll wr (wo.heap.size + 1) q (FrOf pgs q)) ∧ Hid (wr.heap[wo.heap.size]? = some (.cells #[.int .i64 id, .bool te, .bool false, .slice PA M Pc, .slice TA 0 Tc] 96)) ∧ Hid (Below w.heap.size w wr) ∧ wo.heap.size + 1 < wr.heap.size) (fun i _ => M - (intOf i).toNat)
          case atStart =>
            refine ⟨0, by omega, rfl, (HMA.out.alloc _).alloc _, ?_, ?_, ?_, by simp⟩
            · show MapAll _ _ _ _
              have := MapAll.made (wo.alloc (.cells #[.int .i64 id, .bool te, .bool false, .slice PA M Pc, .slice TA 0 Tc] 96)) (FrOf pgs 0)
              exact MapAll.heap (w := (wo.alloc (.cells #[.int .i64 id, .bool te, .bool false, .slice PA M Pc, .slice TA 0 Tc] 96)).alloc (.map #[] 0)) (by simpa using this) rfl
            · show _ = _
              exact ((MapKept.heap_alloc _ _).2 _ (by simp)).trans HX0.out
            · show Below _ _ _
              have hb := HB.out
              (repeat' (first | (with_reducible exact Below.refl _ _) | (with_reducible assumption) | (with_reducible refine Below.alloc ?_ ?_ _) | (with_reducible refine Below.drew ?_) | (with_reducible refine below_drewN ?_ _) | (with_reducible refine Below.setCell ?_ ?_ _) | (with_reducible exact Nat.le_refl _) | omega | (simp <;> omega)))
          case round =>
            obtain ⟨q, hq, rfl, HMo, HMm, HX, HBq, hltq⟩ := hrel
            have hsq := HBq.out.size
            have x3 := cell_of_heap HX.out (i := 3) rfl
            have hlto : wo.heap.size < wr.heap.size := by omega
            have hltB : w.heap.size < wr.heap.size := by omega
            by_cases hqM : q < M
            · have hqM' : (q : Int) < (M : Int) := by omega
              have hq0 : (0 : Int) ≤ (q : Int) := by omega
              have hql : q < pgs.length := by rw [HM.out]; exact hqM
              obtain ⟨a0, a9, f0, fN⟩ := pg_at HK.out (q := q) (by exact hql)
              have hpl := fun i (hi : i < q) => pg_lt HK.out hi (by exact hql)
              dsimp only at a0 a9 f0 fN hpl
              have hym : pgs.getD q PgD.zero ∈ ((xs.map PrV.P).getD (r + 1) PrD.zero).pages := by
                rw [Hmp.out]
                exact pg_mem hql
              obtain ⟨pb, poff, rfl, hpb, p0, p1, p2⟩ := (HP.out.below HBq.out).page_at hqM
              have hlook : ∀ (o : Obj) (j : Nat), (Instr.lookup 118 (.map (some (wo.heap.size + 1))) (.int .i64 (pgs.getD q PgD.zero).fr) false).run Try.prog ((wr.alloc o).drewN j) = .ok (.bool false) ((wr.alloc o).drewN j) := by
                intro o j
                rcases HMm.out.look (t := 118) (e := 4) (f := (pgs.getD q PgD.zero).fr) Try.underlying118 zero4 (wf_i64 f0 (by omega)) false with hr | ⟨v, ⟨i, hi, he⟩, _⟩
                · have := hr ((wr.alloc o).drewN j) (by show (wr.alloc o).heap[wo.heap.size + 1]? = _; exact (MapKept.heap_alloc wr o).2 _ hltq)
                  simpa using this
                · exact absurd he (hpl i hi).2
              have hsh : ∀ v, ShOf (xs.map PrV.P) (r + 1) 0 (pgs.getD q PgD.zero).fr v → v = .bool true ∧ (pgs.getD q PgD.zero).sh = true := fun v hv => hv.sh HInv.out (by rw [List.length_map, Hl.out]; exact hlt) hym
              have Hpl := Lib.hid hpl
              obtain ⟨⟨num, fr, sh⟩, hy⟩ : ∃ y, pgs.getD q PgD.zero = y := ⟨_, rfl⟩
              rw [hy] at p0 p1 p2 a0 a9 f0 fN hlook hsh
              dsimp only at p0 p1 p2 a0 a9 f0 fN hlook hsh
              have Hy := Lib.hid hy
              have Hsh := Lib.hid hsh
              have Hwf := Lib.hid (wf_i64 f0 (show fr ≤ 1000000 by omega))
              have b1 : decide (num < 0) = false := by simp; omega
              have b2 : decide (999 < num) = false := by simp; omega
              have b3 : decide (fr < 0) = false := by simp; omega
              have b4 : decide (N ≤ fr) = false := by simp; omega
              clear hy hpl hsh hym
              rcases Nat.eq_zero_or_pos q with hqz | hqp
              · subst hqz
                simp only [Nat.zero_mul, Nat.add_zero] at p0 p1 p2
                simp only [show ((0 : Nat) : Int) = 0 from rfl]
                go_wp2_with fail
                go_big_quiet (fail)
                go_wp2_with (first
                  | (at_lookup; refine wpList_look_all rfl _ _ 118 rfl 4 (.bool false) Try.underlying118 zero4 rfl ((HMo.out.alloc _).heap rfl) rfl Hwf.out ?_ ?_)
                  | (at_mapUpdate; refine wpList_store_all rfl _ _ _ 118 rfl 4 Try.underlying118 rfl ((HMm.out.alloc _).heap rfl) rfl Hwf.out _ rfl (Pr' := FrOf pgs (0 + 1)) ⟨0, by omega, by rw [Hy.out]⟩ (fun _ _ _ h => h.more) (by unfold maxLen; omega) ?_; intro w9 hM9 hg9))
                · go_roundw
                  case rel =>
                    refine ⟨0 + 1, by omega, by go_num, ?_, hM9, ?_, ?_, ?_⟩
                    · show MapAll _ _ _ _
                      exact MapAll.grown (show MapAll ((wr.alloc (.cells #[.int .i64 num, .int .i64 fr, .bool sh] 98)).drewN nq) w.heap.size (16 * (r + 1)) (ShOf (xs.map PrV.P) (r + 1) 0) from HMo.out.alloc _) hg9 (by simp; omega)
                    · show _ = _
                      exact (hg9.block wo.heap.size (by simp; omega) (by simp)).trans (((MapKept.heap_alloc wr _).2 _ hlto).trans HX.out)
                    · exact (show Below w.heap.size w _ by have hb := HBq.out; (repeat' (first | (with_reducible exact Below.refl _ _) | (with_reducible assumption) | (with_reducible refine Below.alloc ?_ ?_ _) | (with_reducible refine Below.drew ?_) | (with_reducible refine below_drewN ?_ _) | (with_reducible refine Below.setCell ?_ ?_ _) | (with_reducible exact Nat.le_refl _) | omega | (simp <;> omega)))).grown hg9 (by simp; omega) (fun j hj => by cases hj; omega)
                    · have := hg9.size
                      simp at this
                      omega
                  case measure => simp [intOf]; omega
                · intro v hv
                  obtain ⟨rfl, hs1⟩ := Hsh.out v hv
                  subst hs1
                  go_wp2_with (first
                    | (at_mapUpdate; refine wpList_store_all rfl _ _ _ 118 rfl 4 Try.underlying118 rfl ((HMm.out.alloc _).heap rfl) rfl Hwf.out _ rfl (Pr' := FrOf pgs (0 + 1)) ⟨0, by omega, by rw [Hy.out]⟩ (fun _ _ _ h => h.more) (by unfold maxLen; omega) ?_; intro w9 hM9 hg9))
                  go_roundw
                  case rel =>
                    refine ⟨0 + 1, by omega, by go_num, ?_, hM9, ?_, ?_, ?_⟩
                    · show MapAll _ _ _ _
                      exact MapAll.grown (show MapAll ((wr.alloc (.cells #[.int .i64 num, .int .i64 fr, .bool true] 98)).drewN nq) w.heap.size (16 * (r + 1)) (ShOf (xs.map PrV.P) (r + 1) 0) from HMo.out.alloc _) hg9 (by simp; omega)
                    · show _ = _
                      exact (hg9.block wo.heap.size (by simp; omega) (by simp)).trans (((MapKept.heap_alloc wr _).2 _ hlto).trans HX.out)
                    · exact (show Below w.heap.size w _ by have hb := HBq.out; (repeat' (first | (with_reducible exact Below.refl _ _) | (with_reducible assumption) | (with_reducible refine Below.alloc ?_ ?_ _) | (with_reducible refine Below.drew ?_) | (with_reducible refine below_drewN ?_ _) | (with_reducible refine Below.setCell ?_ ?_ _) | (with_reducible exact Nat.le_refl _) | omega | (simp <;> omega)))).grown hg9 (by simp; omega) (fun j hj => by cases hj; omega)
                    · have := hg9.size
                      simp at this
                      omega
                  case measure => simp [intOf]; omega
              · obtain ⟨s, rfl⟩ : ∃ s, q = s + 1 := ⟨q - 1, by omega⟩
                have hpr := (Hpl.out s (by omega)).1
                rw [Hy.out] at hpr
                dsimp only at hpr
                obtain ⟨pb', poff', e', -, r0, -, -⟩ := (HP.out.below HBq.out).page_at (k := s) (by omega)
                injection e' with e'
                injection e' with e1 e2
                subst e1 e2
                obtain ⟨pn, hpn⟩ : ∃ z, (pgs.getD s PgD.zero).num = z := ⟨_, rfl⟩
                rw [hpn] at r0 hpr
                have b5 : decide (num ≤ pn) = false := by simp; omega
                have b6 : decide ((0 : Int) < (s : Int) + 1) = true := by simp <;> omega
                have w6 : IntKind.i64.wrap (s : Int) = s := IntWalk.i64_in _ (by omega)
                have hsM : (s : Int) < (M : Int) := by omega
                have hs0 : (0 : Int) ≤ (s : Int) := by omega
                clear hpn
                go_wp2_with fail
                go_big_quiet (fail)
                go_wp2_with (first
                  | (at_lookup; refine wpList_look_all rfl _ _ 118 rfl 4 (.bool false) Try.underlying118 zero4 rfl ((HMo.out.alloc _).heap rfl) rfl Hwf.out ?_ ?_)
                  | (at_mapUpdate; refine wpList_store_all rfl _ _ _ 118 rfl 4 Try.underlying118 rfl ((HMm.out.alloc _).heap rfl) rfl Hwf.out _ rfl (Pr' := FrOf pgs ((s + 1) + 1)) ⟨(s + 1), by omega, by rw [Hy.out]⟩ (fun _ _ _ h => h.more) (by unfold maxLen; omega) ?_; intro w9 hM9 hg9))
                · go_roundw
                  case rel =>
                    refine ⟨(s + 1) + 1, by omega, by go_num, ?_, hM9, ?_, ?_, ?_⟩
                    · show MapAll _ _ _ _
                      exact MapAll.grown (show MapAll ((wr.alloc (.cells #[.int .i64 num, .int .i64 fr, .bool sh] 98)).drewN nq) w.heap.size (16 * (r + 1)) (ShOf (xs.map PrV.P) (r + 1) 0) from HMo.out.alloc _) hg9 (by simp; omega)
                    · show _ = _
                      exact (hg9.block wo.heap.size (by simp; omega) (by simp)).trans (((MapKept.heap_alloc wr _).2 _ hlto).trans HX.out)
                    · exact (show Below w.heap.size w _ by have hb := HBq.out; (repeat' (first | (with_reducible exact Below.refl _ _) | (with_reducible assumption) | (with_reducible refine Below.alloc ?_ ?_ _) | (with_reducible refine Below.drew ?_) | (with_reducible refine below_drewN ?_ _) | (with_reducible refine Below.setCell ?_ ?_ _) | (with_reducible exact Nat.le_refl _) | omega | (simp <;> omega)))).grown hg9 (by simp; omega) (fun j hj => by cases hj; omega)
                    · have := hg9.size
                      simp at this
                      omega
                  case measure => simp [intOf]; omega
                · intro v hv
                  obtain ⟨rfl, hs1⟩ := Hsh.out v hv
                  subst hs1
                  go_wp2_with (first
                    | (at_mapUpdate; refine wpList_store_all rfl _ _ _ 118 rfl 4 Try.underlying118 rfl ((HMm.out.alloc _).heap rfl) rfl Hwf.out _ rfl (Pr' := FrOf pgs ((s + 1) + 1)) ⟨(s + 1), by omega, by rw [Hy.out]⟩ (fun _ _ _ h => h.more) (by unfold maxLen; omega) ?_; intro w9 hM9 hg9))
                  go_roundw
                  case rel =>
                    refine ⟨(s + 1) + 1, by omega, by go_num, ?_, hM9, ?_, ?_, ?_⟩
                    · show MapAll _ _ _ _
                      exact MapAll.grown (show MapAll ((wr.alloc (.cells #[.int .i64 num, .int .i64 fr, .bool true] 98)).drewN nq) w.heap.size (16 * (r + 1)) (ShOf (xs.map PrV.P) (r + 1) 0) from HMo.out.alloc _) hg9 (by simp; omega)
                    · show _ = _
                      exact (hg9.block wo.heap.size (by simp; omega) (by simp)).trans (((MapKept.heap_alloc wr _).2 _ hlto).trans HX.out)
                    · exact (show Below w.heap.size w _ by have hb := HBq.out; (repeat' (first | (with_reducible exact Below.refl _ _) | (with_reducible assumption) | (with_reducible refine Below.alloc ?_ ?_ _) | (with_reducible refine Below.drew ?_) | (with_reducible refine below_drewN ?_ _) | (with_reducible refine Below.setCell ?_ ?_ _) | (with_reducible exact Nat.le_refl _) | omega | (simp <;> omega)))).grown hg9 (by simp; omega) (fun j hj => by cases hj; omega)
                    · have := hg9.size
                      simp at this
                      omega
                  case measure => simp [intOf]; omega
            · have hqq : q = M := by omega
              have hqq' : (M : Int) ≤ (q : Int) := by omega
              have hqd : decide (q < M) = false := by simp <;> omega
              clear hqM HMm hqq
              have hHq := HP.out.below HBq.out
              obtain ⟨wp, rfl⟩ : ∃ wp : World, wp = wr := ⟨_, rfl⟩
              go_wp2_with fail
              go_loopw [142] (fun i wr => ∃ q : Nat, q ≤ M ∧ i = .int .i64 q ∧ Hid (MapAll wr w.heap.size (16 * (r + 1) + q) (ShOf (xs.map PrV.P) (r + 1) q)) ∧ Hid (Below w.heap.size w wr) ∧ w.heap.size < wr.heap.size) (fun i _ => M - (intOf i).toNat)
              case atStart => exact ⟨0, by omega, rfl, HMo.out, HBq.out, hltB⟩
              case round =>
                obtain ⟨u, hu, rfl, HM3, HB3, hlt3⟩ := hrel
                have hs3 := HB3.out.size
                by_cases huM : u < M
                · have huM' : (u : Int) < (M : Int) := by omega
                  have hu0 : (0 : Int) ≤ (u : Int) := by omega
                  have hul : u < pgs.length := by rw [HM.out]; exact huM
                  obtain ⟨-, -, f0, fN⟩ := pg_at HK.out (q := u) (by exact hul)
                  dsimp only at f0 fN
                  obtain ⟨pb, poff, hPA, hpb, p0, p1, p2⟩ := (HP.out.below HB3.out).page_at huM
                  obtain ⟨⟨num, fr, sh⟩, hy⟩ : ∃ y, pgs.getD u PgD.zero = y := ⟨_, rfl⟩
                  rw [hy] at p0 p1 p2 f0 fN
                  dsimp only at p0 p1 p2 f0 fN
                  have Hyq : Hid (((xs.map PrV.P).getD (r + 1) PrD.zero).pages.getD u PgD.zero = ⟨num, fr, sh⟩) := by
                    show _ = _
                    rw [Hmp.out]; exact hy
                  have Hqp : Hid (u < ((xs.map PrV.P).getD (r + 1) PrD.zero).pages.length) := by
                    show _ < _
                    rw [Hmp.out]; exact hul
                  have Hwf := Lib.hid (wf_i64 f0 (show fr ≤ 1000000 by omega))
                  subst hPA
                  clear hy
                  go_wp2_with (first
                    | (at_mapUpdate; refine wpList_store_all rfl _ _ _ 118 rfl 4 Try.underlying118 rfl (HM3.out.alloc _) rfl Hwf.out _ rfl (Pr' := ShOf (xs.map PrV.P) (r + 1) (u + 1)) (ShOf.mk Hqp.out Hyq.out) (fun _ _ _ h => h.next Hqp.out) (by unfold maxLen; omega) ?_; intro w9 hM9 hg9))
                  go_roundw
                  case rel =>
                    refine ⟨u + 1, by omega, by go_num, hM9, ?_, ?_⟩
                    · exact (show Below w.heap.size w _ by have hb := HB3.out; (repeat' (first | (with_reducible exact Below.refl _ _) | (with_reducible assumption) | (with_reducible refine Below.alloc ?_ ?_ _) | (with_reducible refine Below.drew ?_) | (with_reducible refine below_drewN ?_ _) | (with_reducible refine Below.setCell ?_ ?_ _) | (with_reducible exact Nat.le_refl _) | omega | (simp <;> omega)))).grown hg9 (by simp; omega) (fun j hj => by cases hj; omega)
                    · have := hg9.size
                      simp at this
                      omega
                  case measure => simp [intOf]; omega
                · have huu : u = M := by omega
                  have huu' : (M : Int) ≤ (u : Int) := by omega
                  have hud : decide (u < M) = false := by simp <;> omega
                  have Huu := Lib.hid huu
                  clear huM huu
                  go_wp2_with fail
                  go_roundw
                  case rel =>
                    refine ⟨(r + 1) + 1, by omega, by go_num, ?_, HB3.out, hlt3⟩
                    show MapAll _ _ _ _
                    have huu := Huu.out
                    subst huu
                    exact (HM3.out.imp fun f v hv => hv.prog (by rw [List.length_map, Hl.out]; exact hlt) (by rw [Hmp.out]; exact HM.out)).more (by omega)
                  case measure => simp [intOf]; omega
        · obtain rfl : M = 0 := by rw [← HM.out, HdM.out rfl]; rfl
          go_wp2_with fail
          go_big_quiet (fail)
          go_wp2_with fail
          obtain ⟨wo, rfl⟩ : ∃ wo : World, wo = wr := ⟨_, rfl⟩
          have HX0 : Hid ((wo.alloc (.cells #[.int .i64 id, .bool te, .bool true, .slice PA 0 Pc, .slice TA 0 Tc] 96)).heap[wo.heap.size]? = some (.cells #[.int .i64 id, .bool te, .bool true, .slice PA 0 Pc, .slice TA 0 Tc] 96)) := heap_new wo _
          go_loopw [72] (fun i wr => ∃ q : Nat, q ≤ 0 ∧ i = .int .i64 q ∧ Hid (MapAll wr w.heap.size (16 * (r + 1)) (ShOf (xs.map PrV.P) (r + 1) 0)) ∧ Hid (MapAll wr (wo.heap.size + 1) q (FrOf pgs q)) ∧ Hid (wr.heap[wo.heap.size]? = some (.cells #[.int .i64 id, .bool te, .bool true, .slice PA 0 Pc, .slice TA 0 Tc] 96)) ∧ Hid (Below w.heap.size w wr) ∧ wo.heap.size + 1 < wr.heap.size) (fun i _ => 0 - (intOf i).toNat)
          case atStart =>
            refine ⟨0, by omega, rfl, (HMA.out.alloc _).alloc _, ?_, ?_, ?_, by simp⟩
            · show MapAll _ _ _ _
              have := MapAll.made (wo.alloc (.cells #[.int .i64 id, .bool te, .bool true, .slice PA 0 Pc, .slice TA 0 Tc] 96)) (FrOf pgs 0)
              exact MapAll.heap (w := (wo.alloc (.cells #[.int .i64 id, .bool te, .bool true, .slice PA 0 Pc, .slice TA 0 Tc] 96)).alloc (.map #[] 0)) (by simpa using this) rfl
            · show _ = _
              exact ((MapKept.heap_alloc _ _).2 _ (by simp)).trans HX0.out
            · show Below _ _ _
              have hb := HB.out
              (repeat' (first | (with_reducible exact Below.refl _ _) | (with_reducible assumption) | (with_reducible refine Below.alloc ?_ ?_ _) | (with_reducible refine Below.drew ?_) | (with_reducible refine below_drewN ?_ _) | (with_reducible refine Below.setCell ?_ ?_ _) | (with_reducible exact Nat.le_refl _) | omega | (simp <;> omega)))
          case round =>
            obtain ⟨q, hq, rfl, HMo, HMm, HX, HBq, hltq⟩ := hrel
            have hsq := HBq.out.size
            have x3 := cell_of_heap HX.out (i := 3) rfl
            have hlto : wo.heap.size < wr.heap.size := by omega
            have hltB : w.heap.size < wr.heap.size := by omega
            by_cases hqM : q < 0
            · exact absurd hqM (by omega)
            · have hqq : q = 0 := by omega
              have hqq' : (0 : Int) ≤ (q : Int) := by omega
              have hqd : decide (q < 0) = false := by simp <;> omega
              clear hqM HMm hqq
              have hHq := HP.out.below HBq.out
              obtain ⟨wp, rfl⟩ : ∃ wp : World, wp = wr := ⟨_, rfl⟩
              go_wp2_with fail
              go_loopw [142] (fun i wr => ∃ q : Nat, q ≤ 0 ∧ i = .int .i64 q ∧ Hid (MapAll wr w.heap.size (16 * (r + 1) + q) (ShOf (xs.map PrV.P) (r + 1) q)) ∧ Hid (Below w.heap.size w wr) ∧ w.heap.size < wr.heap.size) (fun i _ => 0 - (intOf i).toNat)
              case atStart => exact ⟨0, by omega, rfl, HMo.out, HBq.out, hltB⟩
              case round =>
                obtain ⟨u, hu, rfl, HM3, HB3, hlt3⟩ := hrel
                have hs3 := HB3.out.size
                by_cases huM : u < 0
                · exact absurd huM (by omega)
                · have huu : u = 0 := by omega
                  have huu' : (0 : Int) ≤ (u : Int) := by omega
                  have hud : decide (u < 0) = false := by simp <;> omega
                  have Huu := Lib.hid huu
                  clear huM huu
                  go_wp2_with fail
                  go_roundw
                  case rel =>
                    refine ⟨(r + 1) + 1, by omega, by go_num, ?_, HB3.out, hlt3⟩
                    show MapAll _ _ _ _
                    have huu := Huu.out
                    subst huu
                    exact (HM3.out.imp fun f v hv => hv.prog (by rw [List.length_map, Hl.out]; exact hlt) (by rw [Hmp.out]; exact HM.out)).more (by omega)
                  case measure => simp [intOf]; omega
    · have hkn' : (n : Int) ≤ (k : Int) := by omega
      clear hlt
      go_wp2_with fail
      go_ret
      exact ⟨rfl, HB.out⟩
end Go.Proofs.Ytjlmgjpnfppkoaa
