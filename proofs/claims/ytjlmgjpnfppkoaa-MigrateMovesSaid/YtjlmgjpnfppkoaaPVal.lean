/-
  Programs, walked: one valid program is found valid (the given code).
-/
import Derived.LoopTactic
import Derived.IntWalk
import Derived.Test.YtjlmgjpnfppkoaaMapV
import Derived.Test.YtjlmgjpnfppkoaaPgMath
namespace Go.Proofs.Ytjlmgjpnfppkoaa
open Go.RowKit
attribute [local go_sem ↓] Go.wp_at_zero Go.wp_at_succ

theorem und118 : Try.prog.underlying 118 = some (.map 3 4) := Try.underlying118
/-- The frames of the first q pages. -/
def FrOf (pgs : List PgD) (q : Nat) (f : Int) (_ : Value) : Prop := ∃ j, j < q ∧ (pgs.getD j PgD.zero).fr = f
theorem FrOf.more {pgs : List PgD} {q : Nat} {f : Int} {v : Value} (h : FrOf pgs q f v) : FrOf pgs (q + 1) f v := by
  obtain ⟨j, hj, e⟩ := h
  exact ⟨j, by omega, e⟩
theorem pg_at {N : Int} {p : PrD} (h : ProgOk N p) {q : Nat} (hq : q < p.pages.length) : 0 ≤ (p.pages.getD q PgD.zero).num ∧ (p.pages.getD q PgD.zero).num ≤ 999 ∧ 0 ≤ (p.pages.getD q PgD.zero).fr ∧ (p.pages.getD q PgD.zero).fr < N := by
  have hm : p.pages.getD q PgD.zero ∈ p.pages := by
    simp only [List.getD, List.getElem?_eq_getElem hq]
    exact List.getElem_mem hq
  exact h.2.2.2.2.2.1 _ hm
theorem pg_lt {N : Int} {p : PrD} (h : ProgOk N p) {i q : Nat} (hi : i < q) (hq : q < p.pages.length) : (p.pages.getD i PgD.zero).num < (p.pages.getD q PgD.zero).num ∧ (p.pages.getD i PgD.zero).fr ≠ (p.pages.getD q PgD.zero).fr := by
  have := List.pairwise_iff_getElem.1 h.2.2.2.2.2.2 i q (by omega) hq hi
  have hi' : i < p.pages.length := by omega
  simpa [List.getD, List.getElem?_eq_getElem hq, List.getElem?_eq_getElem hi'] using this

set_option maxRecDepth 100000 in
set_option maxHeartbeats 4000000 in
theorem pvalid_any (id : Int) (te de : Bool) (PA : Option Addr) (M Pc : Nat) (pgs : List PgD) (TA : Option Addr) (Tc : Nat) (N : Int) (w : World) (h : Has w PA M 3 (pgVals pgs)) (ok : ProgOk N ⟨id, te, de, pgs, []⟩) (hN : N ≤ 1000000) :
    Calls Try.prog 92 #[.agg #[.int .i64 id, .bool te, .bool de, .slice PA M Pc, .slice TA 0 Tc], .int .i64 N] w fun e w' => e = .returned (.bool true) ∧ Below w.heap.size w w' := by
  have HP := Lib.hid h
  have HM := Lib.hid h.pages
  have HK := Lib.hid ok
  have hM16 : M ≤ 16 := by have := ok.2.2.2.1; dsimp only at this; rw [HM.out] at this; exact this
  have hM16' : (M : Int) ≤ 16 := by omega
  obtain ⟨id1, id9, -, -, hdM, -, -⟩ := ok
  dsimp only at id1 id9 hdM
  have HdM := Lib.hid hdM
  clear h hdM
  have hmm := @run_makeMap Try.prog
  go_enter Try.func92, Try.ntmps92
  go_wp2_with fail
  go_loopw [12] (fun i wr => ∃ q : Nat, q ≤ M ∧ i = .int .i64 q ∧ Hid (MapAll wr (w.heap.size + 1) q (FrOf pgs q)) ∧ Hid (wr.heap[w.heap.size]? = some (.cells #[.int .i64 id, .bool te, .bool de, .slice PA M Pc, .slice TA 0 Tc] 96)) ∧ Hid (Below w.heap.size w wr) ∧ w.heap.size + 1 < wr.heap.size) (fun i _ => M - (intOf i).toNat)
  case atStart =>
    refine ⟨0, by omega, rfl, ?_, ?_, ?_, by simp⟩
    · show MapAll _ _ _ _
      have := MapAll.made (w.alloc (.cells #[.int .i64 id, .bool te, .bool de, .slice PA M Pc, .slice TA 0 Tc] 96)) (FrOf pgs 0)
      simpa using this
    · show _ = _
      exact heap_below (heap_new w _) ((Below.refl _ _).alloc (Nat.le_refl _) _) (by simp)
    · show Below _ _ _
      (repeat' (first | (with_reducible exact Below.refl _ _) | (with_reducible assumption) | (with_reducible refine Below.alloc ?_ ?_ _) | (with_reducible refine Below.drew ?_) | (with_reducible refine below_drewN ?_ _) | (with_reducible refine Below.setCell ?_ ?_ _) | (with_reducible exact Nat.le_refl _) | omega | (simp <;> omega)))
  case round =>
    obtain ⟨q, hq, rfl, HMA, HX, HB, hlt1⟩ := hrel
    have hs := HB.out.size
    have x0 := cell_of_heap HX.out (i := 0) rfl
    have x1 := cell_of_heap HX.out (i := 1) rfl
    have x2 := cell_of_heap HX.out (i := 2) rfl
    have x3 := cell_of_heap HX.out (i := 3) rfl
    have x4 := cell_of_heap HX.out (i := 4) rfl
    have hlt0 : w.heap.size < wr.heap.size := by omega
    by_cases hqM : q < M
    · have hqM' : (q : Int) < (M : Int) := by omega
      have hq0 : (0 : Int) ≤ (q : Int) := by omega
      have hql : q < pgs.length := by rw [HM.out]; exact hqM
      obtain ⟨a0, a9, f0, fN⟩ := pg_at HK.out (q := q) (by exact hql)
      have hpl := fun i (hi : i < q) => pg_lt HK.out hi (by exact hql)
      dsimp only at a0 a9 f0 fN hpl
      have HP' := HP.out.below HB.out
      obtain ⟨pb, poff, rfl, hpb, p0, p1, p2⟩ := HP'.page_at hqM
      have hlook : ∀ (o : Obj) (j : Nat), (Instr.lookup 118 (.map (some (w.heap.size + 1))) (.int .i64 (pgs.getD q PgD.zero).fr) false).run Try.prog ((wr.alloc o).drewN j) = .ok (.bool false) ((wr.alloc o).drewN j) := by
        intro o j
        rcases HMA.out.look (t := 118) (e := 4) (f := (pgs.getD q PgD.zero).fr) Try.underlying118 zero4 (wf_i64 f0 (by omega)) false with hr | ⟨v, ⟨i, hi, he⟩, _⟩
        · have := hr ((wr.alloc o).drewN j) (by show (wr.alloc o).heap[w.heap.size + 1]? = _; exact (MapKept.heap_alloc wr o).2 _ hlt1)
          simpa using this
        · exact absurd he (hpl i hi).2
      have Hpl := Lib.hid hpl
      obtain ⟨⟨num, fr, sh⟩, hy⟩ : ∃ y, pgs.getD q PgD.zero = y := ⟨_, rfl⟩
      rw [hy] at p0 p1 p2 a0 a9 f0 fN hlook
      dsimp only at p0 p1 p2 a0 a9 f0 fN hlook
      have Hy := Lib.hid hy
      have hwf : (Lit.int .i64 fr).wf = true := wf_i64 f0 (by omega)
      have Hwf := Lib.hid hwf
      clear hy HP' hpl hwf
      have d1 : decide (num < 0) = false := by simp; omega
      have d2 : decide (999 < num) = false := by simp; omega
      have d3 : decide (fr < 0) = false := by simp; omega
      have d4 : decide (N ≤ fr) = false := by simp; omega
      rcases Nat.eq_zero_or_pos q with hqz | hqp
      · subst hqz
        simp only [Nat.zero_mul, Nat.add_zero] at p0 p1 p2
        simp only [show ((0 : Nat) : Int) = 0 from rfl]
        go_wp2_with fail
        go_big_quiet (fail)
        go_wp2_with (first
          | (at_mapUpdate; refine wpList_store_all rfl _ _ _ 118 rfl 4 Try.underlying118 rfl ((HMA.out.alloc _).heap rfl) rfl Hwf.out _ rfl (Pr' := FrOf pgs 1) ⟨0, by omega, by rw [Hy.out]⟩ (fun _ _ _ h => h.more) (by unfold maxLen; omega) ?_; intro w9 hM9 hg9))
        go_roundw
        case rel =>
          refine ⟨1, by omega, by go_num, hM9, ?_, ?_, ?_⟩
          · show _ = _
            exact (hg9.block w.heap.size (by simp; omega) (by simp)).trans (((MapKept.heap_alloc wr _).2 _ hlt0).trans HX.out)
          · exact (show Below w.heap.size w _ by have hb := HB.out; (repeat' (first | (with_reducible exact Below.refl _ _) | (with_reducible assumption) | (with_reducible refine Below.alloc ?_ ?_ _) | (with_reducible refine Below.drew ?_) | (with_reducible refine below_drewN ?_ _) | (with_reducible refine Below.setCell ?_ ?_ _) | (with_reducible exact Nat.le_refl _) | omega | (simp <;> omega)))).grown hg9 (by simp; omega) (fun j hj => by cases hj; omega)
          · have := hg9.size
            simp at this
            omega
        case measure => simp [intOf]; omega
      · obtain ⟨r, rfl⟩ : ∃ r, q = r + 1 := ⟨q - 1, by omega⟩
        have hpr := (Hpl.out r (by omega)).1
        rw [Hy.out] at hpr
        dsimp only at hpr
        obtain ⟨pb', poff', e', -, r0, -, -⟩ := (HP.out.below HB.out).page_at (k := r) (by omega)
        injection e' with e'
        injection e' with e1 e2
        subst e1 e2
        obtain ⟨pn, hpn⟩ : ∃ z, (pgs.getD r PgD.zero).num = z := ⟨_, rfl⟩
        rw [hpn] at r0 hpr
        have d5 : decide (num ≤ pn) = false := by simp; omega
        have w5 : IntKind.i64.wrap (r : Int) = r := IntWalk.i64_in _ (by omega)
        have hrM : (r : Int) < (M : Int) := by omega
        have hr0 : (0 : Int) ≤ (r : Int) := by omega
        clear hpn
        go_wp2_with fail
        go_big_quiet (fail)
        go_wp2_with (first
          | (at_mapUpdate; refine wpList_store_all rfl _ _ _ 118 rfl 4 Try.underlying118 rfl ((HMA.out.alloc _).heap rfl) rfl Hwf.out _ rfl (Pr' := FrOf pgs (r + 1 + 1)) ⟨r + 1, by omega, by rw [Hy.out]⟩ (fun _ _ _ h => h.more) (by unfold maxLen; omega) ?_; intro w9 hM9 hg9))
        go_roundw
        case rel =>
          refine ⟨r + 1 + 1, by omega, by go_num, hM9, ?_, ?_, ?_⟩
          · show _ = _
            exact (hg9.block w.heap.size (by simp; omega) (by simp)).trans (((MapKept.heap_alloc wr _).2 _ hlt0).trans HX.out)
          · exact (show Below w.heap.size w _ by have hb := HB.out; (repeat' (first | (with_reducible exact Below.refl _ _) | (with_reducible assumption) | (with_reducible refine Below.alloc ?_ ?_ _) | (with_reducible refine Below.drew ?_) | (with_reducible refine below_drewN ?_ _) | (with_reducible refine Below.setCell ?_ ?_ _) | (with_reducible exact Nat.le_refl _) | omega | (simp <;> omega)))).grown hg9 (by simp; omega) (fun j hj => by cases hj; omega)
          · have := hg9.size
            simp at this
            omega
        case measure => simp [intOf]; omega
    · have hMq : M ≤ q := by omega
      have hMq' : (M : Int) ≤ (q : Int) := by omega
      have d1 : decide (1 ≤ id) = true := by simp; omega
      have d2 : decide (id ≤ 999) = true := by simp; omega
      have d3 : decide ((M : Int) ≤ 16) = true := by simp; omega
      clear hqM
      cases de
      · go_wp2_with fail
        go_ret
        exact ⟨rfl, HB.out⟩
      · have hM0 : M = 0 := by rw [← HM.out, HdM.out rfl]; rfl
        subst hM0
        go_wp2_with fail
        go_ret
        exact ⟨rfl, HB.out⟩
end Go.Proofs.Ytjlmgjpnfppkoaa
