/-
  Programs, walked: copies (the reference).
-/
import Derived.LoopTactic
import Derived.Deep.AppendLies
import Derived.Deep.RegionLaw
import Derived.Test.YtjlmgjpnfppkoaaPgUse
import Derived.Test.YtjlmgjpnfppkoaaLines
namespace Go.Proofs.Ytjlmgjpnfppkoaa
open Go.RowKit
attribute [local go_sem ↓] Go.wp_at_zero Go.wp_at_succ

theorem info98 : (Try.prog.info? 98).map (fun i => (i.zero, i.size, i.bytes)) = some (some (.agg #[.int .i64 0, .int .i64 0, .bool false]), 3, 24) := by kernel_rfl
theorem info3p : (Try.prog.info? 3).map (fun i => (i.zero, i.size, i.bytes)) = some (some (.int .i64 0), 1, 8) := by kernel_rfl

set_option maxRecDepth 100000 in
set_option maxHeartbeats 8000000 in
theorem copyone_any (id : Int) (te de : Bool) (PA : Option Addr) (M Pc : Nat) (pgs : List PgD) (TA : Option Addr) (TN Tc : Nat) (told : List Int) (w : World) (h : Has w PA M 3 (pgVals pgs)) (ht : Has w TA TN 1 (numVals told)) (hM : M ≤ 1000) (hT : TN ≤ 1000) :
    Calls Try.prog 106 #[.agg #[.int .i64 id, .bool te, .bool de, .slice PA M Pc, .slice TA TN Tc]] w fun e w' => ∃ A' c' TA' Tc', e = .returned (.agg #[.int .i64 id, .bool te, .bool de, .slice A' M c', .slice TA' TN Tc']) ∧
      w'.ownsRow w.heap.size 98 3 (.slice A' M c') M (pgVals pgs) ∧ w'.ownsRow w.heap.size 3 1 (.slice TA' TN Tc') TN (numVals told) ∧ Below w.heap.size w w' := by
  have HP := Lib.hid h
  have HT := Lib.hid ht
  clear h ht
  go_enter Try.func106, Try.ntmps106
  go_wp2_with fail
  go_region_law (first
    | ((refine step_copy_has _ (by rfl) (.const (.slice none 0 0)) (.tmp 4) 94 (by rfl) (w.heap.size + 1 + 1) 98 _ 3 24 info98 Try.underlying94 rfl (by decide) (.slice none 0 0) (by rfl) (World.ownsRow_nil _ _ _ _) PA M Pc (pgVals pgs) (by rfl) (HP.out.below (by (repeat' (first | (with_reducible exact Below.refl _ _) | (with_reducible assumption) | (with_reducible refine Below.alloc ?_ ?_ _) | (with_reducible refine Below.drew ?_) | (with_reducible refine below_drewN ?_ _) | (with_reducible refine Below.setCell ?_ ?_ _) | (with_reducible exact Nat.le_refl _) | omega | (simp <;> omega))))) (pgVals_one _) (by omega) (by omega) (by (first | (with_reducible exact Nat.le_refl _) | (with_reducible assumption) | omega | (simp <;> omega))) ?_); intro A5 c5 w5 hown5 hb5; have hs5 := hb5.size; (try simp only [World.size_alloc, World.size_drew] at hs5); have hB5 := (show Below w.heap.size w _ by (repeat' (first | (with_reducible exact Below.refl _ _) | (with_reducible assumption) | (with_reducible refine Below.alloc ?_ ?_ _) | (with_reducible refine Below.drew ?_) | (with_reducible refine below_drewN ?_ _) | (with_reducible refine Below.setCell ?_ ?_ _) | (with_reducible exact Nat.le_refl _) | omega | (simp <;> omega)))).trans (hb5.mono (show w.heap.size ≤ _ by (first | (with_reducible exact Nat.le_refl _) | (with_reducible assumption) | omega | (simp <;> omega)))); obtain ⟨q50, r50⟩ := bkeep hb5 w.heap.size (by (first | (with_reducible exact Nat.le_refl _) | (with_reducible assumption) | omega | (simp <;> omega))); obtain ⟨q51, r51⟩ := bkeep hb5 (w.heap.size + 1) (by (first | (with_reducible exact Nat.le_refl _) | (with_reducible assumption) | omega | (simp <;> omega))); have l5 : w.heap.size + 1 < w5.heap.size := (by omega); have l5' : w.heap.size < w5.heap.size := (by omega))
    | ((refine step_copy_has _ (by rfl) (.const (.slice none 0 0)) (.tmp 7) 23 (by rfl) w5.heap.size 3 _ 1 8 info3p Try.underlying23 rfl (by decide) (.slice none 0 0) (by rfl) (World.ownsRow_nil _ _ _ _) TA TN Tc (numVals told) (by rfl) (HT.out.below (by (repeat' (first | (with_reducible exact Below.refl _ _) | (with_reducible assumption) | (with_reducible refine Below.alloc ?_ ?_ _) | (with_reducible refine Below.drew ?_) | (with_reducible refine below_drewN ?_ _) | (with_reducible refine Below.setCell ?_ ?_ _) | (with_reducible exact Nat.le_refl _) | omega | (simp <;> omega))))) (numVals_one _) (by omega) (by omega) (by (first | (with_reducible exact Nat.le_refl _) | (with_reducible assumption) | omega | (simp <;> omega))) ?_); intro A8 c8 w8 hown8 hb8; have hs8 := hb8.size; have hown58 := ownsRow_below hown5 hb8; (try simp only [World.size_alloc, World.size_drew] at hs8); have hB8 := (show Below w.heap.size w _ by (repeat' (first | (with_reducible exact Below.refl _ _) | (with_reducible assumption) | (with_reducible refine Below.alloc ?_ ?_ _) | (with_reducible refine Below.drew ?_) | (with_reducible refine below_drewN ?_ _) | (with_reducible refine Below.setCell ?_ ?_ _) | (with_reducible exact Nat.le_refl _) | omega | (simp <;> omega)))).trans (hb8.mono (show w.heap.size ≤ _ by (first | (with_reducible exact Nat.le_refl _) | (with_reducible assumption) | omega | (simp <;> omega)))); have l8 : w.heap.size + 1 < w8.heap.size := (by omega); have l8' : w.heap.size < w8.heap.size := (by omega); obtain ⟨q80, r80⟩ := bkeep hb8 w.heap.size (by (first | (with_reducible exact Nat.le_refl _) | (with_reducible assumption) | omega | (simp <;> omega))); obtain ⟨q81, r81⟩ := bkeep hb8 (w.heap.size + 1) (by (first | (with_reducible exact Nat.le_refl _) | (with_reducible assumption) | omega | (simp <;> omega)))))
  all_goals (go_wp2_with fail)
  all_goals
    refine bodyPost_ret (v := .agg #[.int .i64 id, .bool te, .bool de, .slice A5 M c5, .slice A8 TN c8]) (by simp [results, Try.results106, go_sem, *]) rfl ?_
    have ho5 := ownsRow_base hown58 (show w.heap.size + 1 + 1 ≤ w.heap.size + 1 + 1 by omega)
    have ho8 := ownsRow_base hown8 (show w.heap.size + 1 + 1 ≤ w5.heap.size by omega)
    refine ⟨A5, c5, A8, c8, rfl, ownsRow_base (B := w.heap.size + 1 + 1) ?_ (by omega), ownsRow_base (B := w.heap.size + 1 + 1) ?_ (by omega), by (repeat' (first | (with_reducible exact Below.refl _ _) | (with_reducible assumption) | (with_reducible refine Below.alloc ?_ ?_ _) | (with_reducible refine Below.drew ?_) | (with_reducible refine below_drewN ?_ _) | (with_reducible refine Below.setCell ?_ ?_ _) | (with_reducible exact Nat.le_refl _) | omega | (simp <;> omega)))⟩
    · (repeat' (first | (with_reducible assumption) | (with_reducible refine own_put ?_ ?_ _) | (with_reducible refine own_new ?_ _) | (with_reducible refine own_drew ?_) | (with_reducible refine own_drewN ?_ _) | omega))
    · (repeat' (first | (with_reducible assumption) | (with_reducible refine own_put ?_ ?_ _) | (with_reducible refine own_new ?_ _) | (with_reducible refine own_drew ?_) | (with_reducible refine own_drewN ?_ _) | omega))

/-- No two programs' pages lie in one block. -/
def ApartA (a b : Option Addr) : Prop := ∀ p q, a = some p → b = some q → p.block ≠ q.block
def Apart (ys : List PrV) : Prop := ys.Pairwise fun x y => ApartA x.A y.A
theorem Apart.snoc {ys : List PrV} (h : Apart ys) {y : PrV} (hy : ∀ x ∈ ys, ApartA x.A y.A) : Apart (ys ++ [y]) := by
  refine List.pairwise_append.2 ⟨h, List.pairwise_singleton _ _, fun x hx z hz => ?_⟩
  have : z = y := by simpa using hz
  subst this
  exact hy x hx
theorem info96 : (Try.prog.info? 96).map (fun i => (i.zero, i.size, i.bytes)) = some (some (.agg #[.int .i64 0, .bool false, .bool false, .slice none 0 0, .slice none 0 0]), 5, 64) := by kernel_rfl

/-- One program more, in a region in order. -/
theorem wpList_append_prog {w : World} {ops : Array Oper} {rest : List Oper} {o : Oper} {a : Act} {Q : Exit → Act → World → Prop} (hgd : o.guard = none) (s x : Operand)
    (ho : o.op = .call { callee := .builtin .append, args := #[s, x], argTypes := #[41, 41] })
    (base : Nat) (v : Value) (ys : List PrV) (hs : a.eval s = v) (hO : OwnProgs w base v ys)
    (A : Option Addr) (c : Nat) (y : PrV) (hx : a.eval x = .slice A 1 c) (hr : Has w A 1 5 (progVals [y]))
    (hy : w.ownsRow base 98 3 (.slice y.A y.P.pages.length y.c) y.P.pages.length (pgVals y.P.pages)) (hy2 : w.ownsRow base 3 1 (.slice y.TA y.P.told.length y.Tc) y.P.told.length (numVals y.P.told)) (hn : ys.length ≤ 1048576) (hbase : base ≤ w.heap.size)
    (h : ∀ v' w', OwnProgs w' base v' (ys ++ [y]) → Below base w w' → wpList Try.prog ops Q rest (a.put o.dst v') w') : wpList Try.prog ops Q (o :: rest) a w := by
  obtain ⟨i, hi, hz0, hz1, hz2⟩ := info_parts info96
  refine wpList_append_has w hgd s x 41 ho base 96 i _ 5 64 Try.underlying41 hi hz0 hz1 hz2 rfl (by decide) v ys.length (progVals ys) hs hO.2.1 A 1 c (progVals [y]) hx hr (progVals_one _) (by unfold maxLen; omega) (by omega) hbase ?_
  intro v' w' h2 h3 _
  refine h v' w' ⟨?_, ?_, ?_⟩ ((Below.refl base w).grown h3 hbase fun k hk => (hO.2.1.lt k hk).1)
  · obtain ⟨A', c', hv, _⟩ := own_form h2
    exact ⟨A', c', by rw [hv]; simp⟩
  · rw [progVals_append]; simpa using h2
  · intro z hz
    rcases List.mem_append.1 hz with hz | hz
    · exact ⟨(hO.2.2 z hz).1.kept h3 (rows_apart (hO.2.2 z hz).1 hO.2.1 (by decide)), (hO.2.2 z hz).2.kept h3 (rows_apart (hO.2.2 z hz).2 hO.2.1 (by decide))⟩
    · have : z = y := by simpa using hz
      subst this
      exact ⟨hy.kept h3 (rows_apart hy hO.2.1 (by decide)), hy2.kept h3 (rows_apart hy2 hO.2.1 (by decide))⟩

theorem own_at {w : World} {B e sz n c : Nat} {A : Option Addr} {xs : List Value} (h : w.ownsRow B e sz (.slice A n c) n xs) : ∀ p, A = some p → B ≤ p.block ∧ p.block < w.heap.size := by
  intro p hp
  obtain ⟨A', c', hv, hb⟩ := own_form h
  injection hv with h1
  subst h1
  exact hb p hp

set_option maxRecDepth 100000 in
set_option maxHeartbeats 8000000 in
theorem rcopyprogs_any (A : Option Addr) (n c : Nat) (xs : List PrV) (w : World) (h : IsProgs w A n xs) (hs : Small xs) :
    Calls Try.prog 101 #[.slice A n c] w fun e w' => ∃ v ys, e = .returned v ∧ ys.map PrV.P = xs.map PrV.P ∧ OwnProgs w' w.heap.size v ys ∧ Apart ys ∧ Below w.heap.size w w' := by
  have Hl := Lib.hid h.len
  have HI := Lib.hid h
  have HS := Lib.hid hs
  have hn : n ≤ 1000 := by have := h.len; have := hs.1; omega
  clear h hs
  go_enter Try.func101, Try.ntmps101
  go_wp2_with fail
  go_loopw [3, 8] (fun v i wr => ∃ (k : Nat) (ys : List PrV), k ≤ n ∧ i = .int .i64 k ∧ Hid (ys.map PrV.P = (xs.map PrV.P).take k) ∧ Hid (OwnProgs wr w.heap.size v ys) ∧ Hid (Apart ys) ∧ Below w.heap.size w wr) (fun _ i _ => n - (intOf i).toNat)
  case atStart => exact ⟨0, [], by omega, rfl, by show _ = _; simp, OwnProgs.nil_ _ _, List.Pairwise.nil, Below.refl _ _⟩
  case round =>
    obtain ⟨k, ys, hk, rfl, Hy, HO, HA, hB⟩ := hrel
    have hsz := hB.size
    by_cases hlt : k < n
    · obtain ⟨b, off, rfl, hb, d0, d1, d2, d3, d4, hP, hT⟩ := HI.out.at_ hlt
      have g0 := cellK hB hb d0
      have g1 := cellK hB hb d1
      have g2 := cellK hB hb d2
      have g3 := cellK hB hb d3
      have g4 := cellK hB hb d4
      have hkl : k < xs.length := by rw [Hl.out]; exact hlt
      obtain ⟨hpl, htl⟩ := HS.out.at_ hkl
      have hpe := map_getD hkl
      obtain ⟨x, hx⟩ : ∃ x, xs.getD k PrV.zero = x := ⟨_, rfl⟩
      rw [hx] at g0 g1 g2 g3 g4 hP hT hpl htl hpe
      obtain ⟨⟨id, te, de, pgs, told⟩, PA, Pc, TA, Tc⟩ := x
      dsimp only at g0 g1 g2 g3 g4 hP hT hpl htl hpe
      obtain ⟨M, hM⟩ : ∃ M, pgs.length = M := ⟨_, rfl⟩
      obtain ⟨TN, hTN⟩ : ∃ TN, told.length = TN := ⟨_, rfl⟩
      rw [hM] at g3 hP hpl
      rw [hTN] at g4 hT htl
      have HM := Lib.hid hM
      have HTN := Lib.hid hTN
      have HP := Lib.hid (hP.below hB)
      have HT := Lib.hid (hT.below hB)
      have Hpe := Lib.hid hpe
      have hyl : ys.length ≤ 1048576 := by
        have := congrArg List.length Hy.out
        simp at this
        omega
      have Hyl := Lib.hid hyl
      have hlt' : (k : Int) < (n : Int) := by omega
      clear d0 d1 d2 d3 d4 hx hM hTN hP hT hpe hyl
      go_wp2_with fail
      refine (copyone_any id te de PA M Pc pgs TA TN Tc told _ (HP.out.below (by (repeat' (first | (with_reducible exact Below.refl _ _) | (with_reducible assumption) | (with_reducible refine Below.alloc ?_ ?_ _) | (with_reducible refine Below.drew ?_) | (with_reducible refine below_drewN ?_ _) | (with_reducible refine Below.setCell ?_ ?_ _) | (with_reducible exact Nat.le_refl _) | omega | (simp <;> omega))))) (HT.out.below (by (repeat' (first | (with_reducible exact Below.refl _ _) | (with_reducible assumption) | (with_reducible refine Below.alloc ?_ ?_ _) | (with_reducible refine Below.drew ?_) | (with_reducible refine below_drewN ?_ _) | (with_reducible refine Below.setCell ?_ ?_ _) | (with_reducible exact Nat.le_refl _) | omega | (simp <;> omega))))) hpl htl).mono ?_
      rintro e w5 ⟨A5, c5, TA5, Tc5, rfl, hp5, ht5, hb5⟩
      have hs5 := hb5.size
      simp only [World.size_alloc] at hs5
      have hO5 := HO.out.below ((show Below wr.heap.size wr _ by (repeat' (first | (with_reducible exact Below.refl _ _) | (with_reducible assumption) | (with_reducible refine Below.alloc ?_ ?_ _) | (with_reducible refine Below.drew ?_) | (with_reducible refine below_drewN ?_ _) | (with_reducible refine Below.setCell ?_ ?_ _) | (with_reducible exact Nat.le_refl _) | omega | (simp <;> omega)))).trans (hb5.mono (show wr.heap.size ≤ _ by (first | (with_reducible exact Nat.le_refl _) | (with_reducible assumption) | omega | (simp <;> omega)))))
      have HB5 := Lib.hid (hB.trans (((show Below wr.heap.size wr _ by (repeat' (first | (with_reducible exact Below.refl _ _) | (with_reducible assumption) | (with_reducible refine Below.alloc ?_ ?_ _) | (with_reducible refine Below.drew ?_) | (with_reducible refine below_drewN ?_ _) | (with_reducible refine Below.setCell ?_ ?_ _) | (with_reducible exact Nat.le_refl _) | omega | (simp <;> omega)))).trans (hb5.mono (show wr.heap.size ≤ _ by (first | (with_reducible exact Nat.le_refl _) | (with_reducible assumption) | omega | (simp <;> omega))))).mono hsz))
      have hap : ∀ x ∈ ys, ApartA x.A A5 := by
        intro x hx p q hp hq
        have h1 := (own_at (HO.out.2.2 x hx).1 p hp).2
        have h2 := (own_at hp5 q hq).1
        simp at h2
        omega
      have HAp := Lib.hid (HA.out.snoc (y := ⟨⟨id, te, de, pgs, told⟩, A5, c5, TA5, Tc5⟩) hap)
      have HO5 := Lib.hid hO5
      have hp5' := ownsRow_base hp5 (show w.heap.size ≤ _ by (first | (with_reducible exact Nat.le_refl _) | (with_reducible assumption) | omega | (simp <;> omega)))
      have ht5' := ownsRow_base ht5 (show w.heap.size ≤ _ by (first | (with_reducible exact Nat.le_refl _) | (with_reducible assumption) | omega | (simp <;> omega)))
      rw [← HM.out] at hp5'
      rw [← HTN.out] at ht5'
      have Hp5 := Lib.hid hp5'
      have Ht5 := Lib.hid ht5'
      rw [← HM.out, ← HTN.out]
      clear hb5 hO5 hp5 ht5 hp5' ht5' hap
      go_wp2_with (first
        | (at_builtin; refine wpList_append_prog rfl (.tmp 12) (.tmp 15) rfl w.heap.size _ ys rfl (HO5.out.alloc _) _ _ ⟨⟨id, te, de, pgs, told⟩, A5, c5, TA5, Tc5⟩ rfl (Has.lit_at _ _ _ 1 5 _ _ rfl (by (first | (with_reducible exact Nat.le_refl _) | (with_reducible assumption) | omega | (simp <;> omega))) rfl) (own_new Hp5.out _) (own_new Ht5.out _) Hyl.out (by (first | (with_reducible exact Nat.le_refl _) | (with_reducible assumption) | omega | (simp <;> omega))) ?_; intro v7 w7 hO7 hb7))
      go_roundw
      case rel =>
        have hb5 := HB5.out
        refine ⟨k + 1, ys ++ [⟨⟨id, te, de, pgs, told⟩, A5, c5, TA5, Tc5⟩], by omega, by go_num, ?_, (show OwnProgs w7 w.heap.size v7 _ from hO7), (show Apart _ from HAp.out), (show Below w.heap.size w _ by (repeat' (first | (with_reducible exact Below.refl _ _) | (with_reducible assumption) | (with_reducible refine Below.alloc ?_ ?_ _) | (with_reducible refine Below.drew ?_) | (with_reducible refine below_drewN ?_ _) | (with_reducible refine Below.setCell ?_ ?_ _) | (with_reducible exact Nat.le_refl _) | omega | (simp <;> omega)))).trans hb7⟩
        show _ = _
        have hkl' : k < (xs.map PrV.P).length := by rw [List.length_map]; exact hkl
        rw [List.map_append, Hy.out, List.take_add_one, List.getElem?_eq_getElem hkl']
        have := Hpe.out
        rw [List.getD, List.getElem?_eq_getElem hkl'] at this
        simp only [Option.getD_some] at this
        rw [this]
        rfl
      case measure => simp [intOf]; omega
    · have hkn : k = n := by omega
      subst hkn
      clear hlt
      go_wp2_with fail
      go_ret
      refine ⟨_, ys, rfl, ?_, HO.out, HA.out, hB⟩
      rw [Hy.out, List.take_of_length_le (by rw [List.length_map, Hl.out]; exact Nat.le_refl _)]
end Go.Proofs.Ytjlmgjpnfppkoaa
