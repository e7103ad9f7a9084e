/-
  Programs, walked: the program's copy of a list of programs.
-/
import Derived.LoopTactic
import Derived.Test.YtjlmgjpnfppkoaaOwClone
namespace Go.Proofs.Ytjlmgjpnfppkoaa
open Go.RowKit
attribute [local go_sem ↓] Go.wp_at_zero Go.wp_at_succ

theorem progVals_set34 (xs : List PrV) : ∀ (i : Nat) (y : PrV), i < xs.length → y.P = (xs.getD i PrV.zero).P →
    ((progVals xs).set (i * 5 + 3) (.slice y.A y.P.pages.length y.c)).set (i * 5 + 4) (.slice y.TA y.P.told.length y.Tc) = progVals (xs.set i y) := by
  induction xs with
  | nil => intro i y h; simp at h
  | cons x r ih =>
    intro i y h hy
    cases i with
    | zero =>
      simp only [List.getD_cons_zero] at hy
      simp [progVals, hy]
    | succ i =>
      have e1 : (i + 1) * 5 + 3 = (i * 5 + 3) + 5 := by omega
      have e2 : (i + 1) * 5 + 4 = (i * 5 + 4) + 5 := by omega
      rw [e1, e2]
      simp only [progVals, List.set_cons_succ]
      rw [ih i y (by simpa using h) (by simpa using hy)]
theorem far_of' {w : World} {B1 B2 e1 e2 s1 s2 n1 n2 c1 c2 g : Nat} {A : Option Addr} {xs1 xs2 : List Value} (h1 : w.ownsRow B1 e1 s1 (.slice A n1 c1) n1 xs1) (h2 : w.ownsRow B2 e2 s2 (.slice (some ⟨g, 0, none⟩) n2 c2) n2 xs2) (hne : e1 ≠ e2) : (Value.slice A n1 c1).ownBlock ≠ some g := by
  rcases rows_apart h1 h2 hne with h | h
  · rw [h]; simp
  · intro e
    exact h (by rw [e]; rfl)
/-- The first k programs of the list have pages and numbers of the call's own. -/
def Fresh (w : World) (B : Nat) (zs : List PrV) (k : Nat) : Prop := ∀ x ∈ zs.take k, w.ownsRow B 98 3 (.slice x.A x.P.pages.length x.c) x.P.pages.length (pgVals x.P.pages) ∧ w.ownsRow B 3 1 (.slice x.TA x.P.told.length x.Tc) x.P.told.length (numVals x.P.told)
theorem take_set_succ {α : Type} (zs : List α) {k : Nat} (y : α) (hk : k < zs.length) : (zs.set k y).take (k + 1) = zs.take k ++ [y] := by
  rw [List.take_add_one, List.getElem?_eq_getElem (by simpa using hk), List.take_set, List.set_eq_of_length_le (by rw [List.length_take]; omega)]
  simp

theorem getD_set_ne {α : Type} (zs : List α) {k j : Nat} (y z : α) (h : k ≠ j) : (zs.set k y).getD j z = zs.getD j z := by
  simp [List.getD, h]

set_option maxRecDepth 100000 in
set_option maxHeartbeats 8000000 in
theorem ocopy_any (A : Option Addr) (n c : Nat) (xs : List PrV) (w : World) (h : IsProgs w A n xs) (hs : Small xs) :
    Calls Try.prog 105 #[.slice A n c] w fun e w' => ∃ v ys, e = .returned v ∧ ys.map PrV.P = xs.map PrV.P ∧ OwnProgs w' w.heap.size v ys ∧ Apart ys ∧ Below w.heap.size w w' := by
  have Hl := Lib.hid h.len
  have HI := Lib.hid h
  have HS := Lib.hid hs
  have hn : n ≤ 1000 := by have := h.len; have := hs.1; omega
  clear h hs
  go_enter Try.func105, Try.ntmps105
  go_wp2_with fail
  refine (cloneprogs_any A n c (progVals xs) _ HI.out.1 (progVals_one _) (by omega)).mono ?_
  rintro e w1 ⟨A1, c1, rfl, hown1, hb1⟩
  have HO1 := Lib.hid hown1
  have HB1 := Lib.hid hb1
  clear hown1 hb1
  go_wp2_with fail
  go_loopw [10] (fun i wr => ∃ (k : Nat) (zs : List PrV), k ≤ n ∧ i = .int .i64 k ∧ Hid (wr.ownsRow w.heap.size 96 5 (.slice A1 n c1) n (progVals zs)) ∧ Hid (zs.map PrV.P = xs.map PrV.P) ∧ Hid (∀ j, k ≤ j → zs.getD j PrV.zero = xs.getD j PrV.zero) ∧ Hid (Fresh wr w.heap.size zs k) ∧ Hid (Apart (zs.take k)) ∧ Hid (Below w.heap.size w wr)) (fun i _ => n - (intOf i).toNat)
  case atStart => exact ⟨0, xs, by omega, rfl, HO1.out, rfl, fun j _ => rfl, fun x hx => by simp at hx, by show Apart _; simp [Apart], HB1.out⟩
  case round =>
    obtain ⟨k, zs, hk, rfl, HO, Hm, Hr, HF, HA, HBr⟩ := hrel
    have hsz := HBr.out.size
    have hzl : zs.length = n := by have := congrArg List.length Hm.out; simp at this; rw [this]; exact Hl.out
    have Hzl := Lib.hid hzl
    clear hzl
    by_cases hlt : k < n
    · have hkz : k < zs.length := by rw [Hzl.out]; exact hlt
      have hkl : k < xs.length := by rw [Hl.out]; exact hlt
      obtain ⟨g, rfl, hg1, hg2⟩ := own_some HO.out (by omega)
      obtain ⟨b', off', e', -, hc⟩ := (Has.of_own HO.out).2 (by omega)
      injection e' with e'
      injection e' with e1 e2
      subst e1 e2
      obtain ⟨i0, i1, i2, i3, i4⟩ := progVals_get zs k hkz
      have z0 := hc _ _ i0
      have z1 := hc _ _ i1
      have z2 := hc _ _ i2
      have z3 := hc _ _ i3
      have z4 := hc _ _ i4
      have f3 := own_frozen HO.out (k * 5 + 3)
      have f4 := own_frozen HO.out (k * 5 + 4)
      have hmem := HI.out.2 _ (getD_mem xs PrV.zero hkl)
      obtain ⟨hpl, htl⟩ := HS.out.at_ hkl
      have hzx := Hr.out k (Nat.le_refl _)
      rw [hzx] at z0 z1 z2 z3 z4
      obtain ⟨x, hx⟩ : ∃ x, xs.getD k PrV.zero = x := ⟨_, rfl⟩
      rw [hx] at z0 z1 z2 z3 z4 hmem hpl htl hzx
      have Hzx := Lib.hid hzx
      obtain ⟨⟨id, te, de, pgs, told⟩, PA, Pc, TA, Tc⟩ := x
      simp only [Nat.zero_add] at z0 z1 z2 z3 z4
      dsimp only at z0 z1 z2 z3 z4 hmem hpl htl
      obtain ⟨M, hM⟩ : ∃ M, pgs.length = M := ⟨_, rfl⟩
      obtain ⟨TN, hTN⟩ : ∃ TN, told.length = TN := ⟨_, rfl⟩
      rw [hM, hTN] at hmem
      rw [hM] at z3 hpl
      rw [hTN] at z4 htl
      have HM := Lib.hid hM
      have HTN := Lib.hid hTN
      have HP := Lib.hid (hmem.1.below HBr.out)
      have HT := Lib.hid (hmem.2.below HBr.out)
      have hlt' : (k : Int) < (n : Int) := by omega
      have hk0 : (0 : Int) ≤ (k : Int) := by omega
      clear i0 i1 i2 i3 i4 hc hmem hzx hx hM hTN
      go_wp2_with fail
      go_region_held3 (fun w' => w'.cell? ⟨wr.heap.size, 3, none⟩ = some (.slice PA M Pc) ∧ w'.cell? ⟨wr.heap.size, 4, none⟩ = some (.slice TA TN Tc)) (simp [go_sem, *]) (first
        | (go_at_call 109; refine (clonepages_any PA M Pc (pgVals pgs) _ (HP.out.below (by (repeat' (first | (with_reducible exact Below.refl _ _) | (with_reducible assumption) | (with_reducible refine Below.alloc ?_ ?_ _) | (with_reducible refine Below.drew ?_) | (with_reducible refine below_drewN ?_ _) | (with_reducible refine Below.setCell ?_ ?_ _) | (with_reducible exact Nat.le_refl _) | omega | (simp <;> omega))))) (pgVals_one _) (by omega)).mono ?_; rintro e w5 ⟨A5, c5, rfl, hown5, hb5⟩; have hB5 := (show Below wr.heap.size wr _ by (repeat' (first | (with_reducible exact Below.refl _ _) | (with_reducible assumption) | (with_reducible refine Below.alloc ?_ ?_ _) | (with_reducible refine Below.drew ?_) | (with_reducible refine below_drewN ?_ _) | (with_reducible refine Below.setCell ?_ ?_ _) | (with_reducible exact Nat.le_refl _) | omega | (simp <;> omega)))).trans (hb5.mono (show wr.heap.size ≤ _ by (first | (with_reducible exact Nat.le_refl _) | (with_reducible assumption) | omega | (simp <;> omega)))); have hs5 := hB5.size; have hs5b := hb5.size; (try simp only [World.size_alloc, World.size_drew] at hs5b); have l5 : wr.heap.size < w5.heap.size := (by omega); obtain ⟨q5, -⟩ := bkeep hb5 wr.heap.size (by (first | (with_reducible exact Nat.le_refl _) | (with_reducible assumption) | omega | (simp <;> omega))); have z35 := cellK hB5 hg2 z3; have z45 := cellK hB5 hg2 z4; have f35 := frozK hB5 hg2 f3; have f45 := frozK hB5 hg2 f4; have Ho5 := Lib.hid (ownsRow_base hown5 (show wr.heap.size ≤ _ by (first | (with_reducible exact Nat.le_refl _) | (with_reducible assumption) | omega | (simp <;> omega)))); clear hb5 hown5)
        | (go_at_call 110; refine (clonenums_any TA TN Tc (numVals told) _ (HT.out.below (by (repeat' (first | (with_reducible exact Below.refl _ _) | (with_reducible assumption) | (with_reducible refine Below.alloc ?_ ?_ _) | (with_reducible refine Below.drew ?_) | (with_reducible refine below_drewN ?_ _) | (with_reducible refine Below.setCell ?_ ?_ _) | (with_reducible exact Nat.le_refl _) | omega | (simp <;> omega))))) (numVals_one _) (by omega)).mono ?_; rintro e w8 ⟨A8, c8, rfl, hown8, hb8⟩; have hB8 := (show Below wr.heap.size wr _ by (repeat' (first | (with_reducible exact Below.refl _ _) | (with_reducible assumption) | (with_reducible refine Below.alloc ?_ ?_ _) | (with_reducible refine Below.drew ?_) | (with_reducible refine below_drewN ?_ _) | (with_reducible refine Below.setCell ?_ ?_ _) | (with_reducible exact Nat.le_refl _) | omega | (simp <;> omega)))).trans (hb8.mono (show wr.heap.size ≤ _ by (first | (with_reducible exact Nat.le_refl _) | (with_reducible assumption) | omega | (simp <;> omega)))); have hs8 := hB8.size; have hs8b := hb8.size; (try simp only [World.size_alloc, World.size_drew] at hs8b); have l8 : wr.heap.size < w8.heap.size := (by omega); obtain ⟨q8, -⟩ := bkeep hb8 wr.heap.size (by (first | (with_reducible exact Nat.le_refl _) | (with_reducible assumption) | omega | (simp <;> omega))); have z38 := cellK hB8 hg2 z3; have z48 := cellK hB8 hg2 z4; have f38 := frozK hB8 hg2 f3; have f48 := frozK hB8 hg2 f4; have hB58 := (show Below w5.heap.size w5 _ by (repeat' (first | (with_reducible exact Below.refl _ _) | (with_reducible assumption) | (with_reducible refine Below.alloc ?_ ?_ _) | (with_reducible refine Below.drew ?_) | (with_reducible refine below_drewN ?_ _) | (with_reducible refine Below.setCell ?_ ?_ _) | (with_reducible exact Nat.le_refl _) | omega | (simp <;> omega)))).trans (hb8.mono (show w5.heap.size ≤ _ by (first | (with_reducible exact Nat.le_refl _) | (with_reducible assumption) | omega | (simp <;> omega)))); have Ho58 := Lib.hid (ownsRow_below Ho5.out hB58); have Ho8 := Lib.hid (ownsRow_base hown8 (show wr.heap.size ≤ _ by (first | (with_reducible exact Nat.le_refl _) | (with_reducible assumption) | omega | (simp <;> omega)))); clear hb8 hown8))
      go_wp2_with fail
      go_roundw
      case rel =>
        have hO8 := ownsRow_below HO.out hB8
        have hset := own_set (own_set hO8 (k * 5 + 3) (.slice A5 M c5)) (k * 5 + 4) (.slice A8 TN c8)
        have he := progVals_set34 zs k ⟨⟨id, te, de, pgs, told⟩, A5, c5, A8, c8⟩ hkz (by rw [Hzx.out])
        dsimp only at he
        rw [HM.out, HTN.out] at he
        rw [he] at hset
        have hfar : ∀ {e s q : Nat} {A : Option Addr} {cc : Nat} {vs : List Value}, w8.ownsRow w.heap.size e s (.slice A q cc) q vs → e ≠ 96 →
            ((w8.setCell ⟨g, k * 5 + 3, none⟩ (.slice A5 M c5)).setCell ⟨g, k * 5 + 4, none⟩ (.slice A8 TN c8)).ownsRow w.heap.size e s (.slice A q cc) q vs :=
          fun hr hne => ownsRow_setCell_far (ownsRow_setCell_far hr (far_of' hr hO8 hne) _) (far_of' hr hO8 hne) _
        have hb8 := HBr.out.trans (hB8.mono hsz)
        have hzk : (zs.map PrV.P)[k]'(by rw [List.length_map]; exact hkz) = ⟨id, te, de, pgs, told⟩ := by
          have := Hzx.out
          rw [List.getD, List.getElem?_eq_getElem hkz] at this
          simp only [Option.getD_some] at this
          simp [this]
        refine ⟨k + 1, zs.set k ⟨⟨id, te, de, pgs, told⟩, A5, c5, A8, c8⟩, by omega, by go_num, hset, ?_, ?_, ?_, ?_, show Below w.heap.size w _ from (hb8.setCell (by show w.heap.size ≤ g; omega) _).setCell (by show w.heap.size ≤ g; omega) _⟩
        · show _ = _
          rw [List.map_set, ← Hm.out]
          rw [← hzk, List.set_getElem_self]
        · intro j hj
          rw [getD_set_ne zs _ _ (by omega)]
          exact Hr.out j (by omega)
        · show Fresh _ _ _ _
          intro x hx
          rw [take_set_succ zs _ hkz] at hx
          rcases List.mem_append.1 hx with hx | hx
          · have := HF.out x hx
            exact ⟨hfar (ownsRow_below this.1 hB8) (by decide), hfar (ownsRow_below this.2 hB8) (by decide)⟩
          · have hxe : x = ⟨⟨id, te, de, pgs, told⟩, A5, c5, A8, c8⟩ := by simpa using hx
            subst hxe
            dsimp only
            rw [HM.out, HTN.out]
            exact ⟨hfar (ownsRow_base Ho58.out hsz) (by decide), hfar (ownsRow_base Ho8.out hsz) (by decide)⟩
        · show Apart _
          rw [take_set_succ zs _ hkz]
          refine HA.out.snoc fun x hx p q hp hq => ?_
          have h1 := (own_at (HF.out x hx).1 p hp).2
          have h2 := (own_at Ho58.out q hq).1
          omega
      case measure => simp [intOf]; omega
    · have hkn : k = n := by omega
      subst hkn
      clear hlt
      go_wp2_with fail
      go_ret
      have ht : zs.take k = zs := List.take_of_length_le (by rw [Hzl.out]; exact Nat.le_refl _)
      have hf := HF.out
      have ha := HA.out
      unfold Fresh at hf
      rw [ht] at hf ha
      refine ⟨_, zs, rfl, Hm.out, ⟨⟨_, _, by rw [Hzl.out]; rfl⟩, by rw [Hzl.out]; exact HO.out, hf⟩, ha, HBr.out⟩
end Go.Proofs.Ytjlmgjpnfppkoaa
