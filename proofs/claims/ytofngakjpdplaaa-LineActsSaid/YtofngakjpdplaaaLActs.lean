/-
  The walk of LineActs: it returns true, and what was there before is as it was.
-/
import Derived.BigRegion
import Derived.LoopTactic
import Derived.Test.YtofngakjpdplaaaLClone
import Derived.Test.YtofngakjpdplaaaLStore
import Derived.Test.YtofngakjpdplaaaLLoad
import Derived.Test.YtofngakjpdplaaaLDamage
import Derived.Test.YtofngakjpdplaaaLPatch
import Derived.Test.YtofngakjpdplaaaLSame
import Derived.Test.YtofngakjpdplaaaLAwake
namespace Go.Proofs.Ytofngakjpdplaaa
open Go.RowKit
attribute [local go_sem ↓] Go.wp_at_zero Go.wp_at_succ

/-- The line at place k of a row of lines. -/
def Elem (wr : World) (bl k : Nat) : Prop := ∃ (L : LineD) (A : Option Addr) (c : Nat), L.data.length ≤ 200 ∧ Has wr A L.data.length 1 (byteVals L.data) ∧
  wr.cell? ⟨bl, k * 4, none⟩ = some (.int .i64 L.addr) ∧ wr.cell? ⟨bl, k * 4 + 1, none⟩ = some (.slice A L.data.length c) ∧ wr.cell? ⟨bl, k * 4 + 2, none⟩ = some (.bool L.dirty) ∧ wr.cell? ⟨bl, k * 4 + 3, none⟩ = some (.bool L.poison)
theorem Elem.below {wr w1 : World} {bl k : Nat} (h : Elem wr bl k) (hb : Below wr.heap.size wr w1) (hl : bl < wr.heap.size) : Elem w1 bl k := by
  obtain ⟨L, A, c, h1, h2, h3, h4, h5, h6⟩ := h
  exact ⟨L, A, c, h1, h2.below hb, cellK hb hl h3, cellK hb hl h4, cellK hb hl h5, cellK hb hl h6⟩
def Ints (wr : World) (b cnt : Nat) : Prop := b < wr.heap.size ∧ ∀ j, j < cnt → ∃ n : Int, wr.cell? ⟨b, j, none⟩ = some (.int .i64 n)
theorem Ints.below {wr w1 : World} {b cnt : Nat} (h : Ints wr b cnt) (hb : Below wr.heap.size wr w1) : Ints w1 b cnt :=
  ⟨Nat.lt_of_lt_of_le h.1 hb.size, fun j hj => let ⟨n, hn⟩ := h.2 j hj; ⟨n, cellK hb h.1 hn⟩⟩
def Rows2 (wr : World) (b : Nat) : Prop := b < wr.heap.size ∧ ∀ j, j < 2 → ∃ (A : Option Addr) (n c : Nat) (bs : List UInt8), wr.cell? ⟨b, j, none⟩ = some (.slice A n c) ∧ Has wr A n 1 (byteVals bs) ∧ n ≤ 200
theorem Rows2.below {wr w1 : World} {b : Nat} (h : Rows2 wr b) (hb : Below wr.heap.size wr w1) : Rows2 w1 b :=
  ⟨Nat.lt_of_lt_of_le h.1 hb.size, fun j hj => let ⟨A, n, c, bs, h1, h2, h3⟩ := h.2 j hj; ⟨A, n, c, bs, cellK hb h.1 h1, h2.below hb, h3⟩⟩

/-- What stands while the rounds go on. -/
structure Inv (w wr : World) (bl g : Nat) (L : LineD) (A : Option Addr) (c : Nat) (A2 : Option Addr) (n2 : Nat) (bs : List UInt8) : Prop where
  b : Below w.heap.size w wr
  e : Elem wr bl 0 ∧ Elem wr bl 1
  l : bl < wr.heap.size
  d : Has wr A2 n2 1 (byteVals bs)
  x : Box4 wr g (.int .i64 L.addr) (.slice A L.data.length c) (.bool L.dirty) (.bool L.poison)
  g : g < wr.heap.size
  h : Has wr A L.data.length 1 (byteVals L.data)
theorem Inv.below {w wr w1 : World} {bl g : Nat} {L : LineD} {A : Option Addr} {c : Nat} {A2 : Option Addr} {n2 : Nat} {bs : List UInt8} (i : Inv w wr bl g L A c A2 n2 bs) (hb : Below wr.heap.size wr w1) : Inv w w1 bl g L A c A2 n2 bs :=
  ⟨i.b.trans (hb.mono i.b.size), ⟨i.e.1.below hb i.l, i.e.2.below hb i.l⟩, Nat.lt_of_lt_of_le i.l hb.size, i.d.below hb, i.x.below hb i.g, Nat.lt_of_lt_of_le i.g hb.size, i.h.below hb⟩

set_option maxRecDepth 100000 in
set_option maxHeartbeats 8000000 in
theorem acts_any (vx : Value) (X : LineD) (A2 : Option Addr) (n2 c2 : Nat) (bs : List UInt8) (k1 k2 : Int) (b : UInt8) (w : World) (hx : IsLine w vx X)
    (h2 : Has w A2 n2 1 (byteVals bs)) (hn : X.data.length ≤ 200) (hn2 : n2 ≤ 200) :
    Calls Try.prog 3 #[vx, .slice A2 n2 c2, .int .i64 k1, .int .i64 k2, .int .u8 b.toNat] w fun e w' => e = .returned (.bool true) ∧ Below w.heap.size w w' := by
  obtain ⟨A, c, rfl, hx⟩ := hx
  have Hx := Lib.hid hx
  have H2 := Lib.hid h2
  clear hx h2
  obtain ⟨r1, r1'⟩ := mod_range k1 3 (by omega)
  obtain ⟨r2, r2'⟩ := mod_range k2 3 (by omega)
  obtain ⟨r3, r3'⟩ := mod_range k2 40 (by omega)
  obtain ⟨mn, hmn⟩ : ∃ mn : Nat, 31 + mod k2 3 = (mn : Int) := ⟨(31 + mod k2 3).toNat, by omega⟩
  have hmnb : mn ≤ 33 := by omega
  have Hmn := Lib.hid hmn
  have hmk0 := run_make_one (P := Try.prog) 22 5 .u8 1 info5 Try.underlying22 mn (by omega) (by omega)
  rw [← hmn] at hmk0
  clear hmn
  go_enter Try.func3, Try.ntmps3
  go_wp2_with (first | (go_at_call 7; refine (mod_any _ _ _ (by omega)).mono ?_; rintro e w' ⟨rfl, rfl⟩))
  go_loopw [55] (fun i wr => ∃ k : Nat, k ≤ 2 ∧ i = .int .i64 k ∧ Below w.heap.size w wr ∧ Hid (Elem wr (w.heap.size + 1 + 1 + 1) 0 ∧ Elem wr (w.heap.size + 1 + 1 + 1) 1) ∧ w.heap.size + 1 + 1 + 1 < wr.heap.size ∧ Hid (Has wr A2 n2 1 (byteVals bs)))
    (fun i _ => 2 - (intOf i).toNat)
  case atStart =>
    refine ⟨0, by omega, rfl, by (repeat' (first | (with_reducible exact Below.refl _ _) | (with_reducible assumption) | (with_reducible refine Below.alloc ?_ ?_ _) | (with_reducible refine Below.drew ?_) | (with_reducible refine below_drewN ?_ _) | (with_reducible refine Below.setCell ?_ ?_ _) | (with_reducible exact Nat.le_refl _) | omega | (simp <;> omega))), ⟨⟨X, A, c, hn, ((((Hx.out.alloc _).alloc _).alloc _).alloc _), by simp [go_sem], by simp [go_sem], by simp [go_sem], by simp [go_sem]⟩, ⟨⟨1048575 + mod k1 3 - 1, List.replicate mn 0, false, false⟩, some ⟨w.heap.size + 1, 0, none⟩, mn, by simp; omega, ?_, by simp [go_sem], by simp [go_sem], by simp [go_sem], by simp [go_sem]⟩⟩, by simp, (((H2.out.alloc _).alloc _).alloc _).alloc _⟩
    rw [show (LineD.mk (1048575 + mod k1 3 - 1) (List.replicate mn 0) false false).data.length = mn from List.length_replicate]
    exact ((Has.of_own (own_zeros_at (w.alloc _) 5 mn 0 (w.heap.size + 1) (by omega) (by simp) (by omega))).alloc _).alloc _
  case round =>
    obtain ⟨k, hk, rfl, hB, He, hl, Hd⟩ := hrel
    obtain ⟨wo, rfl⟩ : ∃ wo : World, wo = wr := ⟨_, rfl⟩
    clear hmk0
    by_cases hlt : k < 2
    · have hel : Elem wo (w.heap.size + 1 + 1 + 1) k := by
        rcases (show k = 0 ∨ k = 1 by omega) with rfl | rfl
        · exact He.out.1
        · exact He.out.2
      obtain ⟨L, AL, cL, hL, HL, e0, e1, e2, e3⟩ := hel
      have HI : Hid (∀ o, Inv w (wo.alloc (.cells #[.int .i64 L.addr, .slice AL L.data.length cL, .bool L.dirty, .bool L.poison] o)) (w.heap.size + 1 + 1 + 1) wo.heap.size L AL cL A2 n2 bs) := fun o =>
        ⟨by (repeat' (first | (with_reducible exact Below.refl _ _) | (with_reducible assumption) | (with_reducible refine Below.alloc ?_ ?_ _) | (with_reducible refine Below.drew ?_) | (with_reducible refine below_drewN ?_ _) | (with_reducible refine Below.setCell ?_ ?_ _) | (with_reducible exact Nat.le_refl _) | omega | (simp <;> omega))), ⟨He.out.1.below (by (repeat' (first | (with_reducible exact Below.refl _ _) | (with_reducible assumption) | (with_reducible refine Below.alloc ?_ ?_ _) | (with_reducible refine Below.drew ?_) | (with_reducible refine below_drewN ?_ _) | (with_reducible refine Below.setCell ?_ ?_ _) | (with_reducible exact Nat.le_refl _) | omega | (simp <;> omega)))) hl, He.out.2.below (by (repeat' (first | (with_reducible exact Below.refl _ _) | (with_reducible assumption) | (with_reducible refine Below.alloc ?_ ?_ _) | (with_reducible refine Below.drew ?_) | (with_reducible refine below_drewN ?_ _) | (with_reducible refine Below.setCell ?_ ?_ _) | (with_reducible exact Nat.le_refl _) | omega | (simp <;> omega)))) hl⟩, by simp; omega, Hd.out.alloc _, ⟨by simp [go_sem], by simp [go_sem], by simp [go_sem], by simp [go_sem]⟩, by simp, HL.alloc _⟩
      have hk2 : (k : Int) < 2 := by omega
      have HL' := Lib.hid HL
      clear HL
      go_wp2_with fail
      go_region_held3 (fun w' => w'.cell? ⟨wo.heap.size, 1, none⟩ = some (.slice AL L.data.length cL)) (go_keep) (first | (go_at_call 7; refine (mod_any _ _ _ (by omega)).mono ?_; rintro e w' ⟨rfl, rfl⟩))
      go_wp2_with fail
      go_loopw [75] (fun i wr2 => ∃ j : Nat, j ≤ 4 ∧ i = .int .i64 j ∧ Hid (Inv w wr2 (w.heap.size + 1 + 1 + 1) wo.heap.size L AL cL A2 n2 bs) ∧ Hid (Ints wr2 (wo.heap.size + 1) 4)) (fun i _ => 4 - (intOf i).toNat)
      case atStart =>
        refine ⟨0, by omega, rfl, (HI.out 24).below (by (repeat' (first | (with_reducible exact Below.refl _ _) | (with_reducible assumption) | (with_reducible refine Below.alloc ?_ ?_ _) | (with_reducible refine Below.drew ?_) | (with_reducible refine below_drewN ?_ _) | (with_reducible refine Below.setCell ?_ ?_ _) | (with_reducible exact Nat.le_refl _) | omega | (simp <;> omega)))), ⟨by simp, fun j hj => ?_⟩⟩
        rcases (show j = 0 ∨ j = 1 ∨ j = 2 ∨ j = 3 by omega) with rfl | rfl | rfl | rfl
        all_goals exact ⟨_, by simp [go_sem]; rfl⟩
      case round =>
        obtain ⟨j, hj, rfl, Hi, Hn⟩ := hrel
        obtain ⟨wr2, rfl⟩ : ∃ wi : World, wi = wr := ⟨_, rfl⟩
        obtain ⟨x0, x1, x2, x3⟩ := Hi.out.x
        have g2 := Hi.out.g
        have hb2 := Hn.out.1
        clear e0 e1 e2 e3
        by_cases hj4 : j < 4
        · obtain ⟨n, hn4⟩ := Hn.out.2 j hj4
          have hj4' : (j : Int) < 4 := by omega
          go_wp2_with fail
          go_region_held3 (fun w' => w'.cell? ⟨wo.heap.size, 0, none⟩ = some (.int .i64 L.addr) ∧ w'.cell? ⟨wo.heap.size, 1, none⟩ = some (.slice AL L.data.length cL) ∧ w'.cell? ⟨wo.heap.size, 2, none⟩ = some (.bool L.dirty) ∧ w'.cell? ⟨wo.heap.size, 3, none⟩ = some (.bool L.poison)) (go_keep)
            (first | (go_at_call 8; refine (lvalid_any _ _ L _ ⟨AL, cL, rfl, Has.drew (Hi.out.h)⟩).mono ?_; rintro e w5 ⟨rfl, hb5⟩; have hs5 := hb5.size; have hB5 := (show Below wr2.heap.size wr2 _ by (repeat' (first | (with_reducible exact Below.refl _ _) | (with_reducible assumption) | (with_reducible refine Below.alloc ?_ ?_ _) | (with_reducible refine Below.drew ?_) | (with_reducible refine below_drewN ?_ _) | (with_reducible refine Below.setCell ?_ ?_ _) | (with_reducible exact Nat.le_refl _) | omega | (simp <;> omega)))).trans (hb5.mono (show wr2.heap.size ≤ _ by (first | (with_reducible exact Nat.le_refl _) | (with_reducible assumption) | omega | (simp <;> omega)))); have p0 := cellK hB5 g2 x0; have p1 := cellK hB5 g2 x1; have p2 := cellK hB5 g2 x2; have p3 := cellK hB5 g2 x3) | (go_at_call 9; refine (rvalid_any _ _ L _ ⟨AL, cL, rfl, Hi.out.h.below hB5⟩).mono ?_; rintro e w6 ⟨rfl, hb6⟩; have hs6 := hb6.size; have hB6 := hB5.trans (hb6.mono hB5.size); have q0 := cellK hB6 g2 x0; have q1 := cellK hB6 g2 x1; have q2 := cellK hB6 g2 x2; have q3 := cellK hB6 g2 x3))
          go_wp2_with fail
          go_roundw
          case rel => exact ⟨j + 1, by omega, by go_num, Hi.out.below hB6, Hn.out.below hB6⟩
          case measure => simp [intOf]; omega
        · have hge4 : 4 ≤ j := by omega
          clear hj4
          obtain ⟨r5, r5'⟩ := mod_range k1 (L.data.length + 2) (by omega)
          go_wp2_with (first | (go_at_call 7; refine (mod_any _ _ _ (by omega)).mono ?_; rintro e w' ⟨rfl, rfl⟩))
          go_loopw [97] (fun i wr3 => ∃ j : Nat, j ≤ 2 ∧ i = .int .i64 j ∧ Hid (Inv w wr3 (w.heap.size + 1 + 1 + 1) wo.heap.size L AL cL A2 n2 bs) ∧ Hid (Ints wr3 wr2.heap.size 2)) (fun i _ => 2 - (intOf i).toNat)
          case atStart =>
            refine ⟨0, by omega, rfl, Hi.out.below (by (repeat' (first | (with_reducible exact Below.refl _ _) | (with_reducible assumption) | (with_reducible refine Below.alloc ?_ ?_ _) | (with_reducible refine Below.drew ?_) | (with_reducible refine below_drewN ?_ _) | (with_reducible refine Below.setCell ?_ ?_ _) | (with_reducible exact Nat.le_refl _) | omega | (simp <;> omega)))), ⟨by simp, fun j hj => ?_⟩⟩
            rcases (show j = 0 ∨ j = 1 by omega) with rfl | rfl
            all_goals exact ⟨_, by simp [go_sem]; rfl⟩
          case round =>
          obtain ⟨i3, hi3, rfl, Hj, Hm⟩ := hrel
          obtain ⟨wr3, rfl⟩ : ∃ wi : World, wi = wr := ⟨_, rfl⟩
          obtain ⟨z0, z1, z2, z3⟩ := Hj.out.x
          have g3 := Hj.out.g
          have hb3 := Hm.out.1
          clear x0 x1 x2 x3 g2
          by_cases hlt3 : i3 < 2
          · obtain ⟨n, hn5⟩ := Hm.out.2 i3 hlt3
            have hlt3' : (i3 : Int) < 2 := by omega
            obtain ⟨P, hP⟩ : ∃ P, patchF L n b = P := ⟨_, rfl⟩
            obtain ⟨E, hE⟩ : ∃ E, patchE L n = E := ⟨_, rfl⟩
            have HP := Lib.hid hP
            have HE := Lib.hid hE
            clear hP hE
            go_wp2_with fail
            refine (lpatch_any _ L n b _ ⟨AL, cL, rfl, Hj.out.h⟩ (by omega)).mono ?_
            simp only [HP.out, HE.out]
            rintro e w5 ⟨v5, rfl, ⟨A5, c5, rfl, hown5⟩, hb5⟩
            have hs5 := hb5.size
            have H5 := Lib.hid (Has.of_own hown5)
            have p0 := cellK hb5 g3 z0
            have p1 := cellK hb5 g3 z1
            have p2 := cellK hb5 g3 z2
            have p3 := cellK hb5 g3 z3
            have l5 : wo.heap.size < w5.heap.size := by omega
            clear hown5
            go_wp2_with fail
            refine (rpatch_any _ L n b _ ⟨AL, cL, rfl, (Hj.out.h.below hb5).alloc _⟩ (by omega)).mono ?_
            simp only [HP.out, HE.out]
            rintro e w6 ⟨v6, rfl, ⟨A6, c6, rfl, hown6⟩, hb6⟩
            have hs6 := hb6.size
            simp only [World.size_alloc] at hs6
            have H6 := Lib.hid (Has.of_own hown6)
            have H56 := Lib.hid ((H5.out.alloc (.cells #[.int .i64 P.addr, .slice A5 P.data.length c5, .bool P.dirty, .bool P.poison] 24)).below hb6)
            have q0 := cellK (g := w5.heap.size) (i := 0) (v := .int .i64 P.addr) hb6 (by (first | (with_reducible exact Nat.le_refl _) | (with_reducible assumption) | omega | (simp <;> omega))) (by simp [go_sem])
            have q1 := cellK (g := w5.heap.size) (i := 1) (v := .slice A5 P.data.length c5) hb6 (by (first | (with_reducible exact Nat.le_refl _) | (with_reducible assumption) | omega | (simp <;> omega))) (by simp [go_sem])
            have q2 := cellK (g := w5.heap.size) (i := 2) (v := .bool P.dirty) hb6 (by (first | (with_reducible exact Nat.le_refl _) | (with_reducible assumption) | omega | (simp <;> omega))) (by simp [go_sem])
            have q3 := cellK (g := w5.heap.size) (i := 3) (v := .bool P.poison) hb6 (by (first | (with_reducible exact Nat.le_refl _) | (with_reducible assumption) | omega | (simp <;> omega))) (by simp [go_sem])
            have l6 : w5.heap.size < w6.heap.size := by omega
            have hB6 := (show Below wr3.heap.size wr3 _ by (repeat' (first | (with_reducible exact Below.refl _ _) | (with_reducible assumption) | (with_reducible refine Below.alloc ?_ ?_ _) | (with_reducible refine Below.drew ?_) | (with_reducible refine below_drewN ?_ _) | (with_reducible refine Below.setCell ?_ ?_ _) | (with_reducible exact Nat.le_refl _) | omega | (simp <;> omega)))).trans (hb6.mono (show wr3.heap.size ≤ _ by (first | (with_reducible exact Nat.le_refl _) | (with_reducible assumption) | omega | (simp <;> omega))))
            clear hown6 p0 p1 p2 p3 hb5 hb6 H5
            go_wp2_with fail
            refine (same_any _ _ P P _ ⟨_, _, rfl, H56.out.alloc _⟩ ⟨_, _, rfl, H6.out.alloc _⟩).mono ?_
            rintro e w7 ⟨rfl, hb7⟩
            simp only [show sameB P P = true from by simp [sameB]]
            have hs7 := hb7.size
            have hB6s := hB6.size
            have hB7 := (show Below wr3.heap.size wr3 _ by (repeat' (first | (with_reducible exact Below.refl _ _) | (with_reducible assumption) | (with_reducible refine Below.alloc ?_ ?_ _) | (with_reducible refine Below.drew ?_) | (with_reducible refine below_drewN ?_ _) | (with_reducible refine Below.setCell ?_ ?_ _) | (with_reducible exact Nat.le_refl _) | omega | (simp <;> omega)))).trans (hb7.mono (show wr3.heap.size ≤ _ by (first | (with_reducible exact Nat.le_refl _) | (with_reducible assumption) | omega | (simp <;> omega))))
            clear hB6 hb7
            go_wp2_with fail
            go_roundw
            case rel => exact ⟨i3 + 1, by omega, by go_num, Hj.out.below hB7, Hm.out.below hB7⟩
            case measure => simp [intOf]; omega
          · have hge3 : 2 ≤ i3 := by omega
            have hmk1 := run_make_one (P := Try.prog) 22 5 .u8 1 info5 Try.underlying22 L.data.length (by omega) (by omega)
            clear hlt3 Hn
            go_wp2_with fail
            go_loopw [132] (fun i wr4 => ∃ j : Nat, j ≤ 2 ∧ i = .int .i64 j ∧ Hid (Inv w wr4 (w.heap.size + 1 + 1 + 1) wo.heap.size L AL cL A2 n2 bs) ∧ Hid (Rows2 wr4 (wr3.heap.size + 1))) (fun i _ => 2 - (intOf i).toNat)
            case atStart =>
              refine ⟨0, by omega, rfl, Hj.out.below (by (repeat' (first | (with_reducible exact Below.refl _ _) | (with_reducible assumption) | (with_reducible refine Below.alloc ?_ ?_ _) | (with_reducible refine Below.drew ?_) | (with_reducible refine below_drewN ?_ _) | (with_reducible refine Below.setCell ?_ ?_ _) | (with_reducible exact Nat.le_refl _) | omega | (simp <;> omega)))), ⟨by simp, fun j hj => ?_⟩⟩
              rcases (show j = 0 ∨ j = 1 by omega) with rfl | rfl
              · exact ⟨A2, n2, c2, bs, by simp [go_sem], (Hj.out.d.alloc _).alloc _, hn2⟩
              · exact ⟨some ⟨wr3.heap.size, 0, none⟩, L.data.length, L.data.length, List.replicate L.data.length 0, by simp [go_sem], (Has.of_own (own_zeros_at wr3 5 L.data.length 0 wr3.heap.size (by omega) rfl (by omega))).alloc _, hL⟩
            case round =>
            obtain ⟨i3, hi3, rfl, Hj, Hm⟩ := hrel
            obtain ⟨wr4, rfl⟩ : ∃ wi : World, wi = wr := ⟨_, rfl⟩
            clear z0 z1 z2 z3 g3 hb3 hmk1
            obtain ⟨z0, z1, z2, z3⟩ := Hj.out.x
            have g3 := Hj.out.g
            have hb3 := Hm.out.1
            by_cases hlt3 : i3 < 2
            · obtain ⟨AD, nD, cD, ds, hcD, hds, hnD⟩ := Hm.out.2 i3 hlt3
              have hlt3' : (i3 : Int) < 2 := by omega
              have Hds := Lib.hid hds
              clear hds
              obtain ⟨P, hP⟩ : ∃ P, storeF L ds = P := ⟨_, rfl⟩
              obtain ⟨E, hE⟩ : ∃ E, storeE L ds = E := ⟨_, rfl⟩
              have HP := Lib.hid hP
              have HE := Lib.hid hE
              clear hP hE
              go_wp2_with fail
              refine (lstore_any _ L _ _ _ ds _ ⟨AL, cL, rfl, Hj.out.h⟩ Hds.out (by omega)).mono ?_
              simp only [HP.out, HE.out]
              rintro e w5 ⟨v5, rfl, ⟨A5, c5, rfl, hown5⟩, hb5⟩
              have hs5 := hb5.size
              have H5 := Lib.hid (Has.of_own hown5)
              have p0 := cellK hb5 g3 z0
              have p1 := cellK hb5 g3 z1
              have p2 := cellK hb5 g3 z2
              have p3 := cellK hb5 g3 z3
              have l5 : wo.heap.size < w5.heap.size := by omega
              clear hown5
              go_wp2_with fail
              refine (rstore_any _ L _ _ _ ds _ ⟨AL, cL, rfl, (Hj.out.h.below hb5).alloc _⟩ ((Hds.out.below hb5).alloc _) (by omega)).mono ?_
              simp only [HP.out, HE.out]
              rintro e w6 ⟨v6, rfl, ⟨A6, c6, rfl, hown6⟩, hb6⟩
              have hs6 := hb6.size
              simp only [World.size_alloc] at hs6
              have H6 := Lib.hid (Has.of_own hown6)
              have H56 := Lib.hid ((H5.out.alloc (.cells #[.int .i64 P.addr, .slice A5 P.data.length c5, .bool P.dirty, .bool P.poison] 24)).below hb6)
              have q0 := cellK (g := w5.heap.size) (i := 0) (v := .int .i64 P.addr) hb6 (by (first | (with_reducible exact Nat.le_refl _) | (with_reducible assumption) | omega | (simp <;> omega))) (by simp [go_sem])
              have q1 := cellK (g := w5.heap.size) (i := 1) (v := .slice A5 P.data.length c5) hb6 (by (first | (with_reducible exact Nat.le_refl _) | (with_reducible assumption) | omega | (simp <;> omega))) (by simp [go_sem])
              have q2 := cellK (g := w5.heap.size) (i := 2) (v := .bool P.dirty) hb6 (by (first | (with_reducible exact Nat.le_refl _) | (with_reducible assumption) | omega | (simp <;> omega))) (by simp [go_sem])
              have q3 := cellK (g := w5.heap.size) (i := 3) (v := .bool P.poison) hb6 (by (first | (with_reducible exact Nat.le_refl _) | (with_reducible assumption) | omega | (simp <;> omega))) (by simp [go_sem])
              have l6 : w5.heap.size < w6.heap.size := by omega
              have hB6 := (show Below wr4.heap.size wr4 _ by (repeat' (first | (with_reducible exact Below.refl _ _) | (with_reducible assumption) | (with_reducible refine Below.alloc ?_ ?_ _) | (with_reducible refine Below.drew ?_) | (with_reducible refine below_drewN ?_ _) | (with_reducible refine Below.setCell ?_ ?_ _) | (with_reducible exact Nat.le_refl _) | omega | (simp <;> omega)))).trans (hb6.mono (show wr4.heap.size ≤ _ by (first | (with_reducible exact Nat.le_refl _) | (with_reducible assumption) | omega | (simp <;> omega))))
              clear hown6 p0 p1 p2 p3 hb5 hb6 H5
              go_wp2_with fail
              refine (same_any _ _ P P _ ⟨_, _, rfl, H56.out.alloc _⟩ ⟨_, _, rfl, H6.out.alloc _⟩).mono ?_
              rintro e w7 ⟨rfl, hb7⟩
              simp only [show sameB P P = true from by simp [sameB]]
              have hs7 := hb7.size
              have hB6s := hB6.size
              have hB7 := (show Below wr4.heap.size wr4 _ by (repeat' (first | (with_reducible exact Below.refl _ _) | (with_reducible assumption) | (with_reducible refine Below.alloc ?_ ?_ _) | (with_reducible refine Below.drew ?_) | (with_reducible refine below_drewN ?_ _) | (with_reducible refine Below.setCell ?_ ?_ _) | (with_reducible exact Nat.le_refl _) | omega | (simp <;> omega)))).trans (hb7.mono (show wr4.heap.size ≤ _ by (first | (with_reducible exact Nat.le_refl _) | (with_reducible assumption) | omega | (simp <;> omega))))
              clear hB6 hb7
              go_wp2_with fail
              go_roundw
              case rel => exact ⟨i3 + 1, by omega, by go_num, Hj.out.below hB7, Hm.out.below hB7⟩
              case measure => simp [intOf]; omega
            · have hge3 : 2 ≤ i3 := by omega
              clear hlt3
              obtain ⟨F, hF⟩ : ∃ F, loadF L = F := ⟨_, rfl⟩
              obtain ⟨E, hE⟩ : ∃ E, loadE L = E := ⟨_, rfl⟩
              obtain ⟨D, hD⟩ : ∃ D, damageF L = D := ⟨_, rfl⟩
              have HF := Lib.hid hF
              have HE := Lib.hid hE
              have HD := Lib.hid hD
              clear hF hE hD
              go_wp2_with fail
              refine (lload_any _ L _ ⟨AL, cL, rfl, Hj.out.h⟩ (by omega)).mono ?_
              simp only [HF.out, HE.out]
              rintro e w5 ⟨A5, c5, rfl, hown5, hb5⟩
              have hs5 := hb5.size
              have H5 := Lib.hid (Has.of_own hown5)
              have p0 := cellK hb5 g3 z0
              have p1 := cellK hb5 g3 z1
              have p2 := cellK hb5 g3 z2
              have p3 := cellK hb5 g3 z3
              have g5 : wo.heap.size < w5.heap.size := by omega
              clear hown5
              go_wp2_with fail
              refine (rload_any _ L _ ⟨AL, cL, rfl, (Hj.out.h.below hb5)⟩ (by omega)).mono ?_
              simp only [HF.out, HE.out]
              rintro e w6 ⟨A6, c6, rfl, hown6, hb6⟩
              have hs6 := hb6.size
              have H6 := Lib.hid (Has.of_own hown6)
              have H56 := Lib.hid (H5.out.below hb6)
              have q0 := cellK hb6 g5 p0
              have q1 := cellK hb6 g5 p1
              have q2 := cellK hb6 g5 p2
              have q3 := cellK hb6 g5 p3
              have g6 : wo.heap.size < w6.heap.size := by omega
              have hB6 := hb5.trans (hb6.mono hb5.size)
              have HL6 := Lib.hid (Hj.out.h.below hB6)
              have uA := run_string_has (P := Try.prog) 22 9 5 Try.underlying22 (by kernel_rfl) (by kernel_rfl) w6.drew A5 F.length c5 F (H56.out).drew
              have uB := run_string_has (P := Try.prog) 22 9 5 Try.underlying22 (by kernel_rfl) (by kernel_rfl) w6.drew A6 F.length c6 F (H6.out).drew
              clear hown6 p0 p1 p2 p3 hb5 hb6 H5 g5
              go_wp2_with fail
              go_region_held3 (fun w' => w'.cell? ⟨wo.heap.size, 0, none⟩ = some (.int .i64 L.addr) ∧ w'.cell? ⟨wo.heap.size, 1, none⟩ = some (.slice AL L.data.length cL) ∧ w'.cell? ⟨wo.heap.size, 2, none⟩ = some (.bool L.dirty) ∧ w'.cell? ⟨wo.heap.size, 3, none⟩ = some (.bool L.poison) ∧ (convert 22 9 (.slice A5 F.length c5)).run Try.prog w' = .ok (.string ⟨F.toArray⟩) w' ∧ (convert 22 9 (.slice A6 F.length c6)).run Try.prog w' = .ok (.string ⟨F.toArray⟩) w') (go_keep)
                (first | (go_at_call 17; refine (ldamage_any _ L _ ⟨AL, cL, rfl, HL6.out.drew⟩ (by omega)).mono ?_; simp only [HD.out]; rintro e w7 ⟨v7, rfl, ⟨A7, c7, rfl, hown7⟩, hb7⟩; have hB7 := (show Below w6.heap.size w6 _ by (repeat' (first | (with_reducible exact Below.refl _ _) | (with_reducible assumption) | (with_reducible refine Below.alloc ?_ ?_ _) | (with_reducible refine Below.drew ?_) | (with_reducible refine below_drewN ?_ _) | (with_reducible refine Below.setCell ?_ ?_ _) | (with_reducible exact Nat.le_refl _) | omega | (simp <;> omega)))).trans hb7; have H7 := Lib.hid (Has.of_own hown7); clear hb7 hown7 uA uB; have s0 := cellK hB7 g6 q0; have s1 := cellK hB7 g6 q1; have s2 := cellK hB7 g6 q2; have s3 := cellK hB7 g6 q3; have sA := run_string_has (P := Try.prog) 22 9 5 Try.underlying22 (by kernel_rfl) (by kernel_rfl) w7 A5 F.length c5 F (H56.out.below hB7); have sB := run_string_has (P := Try.prog) 22 9 5 Try.underlying22 (by kernel_rfl) (by kernel_rfl) w7 A6 F.length c6 F (H6.out.below hB7)) | (go_at_call 18; refine (rdamage_any _ L _ ⟨AL, cL, rfl, HL6.out.below hB7⟩ (by omega)).mono ?_; simp only [HD.out]; rintro e w8 ⟨v8, rfl, ⟨A8, c8, rfl, hown8⟩, hb8⟩; have hB8 := hB7.trans (hb8.mono hB7.size); have H8 := Lib.hid (Has.of_own hown8); have H78 := Lib.hid (H7.out.below hb8); clear hb8 hown8; have t0 := cellK hB8 g6 q0; have t1 := cellK hB8 g6 q1; have t2 := cellK hB8 g6 q2; have t3 := cellK hB8 g6 q3; have tA := run_string_has (P := Try.prog) 22 9 5 Try.underlying22 (by kernel_rfl) (by kernel_rfl) w8 A5 F.length c5 F (H56.out.below hB8); have tB := run_string_has (P := Try.prog) 22 9 5 Try.underlying22 (by kernel_rfl) (by kernel_rfl) w8 A6 F.length c6 F (H6.out.below hB8)) | (go_at_call 12; refine (same_any _ _ D D _ ⟨_, _, rfl, H78.out⟩ ⟨_, _, rfl, H8.out⟩).mono ?_; rintro e w9 ⟨rfl, hb9⟩; simp only [show sameB D D = true from by simp [sameB]]; have hB9 := hB8.trans (hb9.mono hB8.size); clear hb9; have v0 := cellK hB9 g6 q0; have v1 := cellK hB9 g6 q1; have v2 := cellK hB9 g6 q2; have v3 := cellK hB9 g6 q3; have vA := run_string_has (P := Try.prog) 22 9 5 Try.underlying22 (by kernel_rfl) (by kernel_rfl) w9 A5 F.length c5 F (H56.out.below hB9); have vB := run_string_has (P := Try.prog) 22 9 5 Try.underlying22 (by kernel_rfl) (by kernel_rfl) w9 A6 F.length c6 F (H6.out.below hB9)))
              have I9 := Hj.out.below (hB6.trans (hB9.mono hB6.size))
              have HI9 := Lib.hid I9
              clear I9
              go_wp2_with fail
              go_roundw
              case rel => exact ⟨k + 1, by omega, by go_num, HI9.out.b, HI9.out.e, HI9.out.l, HI9.out.d⟩
              case measure => simp [intOf]; omega
    · have hge : 2 ≤ k := by omega
      clear hlt
      go_wp2_with fail
      refine (awake_any _).mono ?_
      rintro e w10 ⟨rfl, hb10⟩
      have hB10 := hB.trans (hb10.mono hB.size)
      clear hB hb10
      go_wp2_with fail
      go_ret
      exact ⟨rfl, hB10⟩
set_option maxRecDepth 100000 in
set_option maxHeartbeats 2000000 in
theorem acts_long (vx : Value) (X : LineD) (A2 : Option Addr) (n2 c2 : Nat) (k1 k2 : Int) (b : UInt8) (w : World) (hx : IsLine w vx X)
    (h : 200 < X.data.length ∨ 200 < n2) :
    Calls Try.prog 3 #[vx, .slice A2 n2 c2, .int .i64 k1, .int .i64 k2, .int .u8 b.toNat] w fun e w' => e = .returned (.bool true) ∧ Below w.heap.size w w' := by
  obtain ⟨A, c, rfl, hx⟩ := hx
  clear hx
  by_cases h2 : 200 < X.data.length
  all_goals
    go_enter Try.func3, Try.ntmps3
    go_wp2_with fail
    refine (awake_any _).mono ?_
    rintro e w1 ⟨rfl, hb1⟩
    have hb1' := (show Below w.heap.size w _ by (repeat' (first | (with_reducible exact Below.refl _ _) | (with_reducible assumption) | (with_reducible refine Below.alloc ?_ ?_ _) | (with_reducible refine Below.drew ?_) | (with_reducible refine below_drewN ?_ _) | (with_reducible refine Below.setCell ?_ ?_ _) | (with_reducible exact Nat.le_refl _) | omega | (simp <;> omega)))).trans (hb1.mono (show w.heap.size ≤ _ by (first | (with_reducible exact Nat.le_refl _) | (with_reducible assumption) | omega | (simp <;> omega))))
    go_wp2_with fail
    go_ret
    exact ⟨rfl, hb1'⟩

end Go.Proofs.Ytofngakjpdplaaa
