/-
  The walk of FrameChanges: it returns true, and what was there before is as it was.
-/
import Derived.LoopTactic
import Derived.Deep.CutBlock
import Derived.Deep.DeepCutAuto
import Derived.Test.YtjlmgjpnfppkoaaFStates
import Derived.Test.YtjlmgjpnfppkoaaFrOpsR
import Derived.Test.YtjlmgjpnfppkoaaFrTakeR
import Derived.Test.YtjlmgjpnfppkoaaEq79
namespace Go.Proofs.Ytjlmgjpnfppkoaa
open Go.RowKit
attribute [local go_sem ↓] Go.wp_at_zero Go.wp_at_succ

def lenV : Value → Nat | .slice _ n _ => n | _ => 0

/-- Four rows of three numbers lie in the block g. -/
def Rows3 (w : World) (g : Nat) : Prop := ∀ j : Nat, j < 4 → ∃ X Y Z : Int, w.cell? ⟨g, j * 3, none⟩ = some (.int .i64 X) ∧ w.cell? ⟨g, j * 3 + 1, none⟩ = some (.int .i64 Y) ∧ w.cell? ⟨g, j * 3 + 2, none⟩ = some (.int .i64 Z)
theorem Rows3.below {w w' : World} {g B : Nat} (h : Rows3 w g) (hb : Below B w w') (hg : g < B) : Rows3 w' g := fun j hj => by
  obtain ⟨X, Y, Z, h0, h1, h2⟩ := h j hj
  exact ⟨X, Y, Z, cellK hb hg h0, cellK hb hg h1, cellK hb hg h2⟩
theorem Rows3.new (w : World) (a b c d e f g h i j k l : Int) (t : TypeId) : Rows3 (w.alloc (.cells #[.int .i64 a, .int .i64 b, .int .i64 c, .int .i64 d, .int .i64 e, .int .i64 f, .int .i64 g, .int .i64 h, .int .i64 i, .int .i64 j, .int .i64 k, .int .i64 l] t)) w.heap.size := by
  intro q hq
  have : q = 0 ∨ q = 1 ∨ q = 2 ∨ q = 3 := by omega
  rcases this with rfl | rfl | rfl | rfl
  · exact ⟨a, b, c, by simp [go_sem], by simp [go_sem], by simp [go_sem]⟩
  · exact ⟨d, e, f, by simp [go_sem], by simp [go_sem], by simp [go_sem]⟩
  · exact ⟨g, h, i, by simp [go_sem], by simp [go_sem], by simp [go_sem]⟩
  · exact ⟨j, k, l, by simp [go_sem], by simp [go_sem], by simp [go_sem]⟩
theorem takeL_len {fs : List FrD} {m : Nat} (hm : m ≤ 102) (hl : fs.length = m) (s b : Int) : (takeL fs s b).length ≤ 1048576 := by
  unfold takeL; split
  · rw [List.length_set]; omega
  · simp
theorem giveL_len {fs : List FrD} {m : Nat} (hm : m ≤ 102) (hl : fs.length = m) (f : Int) : (giveL fs f).length ≤ 1048576 := by
  unfold giveL; split
  · rw [List.length_set]; omega
  · simp
theorem retL_len {fs : List FrD} {m : Nat} (hm : m ≤ 102) (hl : fs.length = m) (f : Int) : (retL fs f).length ≤ 1048576 := by
  unfold retL; split
  · rw [List.length_set]; omega
  · simp
theorem chgL_len {fs : List FrD} {m : Nat} (hm : m ≤ 102) (hl : fs.length = m) (f s b : Int) : (chgL fs f s b).length ≤ 1048576 := by
  unfold chgL; split
  · rw [List.length_set]; omega
  · simp
/-- Three numbers lie in the block g. -/
def Box3 (w : World) (g : Nat) (X Y Z : Int) : Prop := w.cell? ⟨g, 0, none⟩ = some (.int .i64 X) ∧ w.cell? ⟨g, 1, none⟩ = some (.int .i64 Y) ∧ w.cell? ⟨g, 2, none⟩ = some (.int .i64 Z)
theorem Box3.below {w w' : World} {g B : Nat} {X Y Z : Int} (h : Box3 w g X Y Z) (hb : Below B w w') (hg : g < B) : Box3 w' g X Y Z := ⟨cellK hb hg h.1, cellK hb hg h.2.1, cellK hb hg h.2.2⟩
theorem Box3.new (w : World) (X Y Z : Int) (t : TypeId) : Box3 (w.alloc (.cells #[.int .i64 X, .int .i64 Y, .int .i64 Z] t)) w.heap.size X Y Z := by simp [Box3, go_sem]

set_option maxRecDepth 100000 in
set_option maxHeartbeats 32000000 in
theorem fchanges_any (A : Option Addr) (n c : Nat) (xs : List FrD) (A1 : Option Addr) (n1 c1 : Nat) (zs : List Int) (f s b what : Int) (w : World) (h : Has w A n 2 (frVals xs)) (h1 : Has w A1 n1 1 (zs.map (Value.int .i64)))
    (hw : -9223372036854775808 ≤ what ∧ what ≤ 9223372036854775807) :
    Calls Try.prog 13 #[.slice A n c, .slice A1 n1 c1, .int .i64 f, .int .i64 s, .int .i64 b, .int .i64 what] w fun e w' => e = .returned (.bool true) ∧ Below w.heap.size w w' := by
  have Hx := Lib.hid h
  have Hz := Lib.hid h1
  clear h h1
  by_cases hn : n ≤ 100
  · by_cases hn1 : n1 ≤ 400
    · obtain ⟨W, hW⟩ : ∃ W, mod what 6 = W := ⟨_, rfl⟩
      have rW := mod_range what 6 (by omega)
      rw [hW] at rW
      have HW := Lib.hid hW
      clear hW
      obtain ⟨i54, hi, hz0, hz1, hz2⟩ := info_parts info54
      have Hi := Lib.hid hi
      have Hz0 := Lib.hid hz0
      have Hz1 := Lib.hid hz1
      have Hz2 := Lib.hid hz2
      clear hi hz0 hz1 hz2
      go_enter Try.func13, Try.ntmps13
      go_wp2_with fail
      refine (light_yes A1 n1 c1 _ hn1).mono ?_
      rintro e w' ⟨rfl, rfl⟩
      go_wp2_with fail
      refine (roll_any A1 n1 c1 zs _ Hz.out hn1).mono ?_
      rintro e wd ⟨rfl, hD1, hb1⟩
      have hs1 := hb1.size
      have HB1 := Lib.hid hb1
      have HD1 := Lib.hid hD1
      clear hb1 hD1
      go_wp2_with fail
      refine (frames_any _ _ HD1.out).mono ?_
      rintro e we ⟨v, fs0, rfl, ⟨A2, c2, hv, hown⟩, hval, hlen, -, hb2⟩
      subst hv
      have HB2 := Lib.hid (HB1.out.trans (hb2.below hs1 (Nat.le_refl _)))
      have HO2 := Lib.hid (ownsRow_base hown hs1)
      have hs2 := HB2.out.size
      clear hb2 hown hval
      go_wp2_with fail
      refine (mod_any what 6 _ (by omega)).mono ?_
      rewrite [HW.out]
      rintro e w' ⟨rfl, rfl⟩
      go_upto_block 0 with fail
      go_cut [13] (fun s13 wx => ∃ (A : Option Addr) (n c : Nat) (fs : List FrD), s13 = .slice A n c ∧ n ≤ 102 ∧ Hid (Has wx A n 2 (frVals fs)) ∧ Hid (Below w.heap.size w wx))
      case first =>
        by_cases W0 : W = 0
        · subst W0
          go_wp2_with fail
          go_meet
          exact ⟨A, n, c, xs, rfl, by omega, Hx.out.below HB2.out, HB2.out⟩
        · have W0' : (W == 0) = false := by simp [W0]
          by_cases W1 : W = 1
          · subst W1
            go_wp2_with fail
            refine (mod_any (what.tdiv 6) 8 _ (by omega)).mono ?_
            obtain ⟨m1, m2⟩ := mod_range (what.tdiv 6) 8 (by omega)
            obtain ⟨m, hm⟩ : ∃ m, mod (what.tdiv 6) 8 = m := ⟨_, rfl⟩
            rw [hm] at m1 m2
            rewrite [hm]
            clear hm
            rintro e w' ⟨rfl, rfl⟩
            go_wp2_with fail
            refine (mod_any (what.tdiv 48) 3 _ (by omega)).mono ?_
            obtain ⟨q1, q2⟩ := mod_range (what.tdiv 48) 3 (by omega)
            obtain ⟨q, hq⟩ : ∃ q, mod (what.tdiv 48) 3 = q := ⟨_, rfl⟩
            rw [hq] at q1 q2
            rewrite [hq]
            clear hq
            rintro e w' ⟨rfl, rfl⟩
            go_wp2_with (first
              | (at_builtin; refine wpList_append_has _ rfl (.tmp 45) (.tmp 54) 40 rfl w.heap.size 54 i54 _ 2 16 Try.underlying40 Hi.out Hz0.out Hz1.out Hz2.out rfl (by decide) _ _ _ rfl (own_new HO2.out _) _ 1 1 (frVals [⟨m - 1, q⟩]) rfl (Has.lit_at _ _ _ 1 2 _ _ rfl (by (first | (with_reducible exact Nat.le_refl _) | (with_reducible assumption) | omega | (simp <;> omega))) rfl) (frVals_one _) (by unfold maxLen; omega) (by omega) (by (first | (with_reducible exact Nat.le_refl _) | (with_reducible assumption) | omega | (simp <;> omega))) ?_; intro v7 w7 h7 hg7 _))
            go_meet
            obtain ⟨A7, c7, rfl, -⟩ := own_form h7
            exact ⟨A7, fs0.length + 1, c7, fs0 ++ [⟨m - 1, q⟩], rfl, by omega, by show Has _ _ _ _ _; rw [frVals_append]; exact Has.of_own h7, (show Below w.heap.size w _ from HB2.out.alloc (by (first | (with_reducible exact Nat.le_refl _) | (with_reducible assumption) | omega | (simp <;> omega))) _).grown hg7 (by (first | (with_reducible exact Nat.le_refl _) | (with_reducible assumption) | omega | (simp <;> omega))) fun b hb => (HO2.out.lt b hb).1⟩
          · have W1' : (W == 1) = false := by simp [W1]
            by_cases W2 : W = 2
            · subst W2
              obtain ⟨m1, m2⟩ := mod_range (what.tdiv 6) 3 (by omega)
              obtain ⟨m, hm⟩ : ∃ m, mod (what.tdiv 6) 3 = m := ⟨_, rfl⟩
              rw [hm] at m1 m2
              have Hm := Lib.hid hm
              clear hm
              go_wp2_with fail
              go_loopw [13] (fun v wr => ∃ (fs : List FrD), Hid (OwnFrs wr w.heap.size v fs) ∧ fs.length ≤ 70 ∧ Hid (Below w.heap.size w wr)) (fun v _ => 100 - lenV v)
              case atStart => exact ⟨fs0, ⟨A2, c2, rfl, HO2.out⟩, by omega, HB2.out⟩
              case round =>
                obtain ⟨fs, HOw, hfl, HBr⟩ := hrel
                obtain ⟨A4, c4, hu, hown⟩ := HOw.out
                subst hu
                obtain ⟨M, hM⟩ : ∃ M, fs.length = M := ⟨_, rfl⟩
                rw [hM] at hown hfl
                rw [hM]
                have HM := Lib.hid hM
                have HO4 := Lib.hid hown
                have hsz := HBr.out.size
                clear hown hM
                by_cases hlt : (M : Int) < 63 + m
                · go_wp2_with fail
                  refine (mod_any (what.tdiv 6) 3 _ (by omega)).mono ?_
                  rewrite [Hm.out]
                  rintro e w' ⟨rfl, rfl⟩
                  go_wp2_with (first
                    | (at_builtin; refine wpList_append_has _ rfl (.tmp 65) (.tmp 67) 40 rfl w.heap.size 54 i54 _ 2 16 Try.underlying40 Hi.out Hz0.out Hz1.out Hz2.out rfl (by decide) _ _ _ rfl (own_new HO4.out _) _ 1 1 (frVals [⟨2, 0⟩]) rfl (Has.lit_at _ _ _ 1 2 _ _ rfl (by (first | (with_reducible exact Nat.le_refl _) | (with_reducible assumption) | omega | (simp <;> omega))) rfl) (frVals_one _) (by unfold maxLen; omega) (by omega) (by (first | (with_reducible exact Nat.le_refl _) | (with_reducible assumption) | omega | (simp <;> omega))) ?_; intro v7 w7 h7 hg7 _))
                  obtain ⟨A7, c7, rfl, -⟩ := own_form h7
                  go_roundw
                  case rel =>
                    refine ⟨fs ++ [⟨2, 0⟩], ⟨A7, c7, by simp [HM.out], ?_⟩, by simp [HM.out]; omega, (show Below w.heap.size w _ from HBr.out.alloc (by (first | (with_reducible exact Nat.le_refl _) | (with_reducible assumption) | omega | (simp <;> omega))) _).grown hg7 (by (first | (with_reducible exact Nat.le_refl _) | (with_reducible assumption) | omega | (simp <;> omega))) fun b hb => (HO4.out.lt b hb).1⟩
                    rw [frVals_append]
                    simpa [HM.out] using h7
                  case measure => simp [lenV]; omega
                · go_wp2_with fail
                  refine (mod_any (what.tdiv 6) 3 _ (by omega)).mono ?_
                  rewrite [Hm.out]
                  rintro e w' ⟨rfl, rfl⟩
                  go_wp2_with fail
                  go_meet
                  exact ⟨A4, M, c4, fs, rfl, by omega, Has.of_own HO4.out, HBr.out⟩
            · have W2' : (W == 2) = false := by simp [W2]
              go_wp2_with fail
              go_meet
              exact ⟨A2, fs0.length, c2, fs0, rfl, by omega, Has.of_own HO2.out, HB2.out⟩
      case rest =>
        clear HO2 HB2 HD1
        obtain ⟨Q, m, cq, fs, rfl, hm, HH, HBc⟩ := hcut
        have Hl := Lib.hid HH.out.frame
        have HH0 := HH
        have HB0 := HBc
        go_upto_region 12 with fail
        go_cut [91] (fun s91 wx => s91 = .bool false ∧ Hid (Has wx Q m 2 (frVals fs)) ∧ Hid (Below w.heap.size w wx))
        case first =>
          cases hv : validF fs
          · have Hv := Lib.hid hv
            clear hv
            go_wp2_with fail
            refine (fvalid_any Q m cq fs _ HH0.out).mono ?_
            rewrite [Hv.out]
            rintro e y1 ⟨rfl, hb1⟩
            have HH1 := Lib.hid (HH0.out.below hb1)
            have HB1 := Lib.hid (HB0.out.trans (hb1.mono HB0.out.size))
            clear hb1
            go_wp2_with fail
            refine (rvalid28_any Q m cq fs _ HH1.out (by omega)).mono ?_
            rewrite [Hv.out]
            rintro e y2 ⟨rfl, hb2⟩
            have HH2 := Lib.hid (HH1.out.below hb2)
            have HB2 := Lib.hid (HB1.out.trans (hb2.mono HB1.out.size))
            clear hb2
            go_wp2_with fail
            refine (rvalid28_any Q m cq fs _ HH2.out (by omega)).mono ?_
            rewrite [Hv.out]
            rintro e y3 ⟨rfl, hb3⟩
            have HH3 := Lib.hid (HH2.out.below hb3)
            have HB3 := Lib.hid (HB2.out.trans (hb3.mono HB2.out.size))
            clear hb3
            go_wp2_with fail
            go_meet
            exact ⟨rfl, HH3.out, HB3.out⟩
          · have Hv := Lib.hid hv
            have hfit := (validF_get hv).1
            have Hfit := Lib.hid hfit
            have hn79 := neq79
            clear hv hfit
            go_wp2_with fail
            refine (fvalid_any Q m cq fs _ HH0.out).mono ?_
            rewrite [Hv.out]
            rintro e y1 ⟨rfl, hb1⟩
            have HH1 := Lib.hid (HH0.out.below hb1)
            have HB1 := Lib.hid (HB0.out.trans (hb1.mono HB0.out.size))
            clear hb1
            go_wp2_with fail
            refine (rvalid28_any Q m cq fs _ HH1.out (by omega)).mono ?_
            rewrite [Hv.out]
            rintro e y2 ⟨rfl, hb2⟩
            have HH2 := Lib.hid (HH1.out.below hb2)
            have HB2 := Lib.hid (HB1.out.trans (hb2.mono HB1.out.size))
            clear hb2
            go_wp2_with fail
            refine (rvalid28_any Q m cq fs _ HH2.out (by omega)).mono ?_
            rewrite [Hv.out]
            rintro e y3 ⟨rfl, hb3⟩
            have HH3 := Lib.hid (HH2.out.below hb3)
            have HB3 := Lib.hid (HB2.out.trans (hb3.mono HB2.out.size))
            clear hb3
            go_wp2_with fail
            refine (dfree_any Q m cq fs _ HH3.out (by omega)).mono ?_
            rintro e y4 ⟨rfl, hb4⟩
            have HH4 := Lib.hid (HH3.out.below hb4)
            have HB4 := Lib.hid (HB3.out.trans (hb4.mono HB3.out.size))
            clear hb4
            go_wp2_with fail
            refine (rfree_any Q m cq fs _ HH4.out (by omega)).mono ?_
            rintro e y5 ⟨rfl, hb5⟩
            have HH5 := Lib.hid (HH4.out.below hb5)
            have HB5 := Lib.hid (HB4.out.trans (hb5.mono HB4.out.size))
            clear hb5
            go_wp2_with fail
            refine (count_any Q m cq fs _ HH5.out Hfit.out (by omega)).mono ?_
            rintro e y6 ⟨rfl, hb6⟩
            have HH6 := Lib.hid (HH5.out.below hb6)
            have HB6 := Lib.hid (HB5.out.trans (hb6.mono HB5.out.size))
            clear hb6
            go_wp2_with fail
            refine (rcount_any Q m cq fs _ HH6.out Hfit.out (by omega)).mono ?_
            rintro e y7 ⟨rfl, hb7⟩
            have HH7 := Lib.hid (HH6.out.below hb7)
            have HB7 := Lib.hid (HB6.out.trans (hb7.mono HB6.out.size))
            clear hb7
            go_wp2_with fail
            go_meet
            exact ⟨rfl, HH7.out, HB7.out⟩
        case rest =>
          obtain ⟨rfl, HH, HBx⟩ := hcut
          clear HH0 HB0 HBc
          have hszx := HBx.out.size
          have hm0 : (0 : Int) ≤ (m : Int) := by omega
          have hm102 : (m : Int) ≤ 102 := by omega
          go_wp2_with fail
          refine (mod_any f ((m : Int) + 2) _ (by omega)).mono ?_
          obtain ⟨p1, p2⟩ := mod_range f ((m : Int) + 2) (by omega)
          obtain ⟨p, hp⟩ : ∃ x, mod f ((m : Int) + 2) = x := ⟨_, rfl⟩
          rw [hp] at p1 p2
          rewrite [hp]
          clear hp
          rintro e w' ⟨rfl, rfl⟩
          go_wp2_with fail
          refine (mod_any s 7 _ (by omega)).mono ?_
          obtain ⟨q1, q2⟩ := mod_range s 7 (by omega)
          obtain ⟨q, hq⟩ : ∃ x, mod s 7 = x := ⟨_, rfl⟩
          rw [hq] at q1 q2
          rewrite [hq]
          clear hq
          rintro e w' ⟨rfl, rfl⟩
          go_wp2_with fail
          refine (mod_any b 3 _ (by omega)).mono ?_
          obtain ⟨r1, r2⟩ := mod_range b 3 (by omega)
          obtain ⟨r, hr⟩ : ∃ x, mod b 3 = x := ⟨_, rfl⟩
          rw [hr] at r1 r2
          rewrite [hr]
          clear hr
          rintro e w' ⟨rfl, rfl⟩
          go_wp2_with fail
          refine (mod_any f ((m : Int) + 1) _ (by omega)).mono ?_
          obtain ⟨t1, t2⟩ := mod_range f ((m : Int) + 1) (by omega)
          obtain ⟨t, ht⟩ : ∃ x, mod f ((m : Int) + 1) = x := ⟨_, rfl⟩
          rw [ht] at t1 t2
          rewrite [ht]
          clear ht
          rintro e w' ⟨rfl, rfl⟩
          go_wp2_with fail
          refine (mod_any b 2 _ (by omega)).mono ?_
          obtain ⟨u1, u2⟩ := mod_range b 2 (by omega)
          obtain ⟨u, hu⟩ : ∃ x, mod b 2 = x := ⟨_, rfl⟩
          rw [hu] at u1 u2
          rewrite [hu]
          clear hu
          rintro e w' ⟨rfl, rfl⟩
          go_wp2_with fail
          refine (mod_any f ((m : Int) + 1) _ (by omega)).mono ?_
          obtain ⟨x, hx⟩ : ∃ x, mod f ((m : Int) + 1) = x := ⟨_, rfl⟩
          rewrite [hx]
          clear hx
          rintro e w' ⟨rfl, rfl⟩
          go_wp2_with fail
          go_loopw [124] (fun i wr => ∃ k : Nat, k ≤ 4 ∧ i = .int .i64 k ∧ wc.heap.size < wr.heap.size ∧ Hid (Rows3 wr wc.heap.size) ∧ Hid (Has wr Q m 2 (frVals fs)) ∧ Hid (Below w.heap.size w wr)) (fun i _ => 4 - (intOf i).toNat)
          case atStart => exact ⟨0, by omega, rfl, by simp, Rows3.new _ _ _ _ _ _ _ _ _ _ _ _ _ _, HH.out.alloc _, HBx.out.alloc hszx _⟩
          case round =>
            obtain ⟨k, hk, rfl, hgl, HR, HHr, HBr⟩ := hrel
            have hsz := HBr.out.size
            by_cases hk4 : k < 4
            · obtain ⟨X, Y, Z, r0, r1, r2⟩ := HR.out k hk4
              have hk4' : (k : Int) < 4 := by omega
              have HBX0 := Lib.hid (Box3.new wr X Y Z 60)
              have HH0 := Lib.hid (HHr.out.alloc (.cells #[.int .i64 X, .int .i64 Y, .int .i64 Z] 60))
              have HR0 := Lib.hid ((Below.refl wr.heap.size wr).alloc (Nat.le_refl _) (.cells #[.int .i64 X, .int .i64 Y, .int .i64 Z] 60))
              have l0 : wr.heap.size < (wr.alloc (.cells #[.int .i64 X, .int .i64 Y, .int .i64 Z] 60)).heap.size := by simp
              go_wp2_with fail
              refine (take_any Q m cq Y Z fs _ HH0.out).mono ?_
              rintro e y1 ⟨va, rfl, ⟨Aa, ca, rfl, hoa⟩, hb1⟩
              have HH1 := Lib.hid (HH0.out.below hb1)
              have HR1 := Lib.hid (HR0.out.trans (hb1.mono HR0.out.size))
              have HBX1 := Lib.hid (HBX0.out.below hb1 l0)
              have l1 : wr.heap.size < y1.heap.size := Nat.lt_of_lt_of_le l0 hb1.size
              clear hb1
              obtain ⟨b0, b1, b2⟩ := HBX1.out
              have Ha := Lib.hid (Has.of_own hoa)
              clear hoa
              go_wp2_with fail
              refine (rtake_any Q m cq Y Z fs _ HH1.out (by omega)).mono ?_
              rintro e y2 ⟨vb, rfl, ⟨Ab, cb, rfl, hob⟩, hb2⟩
              have HH2 := Lib.hid (HH1.out.below hb2)
              have HR2 := Lib.hid (HR1.out.trans (hb2.mono HR1.out.size))
              have HBX2 := Lib.hid (HBX1.out.below hb2 l1)
              have l2 : wr.heap.size < y2.heap.size := Nat.lt_of_lt_of_le l1 hb2.size
              have Ha := Lib.hid (Ha.out.below hb2)
              clear hb2
              clear b0 b1 b2
              obtain ⟨b0, b1, b2⟩ := HBX2.out
              have Hb := Lib.hid (Has.of_own hob)
              clear hob
              go_wp2_with fail
              refine (change_any Q m cq X Y Z fs _ HH2.out).mono ?_
              rintro e y3 ⟨vc, rfl, ⟨Ac, cc, rfl, hoc⟩, hb3⟩
              have HH3 := Lib.hid (HH2.out.below hb3)
              have HR3 := Lib.hid (HR2.out.trans (hb3.mono HR2.out.size))
              have HBX3 := Lib.hid (HBX2.out.below hb3 l2)
              have l3 : wr.heap.size < y3.heap.size := Nat.lt_of_lt_of_le l2 hb3.size
              have Ha := Lib.hid (Ha.out.below hb3)
              have Hb := Lib.hid (Hb.out.below hb3)
              clear hb3
              clear b0 b1 b2
              obtain ⟨b0, b1, b2⟩ := HBX3.out
              have Hc := Lib.hid (Has.of_own hoc)
              clear hoc
              go_wp2_with fail
              refine (rchange_any Q m cq X Y Z fs _ HH3.out (by omega)).mono ?_
              rintro e y4 ⟨vd, rfl, ⟨Ad, cd, rfl, hod⟩, hb4⟩
              have HH4 := Lib.hid (HH3.out.below hb4)
              have HR4 := Lib.hid (HR3.out.trans (hb4.mono HR3.out.size))
              have HBX4 := Lib.hid (HBX3.out.below hb4 l3)
              have l4 : wr.heap.size < y4.heap.size := Nat.lt_of_lt_of_le l3 hb4.size
              have Ha := Lib.hid (Ha.out.below hb4)
              have Hb := Lib.hid (Hb.out.below hb4)
              have Hc := Lib.hid (Hc.out.below hb4)
              clear hb4
              clear b0 b1 b2
              obtain ⟨b0, b1, b2⟩ := HBX4.out
              have Hd := Lib.hid (Has.of_own hod)
              clear hod
              go_wp2_with fail
              refine (frsame_any _ _ _ _ _ _ _ _ Ha.out Hb.out (takeL_len hm Hl.out _ _)).mono ?_
              rintro e y5 ⟨rfl, hb5⟩
              have HH5 := Lib.hid (HH4.out.below hb5)
              have HR5 := Lib.hid (HR4.out.trans (hb5.mono HR4.out.size))
              have HBX5 := Lib.hid (HBX4.out.below hb5 l4)
              have l5 : wr.heap.size < y5.heap.size := Nat.lt_of_lt_of_le l4 hb5.size
              have Hc := Lib.hid (Hc.out.below hb5)
              have Hd := Lib.hid (Hd.out.below hb5)
              clear hb5
              clear b0 b1 b2
              obtain ⟨b0, b1, b2⟩ := HBX5.out
              go_wp2_with fail
              refine (frsame_any _ _ _ _ _ _ _ _ Hc.out Hd.out (chgL_len hm Hl.out _ _ _)).mono ?_
              rintro e y6 ⟨rfl, hb6⟩
              have HH6 := Lib.hid (HH5.out.below hb6)
              have HR6 := Lib.hid (HR5.out.trans (hb6.mono HR5.out.size))
              have HBX6 := Lib.hid (HBX5.out.below hb6 l5)
              have l6 : wr.heap.size < y6.heap.size := Nat.lt_of_lt_of_le l5 hb6.size
              clear hb6
              clear b0 b1 b2
              obtain ⟨b0, b1, b2⟩ := HBX6.out
              clear Ha Hb Hc Hd
              go_wp2_with fail
              refine (give_any Q m cq X fs _ HH6.out).mono ?_
              rintro e y7 ⟨va, rfl, ⟨Aa, ca, rfl, hoa⟩, hb7⟩
              have HH7 := Lib.hid (HH6.out.below hb7)
              have HR7 := Lib.hid (HR6.out.trans (hb7.mono HR6.out.size))
              have HBX7 := Lib.hid (HBX6.out.below hb7 l6)
              have l7 : wr.heap.size < y7.heap.size := Nat.lt_of_lt_of_le l6 hb7.size
              clear hb7
              clear b0 b1 b2
              obtain ⟨b0, b1, b2⟩ := HBX7.out
              have Ha := Lib.hid (Has.of_own hoa)
              clear hoa
              go_wp2_with fail
              refine (rgive_any Q m cq X fs _ HH7.out (by omega)).mono ?_
              rintro e y8 ⟨vb, rfl, ⟨Ab, cb, rfl, hob⟩, hb8⟩
              have HH8 := Lib.hid (HH7.out.below hb8)
              have HR8 := Lib.hid (HR7.out.trans (hb8.mono HR7.out.size))
              have HBX8 := Lib.hid (HBX7.out.below hb8 l7)
              have l8 : wr.heap.size < y8.heap.size := Nat.lt_of_lt_of_le l7 hb8.size
              have Ha := Lib.hid (Ha.out.below hb8)
              clear hb8
              clear b0 b1 b2
              obtain ⟨b0, b1, b2⟩ := HBX8.out
              have Hb := Lib.hid (Has.of_own hob)
              clear hob
              go_wp2_with fail
              refine (retire_any Q m cq X fs _ HH8.out).mono ?_
              rintro e y9 ⟨vc, rfl, ⟨Ac, cc, rfl, hoc⟩, hb9⟩
              have HH9 := Lib.hid (HH8.out.below hb9)
              have HR9 := Lib.hid (HR8.out.trans (hb9.mono HR8.out.size))
              have HBX9 := Lib.hid (HBX8.out.below hb9 l8)
              have l9 : wr.heap.size < y9.heap.size := Nat.lt_of_lt_of_le l8 hb9.size
              have Ha := Lib.hid (Ha.out.below hb9)
              have Hb := Lib.hid (Hb.out.below hb9)
              clear hb9
              clear b0 b1 b2
              obtain ⟨b0, b1, b2⟩ := HBX9.out
              have Hc := Lib.hid (Has.of_own hoc)
              clear hoc
              go_wp2_with fail
              refine (rretire_any Q m cq X fs _ HH9.out (by omega)).mono ?_
              rintro e y10 ⟨vd, rfl, ⟨Ad, cd, rfl, hod⟩, hb10⟩
              have HH10 := Lib.hid (HH9.out.below hb10)
              have HR10 := Lib.hid (HR9.out.trans (hb10.mono HR9.out.size))
              have HBX10 := Lib.hid (HBX9.out.below hb10 l9)
              have l10 : wr.heap.size < y10.heap.size := Nat.lt_of_lt_of_le l9 hb10.size
              have Ha := Lib.hid (Ha.out.below hb10)
              have Hb := Lib.hid (Hb.out.below hb10)
              have Hc := Lib.hid (Hc.out.below hb10)
              clear hb10
              clear b0 b1 b2
              obtain ⟨b0, b1, b2⟩ := HBX10.out
              have Hd := Lib.hid (Has.of_own hod)
              clear hod
              go_wp2_with fail
              refine (frsame_any _ _ _ _ _ _ _ _ Ha.out Hb.out (giveL_len hm Hl.out _)).mono ?_
              rintro e y11 ⟨rfl, hb11⟩
              have HH11 := Lib.hid (HH10.out.below hb11)
              have HR11 := Lib.hid (HR10.out.trans (hb11.mono HR10.out.size))
              have HBX11 := Lib.hid (HBX10.out.below hb11 l10)
              have l11 : wr.heap.size < y11.heap.size := Nat.lt_of_lt_of_le l10 hb11.size
              have Hc := Lib.hid (Hc.out.below hb11)
              have Hd := Lib.hid (Hd.out.below hb11)
              clear hb11
              clear b0 b1 b2
              obtain ⟨b0, b1, b2⟩ := HBX11.out
              go_wp2_with fail
              refine (frsame_any _ _ _ _ _ _ _ _ Hc.out Hd.out (retL_len hm Hl.out _)).mono ?_
              rintro e y12 ⟨rfl, hb12⟩
              have HH12 := Lib.hid (HH11.out.below hb12)
              have HR12 := Lib.hid (HR11.out.trans (hb12.mono HR11.out.size))
              have HBX12 := Lib.hid (HBX11.out.below hb12 l11)
              have l12 : wr.heap.size < y12.heap.size := Nat.lt_of_lt_of_le l11 hb12.size
              clear hb12
              clear b0 b1 b2
              obtain ⟨b0, b1, b2⟩ := HBX12.out
              go_wp2_with fail
              go_roundw
              case rel => exact ⟨k + 1, by omega, by go_num, by omega, HR.out.below HR12.out (by omega), HH12.out, HBr.out.trans (HR12.out.mono hsz)⟩
              case measure => simp [intOf]; omega
            · have hk' : k = 4 := by omega
              subst hk'
              go_wp2_with fail
              refine (fawake_any _).mono ?_
              rintro e w7 ⟨rfl, hb7⟩
              have HB7 := Lib.hid (HBr.out.trans (hb7.mono hsz))
              clear hb7
              go_wp2_with fail
              go_ret
              exact ⟨rfl, HB7.out⟩
    · go_enter Try.func13, Try.ntmps13
      go_wp2_with fail
      refine (light_no A1 n1 c1 _ hn1).mono ?_
      rintro e w' ⟨rfl, rfl⟩
      go_wp2_with fail
      refine (fawake_any _).mono ?_
      rintro e w7 ⟨rfl, hb7⟩
      go_wp2_with fail
      go_ret
      exact ⟨rfl, hb7⟩
  · go_enter Try.func13, Try.ntmps13
    go_wp2_with fail
    refine (fawake_any _).mono ?_
    rintro e w7 ⟨rfl, hb7⟩
    go_wp2_with fail
    go_ret
    exact ⟨rfl, hb7⟩
end Go.Proofs.Ytjlmgjpnfppkoaa
