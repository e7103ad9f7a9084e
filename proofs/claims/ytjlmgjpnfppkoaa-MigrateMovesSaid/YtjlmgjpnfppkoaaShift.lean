/-
  Frames and programs, walked: the contents of a frame go to another one.
-/
import Derived.LoopTactic
import Derived.Test.YtjlmgjpnfppkoaaPgRepl
import Derived.Test.YtjlmgjpnfppkoaaFrOps
namespace Go.Proofs.Ytjlmgjpnfppkoaa
open Go.RowKit
attribute [local go_sem ↓] Go.wp_at_zero Go.wp_at_succ

def shiftL (fs : List FrD) (a b : Nat) : List FrD := (fs.set b (fs.getD a FrD.zero)).set a ⟨0, 0⟩
def ShiftPost (w : World) (fs : List FrD) (ps : List PrD) (K T : Nat) (bad : Value) (e : Ending) (w' : World) : Prop :=
  (replE ps K T = 0 → ∃ v v2 ys, e = .returned (.tuple #[v, v2, .int .i64 0]) ∧ OwnFrs w' w.heap.size v (shiftL fs K T) ∧ ys.map PrV.P = replL ps K T ∧ OwnProgs w' w.heap.size v2 ys) ∧
  (replE ps K T ≠ 0 → e = .returned bad) ∧ Below w.heap.size w w'


set_option maxRecDepth 100000 in
set_option maxHeartbeats 8000000 in
theorem shift_any (A : Option Addr) (n c : Nat) (fs : List FrD) (PA : Option Addr) (pn pc : Nat) (xs : List PrV) (K T : Nat) (w : World) (hF : Has w A n 2 (frVals fs)) (hP : IsProgs w PA pn xs) (hs : Small xs) (hK : K < n) (hT : T < n) (hKT : K ≠ T) (hn : n ≤ 64) :
    Calls Try.prog 71 #[.slice A n c, .slice PA pn pc, .int .i64 K, .int .i64 T] w (ShiftPost w fs (xs.map PrV.P) K T (.tuple #[.slice none 0 0, .slice none 0 0, .int .i64 (replE (xs.map PrV.P) K T)])) := by
  have HF := Lib.hid hF
  have Hl := Lib.hid hF.frame
  have HP := Lib.hid hP
  have HS := Lib.hid hs
  have hK' : (K : Int) < (n : Int) := by omega
  have hT' : (T : Int) < (n : Int) := by omega
  have n1 : ¬ T = K := fun e => hKT e.symm
  have n2 : ¬ T * 2 + 1 = K * 2 := by omega
  have n3 : ¬ T * 2 = K * 2 + 1 := by omega
  have n4 : ¬ T * 2 = K * 2 := by omega
  have n5 : ¬ K = T := hKT
  clear hF hP hs
  by_cases hE : replE (xs.map PrV.P) K T = 0
  · have HE := Lib.hid hE
    clear hE
    go_enter Try.func71, Try.ntmps71
    go_wp2_with fail
    refine (drepl_any PA pn pc K T xs _ HP.out HS.out).mono ?_
    rewrite [HE.out]
    rintro e w1 ⟨v1, ys, rfl, hym, hO1, hb1⟩
    have HB1 := Lib.hid hb1
    have HO1 := Lib.hid hO1
    have hs1 := hb1.size
    clear hb1 hO1
    go_wp2_with fail
    refine (fclone_any A n c fs _ (HF.out.below HB1.out) (by omega)).mono ?_
    rintro e w2 ⟨A2, c2, rfl, hown, hb2⟩
    have hs2 := hb2.size
    have HB2 := Lib.hid (HB1.out.trans (hb2.mono hs1))
    have HO2 := Lib.hid (HO1.out.below hb2)
    obtain ⟨g, rfl, hg1, hg2⟩ := own_some hown (by omega)
    have hH := Has.of_own hown
    obtain ⟨g1, o1, e1, -, k0, k1⟩ := hH.frame_at hK
    obtain ⟨g3, o3, e3, -, t0, t1⟩ := hH.frame_at hT
    injection e1 with e1
    injection e1 with e11 e12
    subst e11 e12
    injection e3 with e3
    injection e3 with e31 e32
    subst e31 e32
    simp only [Nat.zero_add] at k0 k1 t0 t1
    have fk0 := own_frozen hown (K * 2)
    have fk1 := own_frozen hown (K * 2 + 1)
    have ft0 := own_frozen hown (T * 2)
    have ft1 := own_frozen hown (T * 2 + 1)
    have Hown := Lib.hid (ownsRow_base hown hs1)
    obtain ⟨⟨S0, B0⟩, hf⟩ : ∃ f, fs.getD K FrD.zero = f := ⟨_, rfl⟩
    rw [hf] at k0 k1
    dsimp only at k0 k1
    have Hf := Lib.hid hf
    clear hb2 hown hH hf
    go_wp2_with fail
    have h4 := own_set (own_set (own_set (own_set Hown.out (T * 2) (.int .i64 S0)) (T * 2 + 1) (.int .i64 B0)) (K * 2) (.int .i64 0)) (K * 2 + 1) (.int .i64 0)
    rw [show ((frVals fs).set (T * 2) (.int .i64 S0)).set (T * 2 + 1) (.int .i64 B0) = frVals (fs.set T ⟨S0, B0⟩) from frVals_set fs T ⟨S0, B0⟩, show ((frVals (fs.set T ⟨S0, B0⟩)).set (K * 2) (.int .i64 0)).set (K * 2 + 1) (.int .i64 0) = frVals ((fs.set T ⟨S0, B0⟩).set K ⟨0, 0⟩) from frVals_set _ K ⟨0, 0⟩] at h4
    have hsl : (shiftL fs K T).length = n := by rw [shiftL, List.length_set, List.length_set]; exact Hl.out
    have hsh : shiftL fs K T = (fs.set T ⟨S0, B0⟩).set K ⟨0, 0⟩ := by rw [shiftL, Hf.out]
    have hob : ∀ {e s q : Nat} {v : Value} {vs : List Value}, w2.ownsRow w.heap.size e s v q vs → v.ownBlock ≠ some g → ((((w2.setCell ⟨g, T * 2, none⟩ (.int .i64 S0)).setCell ⟨g, T * 2 + 1, none⟩ (.int .i64 B0)).setCell ⟨g, K * 2, none⟩ (.int .i64 0)).setCell ⟨g, K * 2 + 1, none⟩ (.int .i64 0)).ownsRow w.heap.size e s v q vs :=
      fun hr hne => ownsRow_setCell_far (ownsRow_setCell_far (ownsRow_setCell_far (ownsRow_setCell_far hr hne _) hne _) hne _) hne _
    have ho2 := HO2.out
    obtain ⟨pA, pC, hpv⟩ := ho2.1
    refine bodyPost_ret (v := .tuple #[.slice (some ⟨g, 0, none⟩) n c2, v1, .int .i64 0]) (by simp [results, Try.results71, go_sem]) rfl ⟨fun _ => ⟨_, v1, ys, rfl, ⟨_, c2, by rw [hsl], by rw [hsl, hsh]; exact h4⟩, hym, ⟨ho2.1, hob ho2.2.1 ?_, fun x hx => ⟨hob (ho2.2.2 x hx).1 (far_of' (ho2.2.2 x hx).1 Hown.out (by decide)), hob (ho2.2.2 x hx).2 (far_of' (ho2.2.2 x hx).2 Hown.out (by decide))⟩⟩⟩, fun h => absurd HE.out h, below_put (below_put (below_put (below_put HB2.out (by omega) _) (by omega) _) (by omega) _) (by omega) _⟩
    have h21 := ho2.2.1
    rw [hpv] at h21 ⊢
    exact far_of' h21 Hown.out (by decide)
  · obtain ⟨E, hEE⟩ : ∃ E, replE (xs.map PrV.P) K T = E := ⟨_, rfl⟩
    rw [hEE] at hE
    have HE := Lib.hid hEE
    have hE' : (E != 0) = true := by simp [hE]
    go_enter Try.func71, Try.ntmps71
    go_wp2_with fail
    refine (drepl_any PA pn pc K T xs _ HP.out HS.out).mono ?_
    rewrite [HE.out]
    clear hEE
    rintro e w1 ⟨v1, ys, rfl, -, -, hb1⟩
    go_wp2_with fail
    refine bodyPost_ret (v := .tuple #[.slice none 0 0, .slice none 0 0, .int .i64 E]) (by simp [results, Try.results71, go_sem]) rfl ⟨fun h => absurd h (by rw [HE.out]; exact hE), fun _ => by rw [HE.out], hb1⟩


set_option maxRecDepth 100000 in
set_option maxHeartbeats 8000000 in
theorem rshift_any (A : Option Addr) (n c : Nat) (fs : List FrD) (PA : Option Addr) (pn pc : Nat) (xs : List PrV) (K T : Nat) (w : World) (hF : Has w A n 2 (frVals fs)) (hP : IsProgs w PA pn xs) (hs : Small xs) (hK : K < n) (hT : T < n) (hKT : K ≠ T) (hn : n ≤ 64) :
    Calls Try.prog 73 #[.slice A n c, .slice PA pn pc, .int .i64 K, .int .i64 T] w (ShiftPost w fs (xs.map PrV.P) K T (.tuple #[.slice A n c, .slice PA pn pc, .int .i64 (replE (xs.map PrV.P) K T)])) := by
  have HF := Lib.hid hF
  have Hl := Lib.hid hF.frame
  have HP := Lib.hid hP
  have HS := Lib.hid hs
  have hK' : (K : Int) < (n : Int) := by omega
  have hT' : (T : Int) < (n : Int) := by omega
  have n1 : ¬ T = K := fun e => hKT e.symm
  have n2 : ¬ T * 2 + 1 = K * 2 := by omega
  have n3 : ¬ T * 2 = K * 2 + 1 := by omega
  have n4 : ¬ T * 2 = K * 2 := by omega
  have n5 : ¬ K = T := hKT
  clear hF hP hs
  by_cases hE : replE (xs.map PrV.P) K T = 0
  · have HE := Lib.hid hE
    clear hE
    go_enter Try.func73, Try.ntmps73
    go_wp2_with fail
    refine (rrepl_any PA pn pc K T xs _ HP.out HS.out).mono ?_
    rewrite [HE.out]
    rintro e w1 ⟨v1, ys, rfl, hym, hO1, hb1⟩
    have HB1 := Lib.hid hb1
    have HO1 := Lib.hid hO1
    have hs1 := hb1.size
    clear hb1 hO1
    go_wp2_with (first
      | (at_builtin; refine wpList_copy_has _ rfl (.const (.slice none 0 0)) (.tmp 26) 40 rfl w1.heap.size 54 _ 2 16 info54 Try.underlying40 rfl (by decide) (.slice none 0 0) rfl (World.ownsRow_nil _ _ _ _) _ _ _ (frVals fs) rfl (HF.out.below HB1.out) (frVals_one _) (by omega) (by omega) (Nat.le_refl _) ?_; intro A2 c2 w2 hown hb2; have hs2 := hb2.size; have HB2 := Lib.hid (HB1.out.trans (hb2.mono hs1)); have HO2 := Lib.hid (HO1.out.below hb2); obtain ⟨g, rfl, hg1, hg2⟩ := own_some hown (by omega); have hH := Has.of_own hown; obtain ⟨g1, o1, e1, -, k0, k1⟩ := hH.frame_at hK; obtain ⟨g3, o3, e3, -, t0, t1⟩ := hH.frame_at hT; injection e1 with e1; injection e1 with e11 e12; subst e11 e12; injection e3 with e3; injection e3 with e31 e32; subst e31 e32; simp only [Nat.zero_add] at k0 k1 t0 t1; have fk0 := own_frozen hown (K * 2); have fk1 := own_frozen hown (K * 2 + 1); have ft0 := own_frozen hown (T * 2); have ft1 := own_frozen hown (T * 2 + 1); have Hown := Lib.hid (ownsRow_base hown hs1); obtain ⟨⟨S0, B0⟩, hf⟩ : ∃ f, fs.getD K FrD.zero = f := ⟨_, rfl⟩; rw [hf] at k0 k1; dsimp only at k0 k1; have Hf := Lib.hid hf; clear hb2 hown hH hf))
    have h4 := own_set (own_set (own_set (own_set Hown.out (T * 2) (.int .i64 S0)) (T * 2 + 1) (.int .i64 B0)) (K * 2) (.int .i64 0)) (K * 2 + 1) (.int .i64 0)
    rw [show ((frVals fs).set (T * 2) (.int .i64 S0)).set (T * 2 + 1) (.int .i64 B0) = frVals (fs.set T ⟨S0, B0⟩) from frVals_set fs T ⟨S0, B0⟩, show ((frVals (fs.set T ⟨S0, B0⟩)).set (K * 2) (.int .i64 0)).set (K * 2 + 1) (.int .i64 0) = frVals ((fs.set T ⟨S0, B0⟩).set K ⟨0, 0⟩) from frVals_set _ K ⟨0, 0⟩] at h4
    have hsl : (shiftL fs K T).length = n := by rw [shiftL, List.length_set, List.length_set]; exact Hl.out
    have hsh : shiftL fs K T = (fs.set T ⟨S0, B0⟩).set K ⟨0, 0⟩ := by rw [shiftL, Hf.out]
    have hob : ∀ {e s q : Nat} {v : Value} {vs : List Value}, w2.ownsRow w.heap.size e s v q vs → v.ownBlock ≠ some g → ((((w2.setCell ⟨g, T * 2, none⟩ (.int .i64 S0)).setCell ⟨g, T * 2 + 1, none⟩ (.int .i64 B0)).setCell ⟨g, K * 2, none⟩ (.int .i64 0)).setCell ⟨g, K * 2 + 1, none⟩ (.int .i64 0)).ownsRow w.heap.size e s v q vs :=
      fun hr hne => ownsRow_setCell_far (ownsRow_setCell_far (ownsRow_setCell_far (ownsRow_setCell_far hr hne _) hne _) hne _) hne _
    have ho2 := HO2.out
    obtain ⟨pA, pC, hpv⟩ := ho2.1
    refine bodyPost_ret (v := .tuple #[.slice (some ⟨g, 0, none⟩) n c2, v1, .int .i64 0]) (by simp [results, Try.results73, go_sem]) rfl ⟨fun _ => ⟨_, v1, ys, rfl, ⟨_, c2, by rw [hsl], by rw [hsl, hsh]; exact h4⟩, hym, ⟨ho2.1, hob ho2.2.1 ?_, fun x hx => ⟨hob (ho2.2.2 x hx).1 (far_of' (ho2.2.2 x hx).1 Hown.out (by decide)), hob (ho2.2.2 x hx).2 (far_of' (ho2.2.2 x hx).2 Hown.out (by decide))⟩⟩⟩, fun h => absurd HE.out h, below_put (below_put (below_put (below_put HB2.out (by omega) _) (by omega) _) (by omega) _) (by omega) _⟩
    have h21 := ho2.2.1
    rw [hpv] at h21 ⊢
    exact far_of' h21 Hown.out (by decide)
  · obtain ⟨E, hEE⟩ : ∃ E, replE (xs.map PrV.P) K T = E := ⟨_, rfl⟩
    rw [hEE] at hE
    have HE := Lib.hid hEE
    have hE' : (E != 0) = true := by simp [hE]
    go_enter Try.func73, Try.ntmps73
    go_wp2_with fail
    refine (rrepl_any PA pn pc K T xs _ HP.out HS.out).mono ?_
    rewrite [HE.out]
    clear hEE
    rintro e w1 ⟨v1, ys, rfl, -, -, hb1⟩
    go_wp2_with fail
    refine bodyPost_ret (v := .tuple #[.slice A n c, .slice PA pn pc, .int .i64 E]) (by simp [results, Try.results73, go_sem]) rfl ⟨fun h => absurd h (by rw [HE.out]; exact hE), fun _ => by rw [HE.out], hb1⟩

end Go.Proofs.Ytjlmgjpnfppkoaa
