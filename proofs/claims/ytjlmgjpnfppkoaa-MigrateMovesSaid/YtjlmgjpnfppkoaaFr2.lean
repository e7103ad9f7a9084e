/-
  Frames, walked: the clone of a list, one frame replaced, taking.
-/
import Derived.LoopTactic
import Derived.Test.YtjlmgjpnfppkoaaFrWalk
namespace Go.Proofs.Ytjlmgjpnfppkoaa
open Go.RowKit
attribute [local go_sem ↓] Go.wp_at_zero Go.wp_at_succ

theorem info54 : (Try.prog.info? 54).map (fun i => (i.zero, i.size, i.bytes)) = some (some (.agg #[.int .i64 0, .int .i64 0]), 2, 16) := by kernel_rfl

set_option maxHeartbeats 400000 in
theorem fclone_any (A : Option Addr) (n c : Nat) (fs : List FrD) (w : World) (h : Has w A n 2 (frVals fs)) (hn : n ≤ 1048576) :
    Calls Try.prog 96 #[.slice A n c] w fun e w' => ∃ A' c', e = .returned (.slice A' n c') ∧ w'.ownsRow w.heap.size 54 2 (.slice A' n c') n (frVals fs) ∧ Below w.heap.size w w' := by
  have hq := fun (w : World) => Lib.run_eql_slice_nil (P := Try.prog) w 40 54 A n c 0 0 Try.underlying40
  rcases A with _ | ad
  · have hn0 : n = 0 := by
      rcases Nat.eq_zero_or_pos n with h0 | h0
      · exact h0
      · obtain ⟨b, off, h', _⟩ := h.2 (by omega)
        cases h'
    subst hn0
    have hb : fs = [] := List.eq_nil_of_length_eq_zero h.frame
    subst hb
    go_enter Try.func96, Try.ntmps96
    go_wp2
    go_ret
    exact ⟨none, 0, rfl, World.ownsRow_nil _ _ _ _, Below.refl _ _⟩
  · have Hh := Lib.hid h
    clear h
    go_enter Try.func96, Try.ntmps96
    go_wp2_with (first
      | (at_builtin; refine wpList_copy_has _ rfl (.tmp 5) (.tmp 6) 40 rfl w.heap.size 54 _ 2 16 info54 Try.underlying40 rfl (by decide) _ rfl (World.ownsRow_made _ #[] 0 (Nat.le_refl _) (by decide) rfl) _ _ _ (frVals fs) rfl (Hh.out.alloc _) (frVals_one _) (by omega) (by omega) (by simp) ?_; intro A' c' w1 hown hb))
    go_ret
    exact ⟨A', c', rfl, hown, ((Below.refl _ _).alloc (Nat.le_refl _) _).trans hb⟩

theorem own_set {w : World} {base : Nat} {e : TypeId} {size n c g : Nat} {xs : List Value} (h : w.ownsRow base e size (.slice (some ⟨g, 0, none⟩) n c) n xs) (i : Nat) (u : Value) :
    (w.setCell ⟨g, i, none⟩ u).ownsRow base e size (.slice (some ⟨g, 0, none⟩) n c) n (xs.set i u) := by
  obtain ⟨h1, h2⟩ := h
  rcases h2 with ⟨hv, _⟩ | ⟨g', cap, cur, hv, hb, hh, hc, hm, hz, ht⟩
  · cases hv
  · injection hv with e1 e2 e3
    injection e1 with e1
    injection e1 with e1
    subst e1 e3
    refine ⟨by simpa using h1, .inr ⟨g, c, cur.setIfInBounds i u, rfl, hb, ?_, hc, hm, by simpa using hz, ?_⟩⟩
    · simpa using heap_setCell_same w g i cur e u hh
    · rw [Array.toList_setIfInBounds, List.take_set, ht]
theorem own_frozen {w : World} {base : Nat} {e : TypeId} {size n c g : Nat} {xs : List Value} (h : w.ownsRow base e size (.slice (some ⟨g, 0, none⟩) n c) n xs) (i : Nat) : w.frozen? ⟨g, i, none⟩ = false := by
  obtain ⟨h1, h2⟩ := h
  rcases h2 with ⟨hv, _⟩ | ⟨g', cap, cur, hv, hb, hh, hc, hm, hz, ht⟩
  · cases hv
  · injection hv with e1 e2 e3
    injection e1 with e1
    injection e1 with e1
    subst e1 e3
    simp [World.frozen?, hh]
    try omega

set_option maxHeartbeats 1000000 in
theorem with_any (A : Option Addr) (n c k : Nat) (s b : Int) (fs : List FrD) (w : World) (h : Has w A n 2 (frVals fs)) (hn : n ≤ 1048576) (hk : k < n) :
    Calls Try.prog 83 #[.slice A n c, .int .i64 k, .agg #[.int .i64 s, .int .i64 b]] w fun e w' => ∃ A' c', e = .returned (.slice A' n c') ∧ w'.ownsRow w.heap.size 54 2 (.slice A' n c') n (frVals (fs.set k ⟨s, b⟩)) ∧ Below w.heap.size w w' := by
  have Hh := Lib.hid h
  have Hl := Lib.hid h.frame
  clear h
  go_enter Try.func83, Try.ntmps83
  go_wp2_with fail
  refine (fclone_any A n c fs _ ((Hh.out.alloc _)) hn).mono ?_
  rintro e w1 ⟨A', c', rfl, hown, hb1⟩
  have hs1 := hb1.size
  simp only [World.size_alloc] at hs1
  obtain ⟨k1, -⟩ := bkeep hb1 w.heap.size (by (first | (with_reducible exact Nat.le_refl _) | (with_reducible assumption) | omega | (simp <;> omega)))
  simp [go_sem] at k1
  have hB1 := (show Below w.heap.size w _ by (repeat' (first | (with_reducible exact Below.refl _ _) | (with_reducible assumption) | (with_reducible refine Below.alloc ?_ ?_ _) | (with_reducible refine Below.drew ?_) | (with_reducible refine below_drewN ?_ _) | (with_reducible refine Below.setCell ?_ ?_ _) | (with_reducible exact Nat.le_refl _) | omega | (simp <;> omega)))).trans (hb1.mono (show w.heap.size ≤ _ by (first | (with_reducible exact Nat.le_refl _) | (with_reducible assumption) | omega | (simp <;> omega))))
  obtain ⟨g, rfl, hg1, hg2⟩ := own_some hown (by omega)
  simp only [World.size_alloc] at hg1
  obtain ⟨g', off', e', -, c0, c1⟩ := (Has.of_own hown).frame_at hk
  injection e' with e'
  injection e' with e1 e2
  subst e1 e2
  simp only [Nat.zero_add] at c0 c1
  have f0 := own_frozen hown (k * 2)
  have f1 := own_frozen hown (k * 2 + 1)
  have hlt : (k : Int) < (n : Int) := by omega
  have Hown := Lib.hid hown
  clear hown hb1
  go_wp2_with fail
  go_ret
  have h2 := own_set (own_set Hown.out (k * 2) (.int .i64 s)) (k * 2 + 1) (.int .i64 b)
  rewrite [frVals_set fs k ⟨s, b⟩] at h2
  exact ⟨_, _, rfl, ownsRow_base h2 (by (first | (with_reducible exact Nat.le_refl _) | (with_reducible assumption) | omega | (simp <;> omega))), below_put (below_put hB1 (by omega) _) (by omega) _⟩

theorem idxF_range (pr : FrD → Bool) (fs : List FrD) : idxF pr fs = -1 ∨ ∃ k : Nat, idxF pr fs = k ∧ k < fs.length ∧ pr (fs.getD k FrD.zero) = true ∧ ∀ j, j < k → pr (fs.getD j FrD.zero) = false := by
  cases h : fs.findIdx? pr with
  | none => left; simp [idxF, h]
  | some i =>
    right
    obtain ⟨hi, hp, hb⟩ := List.findIdx?_eq_some_iff_getElem.1 h
    refine ⟨i, by simp [idxF, h], hi, by simpa [List.getD, List.getElem?_eq_getElem hi] using hp, fun j hj => ?_⟩
    have hjl : j < fs.length := by omega
    have := hb j hj
    simpa [List.getD, List.getElem?_eq_getElem hjl] using this

def takeE (fs : List FrD) (s b : Int) : Int := if validF fs = true then (if occB s = true ∧ fitB s b = true then (if freeF fs < 0 then 16 else 0) else 2) else 1
def takeI (fs : List FrD) (s b : Int) : Int := if takeE fs s b = 0 then freeF fs else -1
def takeL (fs : List FrD) (s b : Int) : List FrD := if takeE fs s b = 0 then fs.set (freeF fs).toNat ⟨s, b⟩ else []

/-- What the functions that give back frames promise: the list is a new one, its frames as said. -/
def OwnFrs (w : World) (B : Nat) (v : Value) (fs : List FrD) : Prop := ∃ A c, v = .slice A fs.length c ∧ w.ownsRow B 54 2 v fs.length (frVals fs)
theorem OwnFrs.nil_ (w : World) (B : Nat) : OwnFrs w B (.slice none 0 0) [] := ⟨none, 0, rfl, World.ownsRow_nil _ _ _ _⟩

set_option maxHeartbeats 2000000 in
theorem take_any (A : Option Addr) (n c : Nat) (s b : Int) (fs : List FrD) (w : World) (h : Has w A n 2 (frVals fs)) :
    Calls Try.prog 54 #[.slice A n c, .int .i64 s, .int .i64 b] w fun e w' => ∃ v, e = .returned (.tuple #[v, .int .i64 (takeI fs s b), .int .i64 (takeE fs s b)]) ∧ OwnFrs w' w.heap.size v (takeL fs s b) ∧ Below w.heap.size w w' := by
  have Hh := Lib.hid h
  have Hl := Lib.hid h.frame
  clear h
  cases hv : validF fs
  · have hE : takeE fs s b = 1 := by simp [takeE, hv]
    have hI : takeI fs s b = -1 := by simp [takeI, hE]
    have hL : takeL fs s b = [] := by simp [takeL, hE]
    rewrite [hE, hI, hL]
    have Hv := Lib.hid hv
    clear hE hI hL hv
    go_enter Try.func54, Try.ntmps54
    go_wp2_with fail
    refine (fvalid_any A n c fs _ Hh.out).mono ?_
    rewrite [Hv.out]
    rintro e w1 ⟨rfl, hb1⟩
    go_wp2_with fail
    go_ret3
    exact ⟨_, rfl, OwnFrs.nil_ _ _, hb1⟩
  have hn : n ≤ 64 ∧ 1 ≤ n := by
    have := hv
    simp [validF, Hl.out] at this
    omega
  by_cases hob : occB s = true ∧ fitB s b = true
  · obtain ⟨ho, hf⟩ := hob
    rcases idxF_range (fun f => f.st == 0) fs with hi | ⟨k, hi, hk, -, -⟩
    · have hi' : freeF fs = -1 := hi
      have hE : takeE fs s b = 16 := by simp [takeE, hv, ho, hf, hi']
      have hI : takeI fs s b = -1 := by simp [takeI, hE]
      have hL : takeL fs s b = [] := by simp [takeL, hE]
      rewrite [hE, hI, hL]
      have Hv := Lib.hid hv
      have Ho := Lib.hid ho
      have Hf := Lib.hid hf
      have Hi := Lib.hid hi'
      clear hE hI hL hv ho hf hi hi'
      go_enter Try.func54, Try.ntmps54
      go_wp2_with fail
      refine (fvalid_any A n c fs _ Hh.out).mono ?_
      rewrite [Hv.out]
      rintro e w1 ⟨rfl, hb1⟩
      have H1 := Lib.hid (Hh.out.below hb1)
      go_wp2_with fail
      refine (occ_any s _).mono ?_
      rewrite [Ho.out]
      rintro e w2 ⟨rfl, rfl⟩
      go_wp2_with fail
      refine (fit_any s b _).mono ?_
      rewrite [Hf.out]
      rintro e w2 ⟨rfl, rfl⟩
      go_wp2_with fail
      refine (dfree_any A n c fs _ H1.out (by omega)).mono ?_
      rewrite [Hi.out]
      rintro e w2 ⟨rfl, hb2⟩
      have hB2 := hb1.trans (hb2.mono hb1.size)
      go_wp2_with fail
      go_ret3
      exact ⟨_, rfl, OwnFrs.nil_ _ _, hB2⟩
    · have hi' : freeF fs = k := hi
      have hE : takeE fs s b = 0 := by simp [takeE, hv, ho, hf, hi']
      have hI : takeI fs s b = k := by simp [takeI, hE, hi']
      have hL : takeL fs s b = fs.set k ⟨s, b⟩ := by simp [takeL, hE, hi']
      rewrite [hE, hI, hL]
      have Hv := Lib.hid hv
      have Ho := Lib.hid ho
      have Hf := Lib.hid hf
      have Hi := Lib.hid hi'
      rewrite [Hl.out] at hk
      clear hE hI hL hv ho hf hi hi'
      go_enter Try.func54, Try.ntmps54
      go_wp2_with fail
      refine (fvalid_any A n c fs _ Hh.out).mono ?_
      rewrite [Hv.out]
      rintro e w1 ⟨rfl, hb1⟩
      have H1 := Lib.hid (Hh.out.below hb1)
      go_wp2_with fail
      refine (occ_any s _).mono ?_
      rewrite [Ho.out]
      rintro e w2 ⟨rfl, rfl⟩
      go_wp2_with fail
      refine (fit_any s b _).mono ?_
      rewrite [Hf.out]
      rintro e w2 ⟨rfl, rfl⟩
      go_wp2_with fail
      refine (dfree_any A n c fs _ H1.out (by omega)).mono ?_
      rewrite [Hi.out]
      rintro e w2 ⟨rfl, hb2⟩
      have hB2 := hb1.trans (hb2.mono hb1.size)
      have H2 := Lib.hid (Hh.out.below hB2)
      clear hb1 hb2 H1
      have hs2 := hB2.size
      go_wp2_with fail
      refine (with_any A n c k s b fs _ H2.out (by omega) hk).mono ?_
      rintro e w3 ⟨A', c', rfl, hown, hb3⟩
      have hB3 := hB2.trans (hb3.mono hB2.size)
      have Hown := Lib.hid hown
      clear hown hb3
      go_wp2_with fail
      go_ret3
      have hl : (fs.set k ⟨s, b⟩).length = n := by rw [List.length_set]; exact Hl.out
      exact ⟨_, rfl, ⟨A', c', by rw [hl]; rfl, by rw [hl]; exact ownsRow_base Hown.out hs2⟩, hB3⟩
  · have hE : takeE fs s b = 2 := by simp only [takeE, hv, if_true, if_neg hob]
    have hI : takeI fs s b = -1 := by simp [takeI, hE]
    have hL : takeL fs s b = [] := by simp [takeL, hE]
    rewrite [hE, hI, hL]
    have Hv := Lib.hid hv
    clear hE hI hL hv
    cases ho : occB s
    · have Ho := Lib.hid ho
      clear hob ho
      go_enter Try.func54, Try.ntmps54
      go_wp2_with fail
      refine (fvalid_any A n c fs _ Hh.out).mono ?_
      rewrite [Hv.out]
      rintro e w1 ⟨rfl, hb1⟩
      go_wp2_with fail
      refine (occ_any s _).mono ?_
      rewrite [Ho.out]
      rintro e w2 ⟨rfl, rfl⟩
      go_wp2_with fail
      go_ret3
      exact ⟨_, rfl, OwnFrs.nil_ _ _, hb1⟩
    · have hf : fitB s b = false := by
        cases hf : fitB s b
        · rfl
        · exact absurd ⟨ho, hf⟩ hob
      have Ho := Lib.hid ho
      have Hf := Lib.hid hf
      clear hob ho hf
      go_enter Try.func54, Try.ntmps54
      go_wp2_with fail
      refine (fvalid_any A n c fs _ Hh.out).mono ?_
      rewrite [Hv.out]
      rintro e w1 ⟨rfl, hb1⟩
      go_wp2_with fail
      refine (occ_any s _).mono ?_
      rewrite [Ho.out]
      rintro e w2 ⟨rfl, rfl⟩
      go_wp2_with fail
      refine (fit_any s b _).mono ?_
      rewrite [Hf.out]
      rintro e w2 ⟨rfl, rfl⟩
      go_wp2_with fail
      go_ret3
      exact ⟨_, rfl, OwnFrs.nil_ _ _, hb1⟩
end Go.Proofs.Ytjlmgjpnfppkoaa
