/-
  From a reading of the arguments to the walks' own words: slices of frames and of lines. No condition.
-/
import Derived.Test.YtjlmgjpnfppkoaaLift2
import Derived.Test.YtjlmgjpnfppkoaaFr
namespace Go.Proofs.Ytjlmgjpnfppkoaa
open Go.RowKit Go.ChangeShapes Go.WideShapes Go.ChangeAt Go.Joins Go.Deep

section
variable {H : Type} {enc : TypeId × Value → H} {w : World} {base : Nat} {spare : Nat → Bool} {held : Bool}

theorem frames_of_cells {a : Addr} {n : Nat} (h : ∀ i, i < n → ∃ F : FrD, w.cell? (a.add (i * 2)) = some (.int .i64 F.st) ∧ w.cell? (a.add (i * 2 + 1)) = some (.int .i64 F.bl)) :
    ∃ xs : List FrD, Has w (some a) n 2 (frVals xs) := by
  have pick : ∃ f : Nat → FrD, ∀ i, i < n → w.cell? (a.add (i * 2)) = some (.int .i64 (f i).st) ∧ w.cell? (a.add (i * 2 + 1)) = some (.int .i64 (f i).bl) := by
    refine ⟨fun i => if hi : i < n then Classical.choose (h i hi) else FrD.zero, fun i hi => ?_⟩
    simp only [dif_pos hi]
    exact Classical.choose_spec (h i hi)
  obtain ⟨f, hf⟩ := pick
  refine ⟨(List.range n).map f, has_of_add (by rw [frVals_len]; simp) ?_⟩
  intro j u hu
  have hlen : ((List.range n).map f).length = n := by simp
  have hj : j < n * 2 := by
    rcases Nat.lt_or_ge j (n * 2) with hl | hg
    · exact hl
    · rw [List.getElem?_eq_none (by rw [frVals_len, hlen]; exact hg)] at hu; cases hu
  have hk : j / 2 < n := by omega
  obtain ⟨h0, h1⟩ := frVals_get ((List.range n).map f) (j / 2) (by rw [hlen]; exact hk)
  have hg : ((List.range n).map f).getD (j / 2) FrD.zero = f (j / 2) := by simp [List.getD, hk]
  rw [hg] at h0 h1
  obtain ⟨c0, c1⟩ := hf (j / 2) hk
  rcases Nat.mod_two_eq_zero_or_one j with hm | hm
  · have e : j / 2 * 2 = j := by omega
    rw [e] at h0 c0
    rw [h0] at hu
    rw [c0]; exact hu
  · have e : j / 2 * 2 + 1 = j := by omega
    rw [e] at h1 c1
    rw [h1] at hu
    rw [c1]; exact hu

theorem frames_of {P : Program} {t e ti : TypeId} {s0 s1 : Field} {fuel : Nat} {cs : List Value} {x : DataW H × List MemPlace} (ht : P.underlying t = some (.slice e)) (he : P.underlying e = some (.struct #[s0, s1]))
    (hone : oneCellFields P #[s0, s1] = true) (hC : P.cellsOf e = 2) (e0 : s0.type = ti) (e1 : s1.type = ti) (hi : P.underlying ti = some (.int .i64)) (h : DataW.trod enc P w base spare held fuel t cs = some x) :
    ∃ (A : Option Addr) (n c : Nat) (xs : List FrD), cs = [.slice A n c] ∧ Has w A n 2 (frVals xs) := by
  rcases open_slice ht h with ⟨h0, _⟩ | ⟨a, len, cap, m, k, D, Pl, hcs, hb, hl, hm, hmm, hx, hit⟩
  · exact ⟨none, 0, 0, [], h0, Has.nil_ _ _ _⟩
  · have hlm : len ≤ m := by rw [hmm]; split <;> omega
    obtain ⟨xs, hxs⟩ := frames_of_cells (w := w) (a := a) (n := len) (fun i hil => by
      obtain ⟨cs', hc, ht'⟩ := hit i (by omega)
      rw [hC] at hc
      obtain ⟨ys, n', _, _, _, hyl, hf⟩ := DataW.trod_struct he ht'
      obtain ⟨_, hcl, hat⟩ := World.cells?_some hc
      match cs', hcl with
      | [v0, v1], _ =>
        obtain ⟨o0, k0⟩ := hone_of hone 0 s0 rfl
        obtain ⟨o1, k1⟩ := hone_of hone 1 s1 rfl
        have g0 := hf 0 s0 rfl
        have g1 := hf 1 s1 rfl
        rw [o0, k0, e0] at g0
        rw [o1, k1, e1] at g1
        have hys : ys.length = 2 := hyl
        rw [List.getElem?_eq_getElem (by omega)] at g0 g1
        simp only [List.drop_zero, List.take_succ_cons, List.take_zero, List.drop_succ_cons] at g0 g1
        obtain ⟨a0, q0, _, _⟩ := DataW.trod_int hi g0
        obtain ⟨a1, q1, _, _⟩ := DataW.trod_int hi g1
        simp at q0 q1
        subst q0 q1
        have r0 := hat 0 (by omega)
        have r1 := hat 1 (by omega)
        refine ⟨⟨a0, a1⟩, ?_, ?_⟩
        · rw [Go.Deep.add_add, Nat.add_zero] at r0
          simpa using r0
        · rw [Go.Deep.add_add] at r1
          simpa using r1)
    exact ⟨some a, len, cap, xs, hcs, hxs⟩

set_option maxRecDepth 100000 in
theorem frames_arg {r : Reach} {b0 : Nat} {v : Value} {d : DataW H} {p : List MemPlace} (hv : Value.okWide Try.prog w r b0 40 v) (h : DataW.Trod enc Try.prog w base spare held 40 v d p) :
    ∃ (A : Option Addr) (n c : Nat) (xs : List FrD), v = .slice A n c ∧ Has w A n 2 (frVals xs) := by
  obtain ⟨a, l, c, rfl⟩ := okWide_slice Try.underlying40 hv
  obtain ⟨fuel, hf⟩ := h
  obtain ⟨A, n, c', xs, e, hA⟩ := frames_of Try.underlying40 Try.underlying54 (by kernel_rfl) (by kernel_rfl) rfl rfl Try.underlying3 hf
  simp [Value.cells] at e
  obtain ⟨rfl, rfl, rfl⟩ := e
  exact ⟨_, _, _, xs, rfl, hA⟩
end
end Go.Proofs.Ytjlmgjpnfppkoaa
