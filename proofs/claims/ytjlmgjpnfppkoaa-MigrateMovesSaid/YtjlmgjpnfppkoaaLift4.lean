/-
  From a reading of the arguments to the walks' own words: slices of lines. No condition.
-/
import Derived.Test.YtjlmgjpnfppkoaaLift2
import Derived.Test.YtjlmgjpnfppkoaaLines
namespace Go.Proofs.Ytjlmgjpnfppkoaa
open Go.RowKit Go.ChangeShapes Go.WideShapes Go.ChangeAt Go.Joins Go.Deep

section
variable {H : Type} {enc : TypeId × Value → H} {w : World} {base : Nat} {spare : Nat → Bool} {held : Bool}

theorem lines_of_cells {a : Addr} {n : Nat} (h : ∀ i, i < n → ∃ F : LineV, (-9223372036854775808 ≤ F.L.addr ∧ F.L.addr ≤ 9223372036854775807) ∧ w.cell? (a.add (i * 4)) = some (.int .i64 F.L.addr) ∧ w.cell? (a.add (i * 4 + 1)) = some (.slice F.A F.L.data.length F.c) ∧ w.cell? (a.add (i * 4 + 2)) = some (.bool F.L.dirty) ∧ w.cell? (a.add (i * 4 + 3)) = some (.bool F.L.poison) ∧ Has w F.A F.L.data.length 1 (byteVals F.L.data)) :
    ∃ xs : List LineV, IsLines w (some a) n xs ∧ ∀ x ∈ xs, -9223372036854775808 ≤ x.L.addr ∧ x.L.addr ≤ 9223372036854775807 := by
  have pick : ∃ f : Nat → LineV, ∀ i, i < n → (-9223372036854775808 ≤ (f i).L.addr ∧ (f i).L.addr ≤ 9223372036854775807) ∧ w.cell? (a.add (i * 4)) = some (.int .i64 (f i).L.addr) ∧ w.cell? (a.add (i * 4 + 1)) = some (.slice (f i).A (f i).L.data.length (f i).c) ∧ w.cell? (a.add (i * 4 + 2)) = some (.bool (f i).L.dirty) ∧ w.cell? (a.add (i * 4 + 3)) = some (.bool (f i).L.poison) ∧ Has w (f i).A (f i).L.data.length 1 (byteVals (f i).L.data) := by
    refine ⟨fun i => if hi : i < n then Classical.choose (h i hi) else LineV.zero, fun i hi => ?_⟩
    simp only [dif_pos hi]
    exact Classical.choose_spec (h i hi)
  obtain ⟨f, hf⟩ := pick
  refine ⟨(List.range n).map f, ⟨has_of_add (by rw [lineVals_len]; simp) ?_, fun x hx => ?_⟩, fun x hx => ?_⟩
  · intro j u hu
    have hlen : ((List.range n).map f).length = n := by simp
    have hj : j < n * 4 := by
      rcases Nat.lt_or_ge j (n * 4) with hl | hg
      · exact hl
      · rw [List.getElem?_eq_none (by rw [lineVals_len, hlen]; exact hg)] at hu; cases hu
    have hk : j / 4 < n := by omega
    obtain ⟨h0, h1, h2, h3⟩ := lineVals_get ((List.range n).map f) (j / 4) (by rw [hlen]; exact hk)
    have hg : ((List.range n).map f).getD (j / 4) LineV.zero = f (j / 4) := by simp [List.getD, hk]
    rw [hg] at h0 h1 h2 h3
    obtain ⟨-, c0, c1, c2, c3, -⟩ := hf (j / 4) hk
    have hm : j % 4 = 0 ∨ j % 4 = 1 ∨ j % 4 = 2 ∨ j % 4 = 3 := by omega
    rcases hm with hm | hm | hm | hm
    · have e : j / 4 * 4 = j := by omega
      rw [e] at h0 c0
      rw [h0] at hu
      rw [c0]; exact hu
    · have e : j / 4 * 4 + 1 = j := by omega
      rw [e] at h1 c1
      rw [h1] at hu
      rw [c1]; exact hu
    · have e : j / 4 * 4 + 2 = j := by omega
      rw [e] at h2 c2
      rw [h2] at hu
      rw [c2]; exact hu
    · have e : j / 4 * 4 + 3 = j := by omega
      rw [e] at h3 c3
      rw [h3] at hu
      rw [c3]; exact hu
  · obtain ⟨i, hi, rfl⟩ := List.mem_map.1 hx
    exact (hf i (List.mem_range.1 hi)).2.2.2.2.2
  · obtain ⟨i, hi, rfl⟩ := List.mem_map.1 hx
    exact (hf i (List.mem_range.1 hi)).1

theorem lines_of {P : Program} {t e ti ts tb te : TypeId} {s0 s1 s2 s3 : Field} {fuel : Nat} {cs : List Value} {x : DataW H × List MemPlace} (ht : P.underlying t = some (.slice e)) (he : P.underlying e = some (.struct #[s0, s1, s2, s3]))
    (hone : oneCellFields P #[s0, s1, s2, s3] = true) (hC : P.cellsOf e = 4) (e0 : s0.type = ti) (e1 : s1.type = ts) (e2 : s2.type = tb) (e3 : s3.type = tb) (hi : P.underlying ti = some (.int .i64)) (hs : P.underlying ts = some (.slice te)) (hte : P.underlying te = some (.int .u8)) (hc : P.cellsOf te = 1) (hb : P.underlying tb = some .bool) (h : DataW.trod enc P w base spare held fuel t cs = some x) :
    ∃ (A : Option Addr) (n c : Nat) (xs : List LineV), cs = [.slice A n c] ∧ IsLines w A n xs ∧ ∀ x ∈ xs, -9223372036854775808 ≤ x.L.addr ∧ x.L.addr ≤ 9223372036854775807 := by
  rcases open_slice ht h with ⟨h0, _⟩ | ⟨a, len, cap, m, k, D, Pl, hcs, hbb, hl, hm, hmm, hx, hit⟩
  · exact ⟨none, 0, 0, [], h0, ⟨Has.nil_ _ _ _, fun x hx => by simp at hx⟩, fun x hx => by simp at hx⟩
  · have hlm : len ≤ m := by rw [hmm]; split <;> omega
    obtain ⟨xs, hxs, hbd⟩ := lines_of_cells (w := w) (a := a) (n := len) (fun i hil => by
      obtain ⟨cs', hcc, ht'⟩ := hit i (by omega)
      rw [hC] at hcc
      obtain ⟨ys, n', _, _, _, hyl, hf⟩ := DataW.trod_struct he ht'
      obtain ⟨_, hcl, hat⟩ := World.cells?_some hcc
      match cs', hcl with
      | [v0, v1, v2, v3], _ =>
        obtain ⟨o0, k0⟩ := hone_of hone 0 s0 rfl
        obtain ⟨o1, k1⟩ := hone_of hone 1 s1 rfl
        obtain ⟨o2, k2⟩ := hone_of hone 2 s2 rfl
        obtain ⟨o3, k3⟩ := hone_of hone 3 s3 rfl
        have g0 := hf 0 s0 rfl
        have g1 := hf 1 s1 rfl
        have g2 := hf 2 s2 rfl
        have g3 := hf 3 s3 rfl
        rw [o0, k0, e0] at g0
        rw [o1, k1, e1] at g1
        rw [o2, k2, e2] at g2
        rw [o3, k3, e3] at g3
        have hys : ys.length = 4 := hyl
        rw [List.getElem?_eq_getElem (by omega)] at g0 g1 g2 g3
        simp only [List.drop_zero, List.take_succ_cons, List.take_zero, List.drop_succ_cons] at g0 g1 g2 g3
        obtain ⟨a0, q0, _, wa⟩ := DataW.trod_int hi g0
        obtain ⟨A1, m1, c1, bs, q1, hA1, _⟩ := bytes_of hs hte hc g1
        obtain ⟨b2, q2, _⟩ := DataW.trod_bool hb g2
        obtain ⟨b3, q3, _⟩ := DataW.trod_bool hb g3
        simp at q0 q1 q2 q3
        subst q0 q1 q2 q3
        have r0 := hat 0 (by omega)
        have r1 := hat 1 (by omega)
        have r2 := hat 2 (by omega)
        have r3 := hat 3 (by omega)
        rw [Go.Deep.add_add] at r0 r1 r2 r3
        rw [Nat.add_zero] at r0
        have hl' : bs.length = m1 := by have := hA1.1; simp [byteVals] at this; omega
        subst hl'
        exact ⟨⟨⟨a0, bs, b2, b3⟩, A1, c1⟩, int_bd wa, by simpa using r0, by simpa using r1, by simpa using r2, by simpa using r3, hA1⟩)
    exact ⟨some a, len, cap, xs, hcs, hxs, hbd⟩

set_option maxRecDepth 100000 in
theorem lines_arg {r : Reach} {b0 : Nat} {v : Value} {d : DataW H} {p : List MemPlace} (hv : Value.okWide Try.prog w r b0 22 v) (h : DataW.Trod enc Try.prog w base spare held 22 v d p) :
    ∃ (A : Option Addr) (n c : Nat) (xs : List LineV), v = .slice A n c ∧ IsLines w A n xs ∧ ∀ x ∈ xs, -9223372036854775808 ≤ x.L.addr ∧ x.L.addr ≤ 9223372036854775807 := by
  obtain ⟨a, l, c, rfl⟩ := okWide_slice Try.underlying22 hv
  obtain ⟨fuel, hf⟩ := h
  obtain ⟨A, n, c', xs, e, hA, hb⟩ := lines_of Try.underlying22 Try.underlying28 (by kernel_rfl) (by kernel_rfl) rfl rfl rfl rfl Try.underlying3 Try.underlying26 Try.underlying5 (by kernel_rfl) Try.underlying4 hf
  simp [Value.cells] at e
  obtain ⟨rfl, rfl, rfl⟩ := e
  exact ⟨_, _, _, xs, rfl, hA, hb⟩
end
end Go.Proofs.Ytjlmgjpnfppkoaa
