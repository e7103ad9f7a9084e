/-
  From a reading of the arguments to the walks' own words, for the types of this seat. No condition.
-/
import Derived.Test.YtjlmgjpnfppkoaaLift
namespace Go.Proofs.Ytjlmgjpnfppkoaa
open Go.RowKit Go.ChangeShapes Go.WideShapes Go.ChangeAt Go.Joins Go.Deep

theorem int_bd {a : Int} (w : (Lit.int .i64 a).wf = true) : -9223372036854775808 ≤ a ∧ a ≤ 9223372036854775807 := by
  simpa [Lit.wf, IntKind.min, IntKind.max, IntKind.signed, IntKind.bits] using w

section
variable {H : Type} {enc : TypeId × Value → H} {w : World} {base : Nat} {spare : Nat → Bool} {held : Bool}

set_option maxRecDepth 100000 in
theorem ints_arg {r : Reach} {b0 : Nat} {v : Value} {d : DataW H} {p : List MemPlace} (hv : Value.okWide Try.prog w r b0 23 v) (h : DataW.Trod enc Try.prog w base spare held 23 v d p) :
    ∃ (A : Option Addr) (n c : Nat) (zs : List Int), v = .slice A n c ∧ Has w A n 1 (zs.map (Value.int .i64)) ∧ ∀ z ∈ zs, -9223372036854775808 ≤ z ∧ z ≤ 9223372036854775807 := by
  obtain ⟨a, l, c, rfl⟩ := okWide_slice Try.underlying23 hv
  obtain ⟨fuel, hf⟩ := h
  obtain ⟨A, n, c', ss, e, hA, hwf, _⟩ := ints_of Try.underlying23 Try.underlying3 (by kernel_rfl) hf
  simp [Value.cells] at e
  obtain ⟨rfl, rfl, rfl⟩ := e
  exact ⟨_, _, _, ss, rfl, hA, fun z hz => int_bd (hwf z hz)⟩

theorem six_of {P : Program} {t ti tb : TypeId} {s0 s1 s2 s3 s4 s5 : Field} {r : Reach} {b0 : Nat} {v : Value} {d : DataW H} {p : List MemPlace} (hs : P.underlying t = some (.struct #[s0, s1, s2, s3, s4, s5])) (hone : oneCellFields P #[s0, s1, s2, s3, s4, s5] = true) (hC : P.cellsOf t = 6)
    (e0 : s0.type = ti) (e1 : s1.type = ti) (e2 : s2.type = ti) (e3 : s3.type = ti) (e4 : s4.type = tb) (e5 : s5.type = tb) (hi : P.underlying ti = some (.int .i64)) (hb : P.underlying tb = some .bool)
    (hv : Value.okWide P w r b0 t v) (h : DataW.Trod enc P w base spare held t v d p) :
    ∃ (f t c n : Int) (s x : Bool), v = .agg #[.int .i64 f, .int .i64 t, .int .i64 c, .int .i64 n, .bool s, .bool x] ∧ -9223372036854775808 ≤ c ∧ c ≤ 9223372036854775807 := by
  obtain ⟨cs, rfl, hsz⟩ := okWide_struct hs hv
  obtain ⟨l⟩ := cs
  match l, hsz.trans hC with
  | [c0, c1, c2, c3, c4, c5], _ =>
    obtain ⟨fuel, hf⟩ := h
    obtain ⟨xs, m, _, hx, _, hlen, hg⟩ := DataW.trod_struct hs hf
    have pick : ∀ (i : Nat) (f : Field) (c : Value), #[s0, s1, s2, s3, s4, s5][i]? = some f → [c0, c1, c2, c3, c4, c5][i]? = some c → ∃ y, DataW.trod enc P w base spare held m f.type [c] = some y := by
      intro i f c hf hc
      obtain ⟨o, k⟩ := hone_of hone i f hf
      have h1 := hg i f hf
      rw [o, k] at h1
      have hi6 : i < 6 := (Array.getElem?_eq_some_iff.1 hf).1
      have hd : (((⟨[c0, c1, c2, c3, c4, c5]⟩ : Array Value).toList.drop i).take 1) = [c] := by
        have hl : i < [c0, c1, c2, c3, c4, c5].length := hi6
        have hc' : [c0, c1, c2, c3, c4, c5][i] = c := by rw [List.getElem?_eq_getElem hl] at hc; exact Option.some.inj hc
        show ([c0, c1, c2, c3, c4, c5].drop i).take 1 = [c]
        rw [List.drop_eq_getElem_cons hl, hc']
        rfl
      have hxi : i < xs.length := by rw [hlen]; exact hi6
      simp only [Value.cells] at h1
      rw [hd, List.getElem?_eq_getElem hxi] at h1
      exact ⟨_, h1⟩
    obtain ⟨y0, t0⟩ := pick 0 s0 c0 rfl rfl
    obtain ⟨y1, t1⟩ := pick 1 s1 c1 rfl rfl
    obtain ⟨y2, t2⟩ := pick 2 s2 c2 rfl rfl
    obtain ⟨y3, t3⟩ := pick 3 s3 c3 rfl rfl
    obtain ⟨y4, t4⟩ := pick 4 s4 c4 rfl rfl
    obtain ⟨y5, t5⟩ := pick 5 s5 c5 rfl rfl
    rw [e0] at t0; rw [e1] at t1; rw [e2] at t2; rw [e3] at t3; rw [e4] at t4; rw [e5] at t5
    obtain ⟨f, g0, _, _⟩ := DataW.trod_int hi t0
    obtain ⟨t', g1, _, _⟩ := DataW.trod_int hi t1
    obtain ⟨c, g2, _, wc⟩ := DataW.trod_int hi t2
    obtain ⟨n, g3, _, _⟩ := DataW.trod_int hi t3
    obtain ⟨s, g4, _⟩ := DataW.trod_bool hb t4
    obtain ⟨x, g5, _⟩ := DataW.trod_bool hb t5
    simp at g0 g1 g2 g3 g4 g5
    subst g0 g1 g2 g3 g4 g5
    exact ⟨f, t', c, n, s, x, rfl, (int_bd wc).1, (int_bd wc).2⟩

set_option maxRecDepth 100000 in
theorem tr_of {r : Reach} {b0 : Nat} {v : Value} {d : DataW H} {p : List MemPlace} (hv : Value.okWide Try.prog w r b0 59 v) (h : DataW.Trod enc Try.prog w base spare held 59 v d p) :
    ∃ (f t c n : Int) (s x : Bool), v = .agg #[.int .i64 f, .int .i64 t, .int .i64 c, .int .i64 n, .bool s, .bool x] ∧ -9223372036854775808 ≤ c ∧ c ≤ 9223372036854775807 :=
  six_of Try.underlying59 (by kernel_rfl) (by kernel_rfl) rfl rfl rfl rfl rfl rfl Try.underlying3 Try.underlying4 hv h
end
end Go.Proofs.Ytjlmgjpnfppkoaa
