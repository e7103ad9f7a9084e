/-
  LineStays returns true for every input, and each argument reads behind the call as it read before. No condition.
-/
import Derived.Test.YtofngakjpdplaaaLift
import Derived.Test.YtofngakjpdplaaaLStays
namespace Go.Proofs.Ytofngakjpdplaaa.lineStays
open Go.ChangeShapes Go.WideShapes Go.ChangeAt Go.RowKit
set_option linter.unusedVariables false

theorem own : ownKnob Try.prog.godebug = none := by kernel_rfl
theorem laid : laidOutB Try.prog = true := by kernel_rfl
theorem cells24 : Try.prog.cellsOf 24 = 4 := by kernel_rfl
theorem cells5 : Try.prog.cellsOf 5 = 1 := by kernel_rfl
theorem cells41 : Try.prog.cellsOf 41 = 1 := by kernel_rfl
theorem readable : ∀ t ∈ Try.f4.params.toList, Try.prog.readableRec t = true ∧ t < Try.prog.types.size := by
  have h : (Try.f4.params.toList.all fun t => Try.prog.readableRec t && decide (t < Try.prog.types.size)) = true := by kernel_rfl
  intro t ht
  have := List.all_eq_true.1 h t ht
  simpa using this

set_option maxRecDepth 100000 in
theorem lifted (os : Os) (started : os.Started) (H : Type) (enc : TypeId × Value → H) :
    ReturnsInHanded {} Try.checked os 4 .any (Rows.lineStaysSpec.pre6 enc Try.prog Try.f4 Rows.lineStaysRow.domain false) (Rows.lineStaysSpec.post enc Try.prog Try.f4 false true false false) := by
  refine returnsInHanded_of_change (C := Try.checked) own started (by kernel_rfl) Try.func4
    (ChangeSpec.witness6 (enc := enc) (C := Try.checked) false ⟨#[], #[.agg #[.int .i64 0, .slice none 0 0, .bool false, .bool false], .slice none 0 0], []⟩ 8 (by kernel_rfl) (by kernel_rfl) (by kernel_rfl) (by kernel_rfl)) ?_
  intro W base args ds gs before hval0 hW hcnd _
  have hval : ∀ (j : Nat) t v, Try.f4.params[j]? = some t → args[j]? = some v → Value.okWide Try.prog W .any base t v := hval0
  have hW' := hW
  obtain ⟨p, q, hA0, hV, rfl, hfz, hnd⟩ := hW
  have hA : DataW.TrodAll enc Try.prog W 0 (fun _ => true) true Try.f4.params.toList args.toList ds p := hA0
  rw [Try.params4] at hA hval
  obtain ⟨v0, vs0, d0, ds0, p0, q0, hargs, rfl, rfl, h0, r0⟩ := trodAll_cons hA
  obtain ⟨v1, vs1, d1, ds1, p1, q1, rfl, rfl, rfl, h1, r1⟩ := trodAll_cons r0
  obtain ⟨rfl, rfl, rfl⟩ := trodAll_nil r1
  obtain rfl : args = #[v0, v1] := by cases args; simp_all
  obtain ⟨rfl, rfl⟩ := trodVars_none hV
  obtain ⟨X, hX, _, _⟩ := line_of Try.underlying24 (by kernel_rfl) cells24 rfl rfl rfl rfl Try.underlying3 Try.underlying22 Try.underlying5 cells5 Try.underlying4 (hval 0 24 v0 rfl rfl) h0
  obtain ⟨A, n, c, ss, rfl, hB, hss⟩ : ∃ (A : Option Addr) (n c : Nat) (ss : List Int), v1 = .slice A n c ∧ Has W A n 1 (ss.map (Value.int .u16)) ∧ ∀ s ∈ ss, 0 ≤ s ∧ s ≤ 65535 := by
    obtain ⟨a, l, c, rfl⟩ := okWide_slice Try.underlying40 (hval 1 40 v1 rfl rfl)
    obtain ⟨fuel, hf⟩ := h1
    obtain ⟨A, n, c', ss, e, hA, hwf, _⟩ := ints_of Try.underlying40 Try.underlying41 cells41 hf
    simp [Value.cells] at e
    obtain ⟨rfl, rfl, rfl⟩ := e
    exact ⟨_, _, _, ss, rfl, hA, fun s hs => by simpa [Lit.wf, IntKind.min, IntKind.max, IntKind.signed, IntKind.bits] using hwf s hs⟩
  clear hA0 hval0
  simp only [List.append_nil] at hW'
  have walk : Calls Try.prog 4 #[v0, .slice A n c] W fun e w' => e = .returned (.bool true) ∧ Below W.heap.size W w' := by
    by_cases h : X.data.length < 1 ∨ 40 < X.data.length ∨ 60 < n
    · exact stays_long v0 X A n c W hX h
    · exact stays_any v0 X A n c ss W hX hB hss (by omega) (by omega) (by omega)
  refine walk.mono fun e W' ⟨he, hg⟩ => ?_
  subst he
  exact ⟨_, rfl, law_post laid readable hW' rfl rfl Try.underlying4 rfl rfl rfl hg⟩

theorem over : Rows.lineStaysRow.holds Try.pinned (OpenSpec.ofChange Rows.lineStaysSpec) :=
  OpenClaim.holds_of_wide 4 Try.f4 rfl rfl rfl rfl rfl rfl rfl ⟨rfl, rfl, rfl, rfl, rfl⟩ rfl rfl rfl rfl rfl (by kernel_rfl) Try.func4 (by kernel_rfl)
    (of_decide_eq_true (by kernel_rfl)) (by unfold Func.isWrapper; first | (rw [if_pos (by decide +kernel)]; kernel_rfl) | (rw [if_neg (by decide +kernel)]; exact ⟨rfl, rfl⟩))
    (fun os started H enc _ => lifted os started H enc)

theorem proved : Rows.LineStaysSaid :=
  over
end Go.Proofs.Ytofngakjpdplaaa.lineStays
