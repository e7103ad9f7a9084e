/-
  DeviceSteps returns true for every input, and each argument reads behind the call as it read before. No condition.
-/
import Derived.Test.YtjlmgjpnfppkoaaLift2
import Derived.Test.YtjlmgjpnfppkoaaDSteps
namespace Go.Proofs.Ytjlmgjpnfppkoaa.deviceSteps
open Go.ChangeShapes Go.WideShapes Go.ChangeAt Go.RowKit
set_option linter.unusedVariables false

theorem own : ownKnob Try.prog.godebug = none := by kernel_rfl
theorem laid : laidOutB Try.prog = true := by kernel_rfl
theorem readable : ∀ t ∈ Try.f5.params.toList, Try.prog.readableRec t = true ∧ t < Try.prog.types.size := by
  have h : (Try.f5.params.toList.all fun t => Try.prog.readableRec t && decide (t < Try.prog.types.size)) = true := by kernel_rfl
  intro t ht
  have := List.all_eq_true.1 h t ht
  simpa using this

set_option maxRecDepth 100000 in
theorem lifted (os : Os) (started : os.Started) (H : Type) (enc : TypeId × Value → H) :
    ReturnsInHanded {} Try.checked os 5 .any (Rows.deviceStepsSpec.pre6 enc Try.prog Try.f5 Rows.deviceStepsRow.domain false) (Rows.deviceStepsSpec.post enc Try.prog Try.f5 false true false false) := by
  refine returnsInHanded_of_change (C := Try.checked) own started (by kernel_rfl) Try.func5
    (ChangeSpec.witness6 (enc := enc) (C := Try.checked) false ⟨#[], #[.agg #[.int .i64 0, .int .i64 0, .int .i64 0, .int .i64 0, .bool false, .bool false], .agg #[.int .i64 0, .slice none 0 0, .bool false, .bool false], .int .i64 0, .int .i64 0, .int .i64 0, .bool false, .slice none 0 0], []⟩ 8 (by kernel_rfl) (by kernel_rfl) (by kernel_rfl) (by kernel_rfl)) ?_
  intro W base args ds gs before hval0 hW hcnd _
  have hval : ∀ (j : Nat) t v, Try.f5.params[j]? = some t → args[j]? = some v → Value.okWide Try.prog W .any base t v := hval0
  have hW' := hW
  obtain ⟨p, q, hA0, hV, rfl, hfz, hnd⟩ := hW
  have hA : DataW.TrodAll enc Try.prog W 0 (fun _ => true) true Try.f5.params.toList args.toList ds p := hA0
  rw [Try.params5] at hA hval
  obtain ⟨v0, vs0, d0, ds0, p0, q0, hargs, rfl, rfl, h0, r0⟩ := trodAll_cons hA
  obtain ⟨v1, vs1, d1, ds1, p1, q1, rfl, rfl, rfl, h1, r1⟩ := trodAll_cons r0
  obtain ⟨v2, vs2, d2, ds2, p2, q2, rfl, rfl, rfl, h2, r2⟩ := trodAll_cons r1
  obtain ⟨v3, vs3, d3, ds3, p3, q3, rfl, rfl, rfl, h3, r3⟩ := trodAll_cons r2
  obtain ⟨v4, vs4, d4, ds4, p4, q4, rfl, rfl, rfl, h4, r4⟩ := trodAll_cons r3
  obtain ⟨v5, vs5, d5, ds5, p5, q5, rfl, rfl, rfl, h5, r5⟩ := trodAll_cons r4
  obtain ⟨v6, vs6, d6, ds6, p6, q6, rfl, rfl, rfl, h6, r6⟩ := trodAll_cons r5
  obtain ⟨rfl, rfl, rfl⟩ := trodAll_nil r6
  obtain rfl : args = #[v0, v1, v2, v3, v4, v5, v6] := by cases args; simp_all
  obtain ⟨rfl, rfl⟩ := trodVars_none hV
  obtain ⟨f0, t0, c0, n0, s0, x0, rfl, bt0⟩ := tr_of (hval 0 59 v0 rfl rfl) h0
  obtain ⟨L1, hL1, bl1, bu1⟩ := line_of Try.underlying28 (by kernel_rfl) (by kernel_rfl) rfl rfl rfl rfl Try.underlying3 Try.underlying26 Try.underlying5 (by kernel_rfl) Try.underlying4 (hval 1 28 v1 rfl rfl) h1
  obtain ⟨a2, rfl, rfl, rfl, wf2⟩ := open_int Try.underlying3 (hval 2 3 v2 rfl rfl) h2
  have b2 := int_bd wf2
  obtain ⟨a3, rfl, rfl, rfl, wf3⟩ := open_int Try.underlying3 (hval 3 3 v3 rfl rfl) h3
  have b3 := int_bd wf3
  obtain ⟨a4, rfl, rfl, rfl, wf4⟩ := open_int Try.underlying3 (hval 4 3 v4 rfl rfl) h4
  have b4 := int_bd wf4
  obtain ⟨a5, rfl, rfl, rfl⟩ := open_bool Try.underlying4 (hval 5 4 v5 rfl rfl) h5
  obtain ⟨A6, n6, c6, zs6, rfl, hz6, wz6⟩ : ∃ (A : Option Addr) (n c : Nat) (zs : List Int), v6 = .slice A n c ∧ Has W A n 1 (zs.map (Value.int .i64)) ∧ ∀ z ∈ zs, -9223372036854775808 ≤ z ∧ z ≤ 9223372036854775807 := ints_arg (hval 6 23 v6 rfl rfl) h6
  clear hA0 hval0
  simp only [List.append_nil] at hW'
  have walk : Calls Try.prog 5 #[.agg #[.int .i64 f0, .int .i64 t0, .int .i64 c0, .int .i64 n0, .bool s0, .bool x0], v1, .int .i64 a2, .int .i64 a3, .int .i64 a4, .bool a5, .slice A6 n6 c6] W fun e w' => e = .returned (.bool true) ∧ Below W.heap.size W w' := by
    exact dsteps_any W f0 t0 c0 n0 s0 x0 bt0.1 v1 L1 hL1 a2 a3 a4 b4 a5 A6 n6 c6 zs6 hz6
  refine walk.mono fun e W' ⟨he, hg⟩ => ?_
  subst he
  exact ⟨_, rfl, law_post laid readable hW' rfl rfl Try.underlying4 rfl rfl rfl hg⟩

theorem over : Rows.deviceStepsRow.holds Try.pinned (OpenSpec.ofChange Rows.deviceStepsSpec) :=
  OpenClaim.holds_of_wide 5 Try.f5 rfl rfl rfl rfl rfl rfl rfl ⟨rfl, rfl, rfl, rfl, rfl⟩ rfl rfl rfl rfl rfl (by kernel_rfl) Try.func5 (by kernel_rfl)
    (of_decide_eq_true (by kernel_rfl)) (by unfold Func.isWrapper; first | (rw [if_pos (by decide +kernel)]; kernel_rfl) | (rw [if_neg (by decide +kernel)]; exact ⟨rfl, rfl⟩))
    (fun os started H enc _ => lifted os started H enc)

theorem proved : Rows.DeviceStepsSaid :=
  over
end Go.Proofs.Ytjlmgjpnfppkoaa.deviceSteps
