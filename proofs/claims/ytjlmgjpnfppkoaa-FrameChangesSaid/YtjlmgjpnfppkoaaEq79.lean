/-
  Two arrays of six numbers that are the same: no difference.
-/
import Derived.ChangeKeysEq
import Derived.Test.YtjlmgjpnfppkoaaFrCount
namespace Go.Proofs.Ytjlmgjpnfppkoaa
open Go.RowKit
theorem eq_int3 (d : Nat) (a : Int) (w : World) : (Op.equalIn (d + 1) 3 (.int .i64 a) (.int .i64 a)).run Try.prog w = .ok true w := by
  simp [Op.equalIn, run_underlying Try.underlying3]
theorem items3 (d : Nat) (xs : Array Value) (w : World) : ∀ (is : List Nat), (∀ i ∈ is, ∃ a : Int, xs[i]? = some (.int .i64 a)) → (Op.eqItems (d + 1) 3 1 xs xs is).run Try.prog w = .ok true w
  | [], _ => by simp [Op.eqItems]
  | i :: is, h => by
    obtain ⟨a, ha⟩ := h i (by simp)
    have hp : (part 3 xs (i * 1)).run Try.prog w = .ok (.int .i64 a) w := run_part_plain (P := Try.prog) w (show Try.prog.plainKey 3 = true by kernel_rfl) (by rw [Nat.mul_one]; exact ha)
    simp only [Op.eqItems, Sem.run_bind, hp, Result.andThen_ok, eq_int3]
    simpa using items3 d xs w is (fun j hj => h j (by simp [hj]))
theorem neq79 (a b c d e f : Int) (w : World) : (binOp .neq 79 (.agg #[.int .i64 a, .int .i64 b, .int .i64 c, .int .i64 d, .int .i64 e, .int .i64 f]) (.agg #[.int .i64 a, .int .i64 b, .int .i64 c, .int .i64 d, .int .i64 e, .int .i64 f])).run Try.prog w = .ok (.bool false) w := by
  obtain ⟨i, hi, hz0, hz1, hz2⟩ := info_parts (show (Try.prog.info? 3).map (fun i => (i.zero, i.size, i.bytes)) = some (some (.int .i64 0), 1, 8) from by kernel_rfl)
  have hc : Try.prog.cellsOf 3 = 1 := by kernel_rfl
  have h := run_equalIn_array (P := Try.prog) (w := w) 9999 #[.int .i64 a, .int .i64 b, .int .i64 c, .int .i64 d, .int .i64 e, .int .i64 f] #[.int .i64 a, .int .i64 b, .int .i64 c, .int .i64 d, .int .i64 e, .int .i64 f] Try.underlying79 hi
  rw [hc, items3 9998 _ w (List.range 6) (by
    intro i hi
    have : i = 0 ∨ i = 1 ∨ i = 2 ∨ i = 3 ∨ i = 4 ∨ i = 5 := by have := List.mem_range.1 hi; omega
    rcases this with rfl | rfl | rfl | rfl | rfl | rfl
    · exact ⟨a, rfl⟩
    · exact ⟨b, rfl⟩
    · exact ⟨c, rfl⟩
    · exact ⟨d, rfl⟩
    · exact ⟨e, rfl⟩
    · exact ⟨f, rfl⟩)] at h
  have h' : (Op.equal 79 (.agg #[.int .i64 a, .int .i64 b, .int .i64 c, .int .i64 d, .int .i64 e, .int .i64 f]) (.agg #[.int .i64 a, .int .i64 b, .int .i64 c, .int .i64 d, .int .i64 e, .int .i64 f])).run Try.prog w = .ok true w := h
  simp only [binOp]
  simp [h']
end Go.Proofs.Ytjlmgjpnfppkoaa
