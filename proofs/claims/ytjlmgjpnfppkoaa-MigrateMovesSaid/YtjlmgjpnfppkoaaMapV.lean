/-
  Maps keyed by int that the call makes: every entry has a property. The laws of look-up, store and range at the operations. No program's function.
-/
import Derived.Maps.OwnOps
import Derived.Maps.RangeWalk
import Derived.Test.YtjlmgjpnfppkoaaPg
namespace Go.Proofs.Ytjlmgjpnfppkoaa
open Go.RowKit Go.Maps Go.ChangeMaps Go.MapKept
open Go.WideElems (Fit rd rg pl rd_val rd_key rg_of)

theorem law3 : Keyed Try.prog 3 := int_keyed Try.underlying3
def rd0 : Value → Option (DataW Unit × List MemPlace) := fun _ => some (.nil, [])
/-- Block b is a map of at most n entries, keyed by int; every entry (f, v) has the property. -/
def MapAll (w : World) (b n : Nat) (Pr : Int → Value → Prop) : Prop :=
  ∃ es clock, w.heap[b]? = some (.map es clock) ∧ Fit Try.prog 3 rd0 es clock ∧ es.size ≤ n ∧ ∀ x ∈ es.toList, ∃ f : Int, x.key = .int .i64 f ∧ Pr f x.val
theorem wf_i64 {f : Int} (h0 : 0 ≤ f) (h1 : f ≤ 1000000) : (Lit.int .i64 f).wf = true := by
  simp [Lit.wf, IntKind.min, IntKind.max, IntKind.signed, IntKind.bits]; omega

section
variable {w w' : World} {b n : Nat} {Pr Pr' : Int → Value → Prop}
theorem MapAll.made (w : World) (Pr : Int → Value → Prop) : MapAll (w.alloc (.map #[] 0)) w.heap.size 0 Pr :=
  ⟨#[], 0, (MapKept.heap_alloc w _).1, ⟨by simp, stamped_empty 0, by simp⟩, Nat.le_refl _, by simp⟩
theorem MapAll.lt (h : MapAll w b n Pr) : b < w.heap.size := by
  obtain ⟨es, clock, hb, _⟩ := h
  exact (Array.getElem?_eq_some_iff.1 hb).1
theorem MapAll.imp (h : MapAll w b n Pr) (hi : ∀ f v, Pr f v → Pr' f v) : MapAll w b n Pr' := by
  obtain ⟨es, clock, hb, F, hs, hp⟩ := h
  exact ⟨es, clock, hb, F, hs, fun x hx => by obtain ⟨f, e, p⟩ := hp x hx; exact ⟨f, e, hi f _ p⟩⟩
theorem MapAll.more (h : MapAll w b n Pr) {m : Nat} (hm : n ≤ m) : MapAll w b m Pr := by
  obtain ⟨es, clock, hb, F, hs, hp⟩ := h
  exact ⟨es, clock, hb, F, by omega, hp⟩
theorem MapAll.heap (h : MapAll w b n Pr) (hh : w'.heap[b]? = w.heap[b]?) : MapAll w' b n Pr := by
  obtain ⟨es, clock, hb, r⟩ := h
  exact ⟨es, clock, hh.trans hb, r⟩
theorem MapAll.below (h : MapAll w b n Pr) {B : Nat} (hb : Below B w w') (hB : b < B) : MapAll w' b n Pr := h.heap (hb.block b hB)
theorem MapAll.alloc (h : MapAll w b n Pr) (o : Obj) : MapAll (w.alloc o) b n Pr := h.below ((Below.refl _ _).alloc (Nat.le_refl _) o) h.lt
theorem MapAll.grown (h : MapAll w b n Pr) {row : Option Nat} (hg : w.grownBy w' row) (hr : some b ≠ row) : MapAll w' b n Pr := h.heap (hg.block b h.lt hr)

/-- m[k], v, ok := m[k]: in every world in which that block stands as it stands here. -/
theorem MapAll.look (h : MapAll w b n Pr) {t e : TypeId} {z : Value} (ht : Try.prog.underlying t = some (.map 3 e)) (hz : ∀ w, (zeroValue e).run Try.prog w = .ok z w) {f : Int} (hf : (Lit.int .i64 f).wf = true) (c : Bool) :
    (∀ w', w'.heap[b]? = w.heap[b]? → (Instr.lookup t (.map (some b)) (.int .i64 f) c).run Try.prog w' = .ok (if c then .tuple #[z, .bool false] else z) w') ∨
    ∃ v, Pr f v ∧ ∀ w', w'.heap[b]? = w.heap[b]? → (Instr.lookup t (.map (some b)) (.int .i64 f) c).run Try.prog w' = .ok (if c then .tuple #[v, .bool true] else v) w' := by
  obtain ⟨es, clock, hb, F, hs, hp⟩ := h
  have hkey := keyOf_int_mk (P := Try.prog) Try.underlying3 hf
  by_cases hc : ∃ x ∈ es.toList, x.key = .int .i64 f
  · obtain ⟨x, hx, hxk⟩ := hc
    obtain ⟨f', e', p⟩ := hp x hx
    rw [hxk] at e'
    injection e' with _ e'
    subst e'
    refine .inr ⟨x.val, p, fun w' hw' => ?_⟩
    rcases Maps.fit_look (w := w') c law3 ht (hz w') (hw'.trans hb) F hkey with ⟨_, h2, _⟩ | ⟨e0, y, h1, h2, h3, _⟩
    · exact absurd hxk (h2 x hx)
    · have he : e0 = x := entry_eq_of_key ((stamped_iff es clock).1 F.stamped).2.2 h1 hx (h2.trans hxk.symm)
      rw [h3, he]
  · refine .inl fun w' hw' => ?_
    rcases Maps.fit_look (w := w') c law3 ht (hz w') (hw'.trans hb) F hkey with ⟨h1, _, _⟩ | ⟨e0, y, h1, h2, _⟩
    · exact h1
    · exact absurd ⟨e0, h1, h2⟩ hc

/-- m[k] = v. -/
theorem MapAll.store (h : MapAll w b n Pr) {t e : TypeId} (ht : Try.prog.underlying t = some (.map 3 e)) {f : Int} (hf : (Lit.int .i64 f).wf = true) (v : Value) (hv : Pr' f v) (hi : ∀ f' v', f' ≠ f → Pr f' v' → Pr' f' v') (hn : n < maxLen) :
    ∃ w', (Instr.mapUpdate t (.map (some b)) (.int .i64 f) v).run Try.prog w = .ok () w' ∧ MapAll w' b (n + 1) Pr' ∧ w.grownBy w' (some b) := by
  obtain ⟨es, clock, hb, F, hs, hp⟩ := h
  have hkey := keyOf_int_mk (P := Try.prog) Try.underlying3 hf
  obtain ⟨es', clock', hrun, F', hput, _, _, hwho⟩ := Maps.fit_store (R' := rd0) (val := v) law3 ht hb F (Nat.lt_of_le_of_lt hs hn) (fun _ _ _ _ hz => hz) hkey rfl
  refine ⟨_, hrun, ⟨es', clock', heap_setBlock_same hb _, F', ?_, fun x hx => ?_⟩, ⟨rfl, rfl, rfl, by simp [setBlock], fun i _ hi => heap_setBlock_other hb _ (fun e1 => hi (by rw [e1]))⟩⟩
  · have e1 : es'.size = ((es'.toList.map (rg Try.prog 3 rd0)).foldr DataW.insert []).length := by rw [length_sorted]; simp
    rw [e1, hput]
    unfold putKey
    rw [length_insert]
    have e2 := List.length_filter_le (notKey (.int .i64 f)) ((es.toList.map (rg Try.prog 3 rd0)).foldr DataW.insert [])
    rw [length_sorted] at e2
    simp at e2
    omega
  · rcases hwho x hx with ⟨hx0, hne⟩ | ⟨hk, hval⟩
    · obtain ⟨f', e', p⟩ := hp x hx0
      exact ⟨f', e', hi f' _ (fun e2 => hne (by rw [e', e2])) p⟩
    · exact ⟨f, hk, by rw [hval]; exact hv⟩
end

section
variable {w : World} {ops : Array Oper} {rest : List Oper} {o : Oper} {a : Act} {Q : Exit → Act → World → Prop} {b n : Nat} {Pr Pr' : Int → Value → Prop}
theorem wpList_store_all (hg : o.guard = none) (m x v : Operand) (t : TypeId) (hop : o.op = Op.mapUpdate t m x v) (e : TypeId) (ht : Try.prog.underlying t = some (.map 3 e)) (hm : a.eval m = .map (some b)) (h : MapAll w b n Pr) {f : Int} (hx : a.eval x = .int .i64 f) (hf : (Lit.int .i64 f).wf = true)
    (val : Value) (hv : a.eval v = val) (hp : Pr' f val) (hi : ∀ f' v', f' ≠ f → Pr f' v' → Pr' f' v') (hn : n < maxLen)
    (hK : ∀ w2, MapAll w2 b (n + 1) Pr' → w.grownBy w2 (some b) → wpList Try.prog ops Q rest (a.put o.dst undef) w2) : wpList Try.prog ops Q (o :: rest) a w := by
  refine wpList_plain hg fun K' hK' => ?_
  obtain ⟨w2, hrun, r1, r2⟩ := h.store ht hf val hp hi hn
  unfold Oper.wp
  simp [execOp, hop, hm, hx, hv, hrun, Result.andThen]
  exact hK' _ _ (hK w2 r1 r2)
theorem wpList_look_all (hg : o.guard = none) (m x : Operand) (t : TypeId) (hop : o.op = Op.lookup t m x true) (e : TypeId) (z : Value) (ht : Try.prog.underlying t = some (.map 3 e)) (hz : ∀ w, (zeroValue e).run Try.prog w = .ok z w) (hm : a.eval m = .map (some b)) (h : MapAll w b n Pr) {f : Int} (hx : a.eval x = .int .i64 f) (hf : (Lit.int .i64 f).wf = true)
    (h0 : wpList Try.prog ops Q rest (a.put o.dst (.tuple #[z, .bool false])) w) (h1 : ∀ v, Pr f v → wpList Try.prog ops Q rest (a.put o.dst (.tuple #[v, .bool true])) w) : wpList Try.prog ops Q (o :: rest) a w := by
  refine wpList_plain hg fun K' hK' => ?_
  unfold Oper.wp
  rcases h.look ht hz hf true with hr | ⟨v, hp, hr⟩
  · simp [execOp, hop, hm, hx, hr w rfl, Result.andThen]
    exact hK' _ _ h0
  · simp [execOp, hop, hm, hx, hr w rfl, Result.andThen]
    exact hK' _ _ (h1 v hp)
end
theorem zero4 (w : World) : (zeroValue 4).run Try.prog w = .ok (.bool false) w := by kernel_rfl
theorem zero94 (w : World) : (zeroValue 94).run Try.prog w = .ok (.slice none 0 0) w := by kernel_rfl

/-! ### ranging over such a map -/
open Classical in
noncomputable def rdP (G : Value → Prop) : Value → Option (DataW Unit × List MemPlace) := fun v => if G v then some (.nil, []) else none
theorem rdP_inv {G : Value → Prop} {v : Value} {y : DataW Unit × List MemPlace} (h : rdP G v = some y) : G v := by
  unfold rdP at h
  split at h
  · assumption
  · cases h
theorem MapAll.owns {w : World} {b n : Nat} {Pr : Int → Value → Prop} {G : Value → Prop} (h : MapAll w b n Pr) (hG : ∀ f v, Pr f v → G v) : ∃ D, w.ownsMap Try.prog 3 (rdP G) b n D := by
  obtain ⟨es, clock, hb, F, hs, hp⟩ := h
  refine ⟨_, es, clock, hb, ⟨F.size, F.stamped, fun x hx => ?_⟩, hs, rfl⟩
  obtain ⟨f, e, p⟩ := hp x hx
  obtain ⟨y, hy⟩ := F.reads x hx
  have hk := rd_key hy
  refine ⟨(y.1, .nil), ?_⟩
  simp [Go.WideElems.rd, hk, rdP, hG f _ p]
end Go.Proofs.Ytjlmgjpnfppkoaa
