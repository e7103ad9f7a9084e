/-
  From a reading of the arguments to the walks' own words, and back: lemmas for lifting a walk to the given statement. No condition.
-/
import Derived.ProofKit
import Derived.OpenShut
import Derived.Lib.SmallJoins
import Derived.Deep.Slices
import Derived.Test.YtjlmgjpnfppkoaaBase
namespace Go.Proofs.Ytjlmgjpnfppkoaa
open Go.RowKit Go.ChangeShapes Go.WideShapes Go.ChangeAt Go.Joins Go.Deep

theorem has_of_add {w : World} {a : Addr} {n sz : Nat} {xs : List Value} (hl : xs.length = n * sz) (h : ∀ i u, xs[i]? = some u → w.cell? (a.add i) = some u) : Has w (some a) n sz xs := by
  refine ⟨hl, fun hn => ?_⟩
  have h0 := h 0 (xs[0]'(by omega)) (List.getElem?_eq_getElem _)
  obtain ⟨b, off, spot⟩ := a
  have hsp : spot = none := by
    cases spot with
    | none => rfl
    | some s =>
      exfalso
      simp only [Addr.add, if_true] at h0
      unfold World.cell? at h0
      split at h0 <;> simp at h0
  subst hsp
  have hb : b < w.heap.size := by
    rcases Nat.lt_or_ge b w.heap.size with hlt | hge
    · exact hlt
    · simp only [Addr.add, if_true] at h0
      unfold World.cell? at h0
      simp [Array.getElem?_eq_none hge] at h0
  refine ⟨b, off, rfl, hb, fun j u hu => ?_⟩
  have := h j u hu
  rwa [addr_add] at this

section
variable {H : Type} {enc : TypeId × Value → H} {P : Program} {w : World} {base : Nat} {spare : Nat → Bool} {held : Bool} {fuel : Nat} {x : DataW H × List MemPlace} {cs : List Value}

theorem bytes_of {t e : TypeId} (ht : P.underlying t = some (.slice e)) (he : P.underlying e = some (.int .u8)) (hc : P.cellsOf e = 1)
    (h : DataW.trod enc P w base spare held fuel t cs = some x) :
    ∃ A n c bs, cs = [.slice A n c] ∧ Has w A n 1 (byteVals bs) ∧ n ≤ maxLen := by
  rcases open_ints ht he hc h with ⟨hcs, _⟩ | ⟨a, len, cap, zs, hcs, _, hl, hm, hz, _, hcell, hwf⟩
  · exact ⟨none, 0, 0, [], hcs, Has.nil_ _ _ _, by unfold maxLen; omega⟩
  · have hlen : len ≤ zs.length := by rw [hz]; split <;> omega
    refine ⟨some a, len, cap, (zs.take len).map fun z => UInt8.ofNat z.toNat, hcs, has_of_add ?_ ?_, by omega⟩
    · simp [byteVals]; omega
    · intro i u hu
      have hi : i < len := by
        rcases Nat.lt_or_ge i len with h' | h'
        · exact h'
        · rw [List.getElem?_eq_none (by simp [byteVals]; omega)] at hu; cases hu
      have hiz : i < zs.length := by omega
      have hw := hwf zs[i] (List.getElem_mem hiz)
      have hb : 0 ≤ zs[i] ∧ zs[i] ≤ 255 := by simpa [Lit.wf, IntKind.min, IntKind.max, IntKind.signed, IntKind.bits] using hw
      have h1 := hcell i hiz
      simp only [List.getD, List.getElem?_eq_getElem hiz, Option.getD_some] at h1
      rw [h1]
      have h2 : (byteVals ((zs.take len).map fun z => UInt8.ofNat z.toNat))[i]? = some (.int .u8 zs[i]) := by
        have h3 : (zs.take len)[i]? = some zs[i] := by rw [List.getElem?_take, if_pos hi, List.getElem?_eq_getElem hiz]
        simp only [byteVals, List.getElem?_map, h3, Option.map_some]
        have h4 : ((UInt8.ofNat zs[i].toNat).toNat : Int) = zs[i] := by
          rw [UInt8.toNat_ofNat']
          omega
        rw [h4]
      rw [h2] at hu
      exact hu

theorem ints_of {t e : TypeId} {k : IntKind} (ht : P.underlying t = some (.slice e)) (he : P.underlying e = some (.int k)) (hc : P.cellsOf e = 1)
    (h : DataW.trod enc P w base spare held fuel t cs = some x) :
    ∃ (A : Option Addr) (n c : Nat) (zs : List Int), cs = [.slice A n c] ∧ Has w A n 1 (zs.map (Value.int k)) ∧ (∀ z ∈ zs, (Lit.int k z).wf = true) ∧ n ≤ maxLen := by
  rcases open_ints ht he hc h with ⟨hcs, _⟩ | ⟨a, len, cap, zs, hcs, _, hl, hm, hz, _, hcell, hwf⟩
  · exact ⟨none, 0, 0, [], hcs, Has.nil_ _ _ _, fun z hz => (by cases hz), by unfold maxLen; omega⟩
  · have hlen : len ≤ zs.length := by rw [hz]; split <;> omega
    refine ⟨some a, len, cap, zs.take len, hcs, has_of_add ?_ ?_, fun z hz => hwf z (List.mem_of_mem_take hz), by omega⟩
    · simp; omega
    · intro i u hu
      have hi : i < len := by
        rcases Nat.lt_or_ge i len with h' | h'
        · exact h'
        · rw [List.getElem?_eq_none (by simp; omega)] at hu; cases hu
      have hiz : i < zs.length := by omega
      have h1 := hcell i hiz
      simp only [List.getD, List.getElem?_eq_getElem hiz, Option.getD_some] at h1
      rw [h1]
      have h3 : (zs.take len)[i]? = some zs[i] := by rw [List.getElem?_take, if_pos hi, List.getElem?_eq_getElem hiz]
      simp only [List.getElem?_map, h3, Option.map_some] at hu
      exact hu

theorem line_of {r : Reach} {b0 : Nat} {t ti ts tb e : TypeId} {s0 s1 s2 s3 : Field} {v : Value} {d : DataW H} {p : List MemPlace} (hs : P.underlying t = some (.struct #[s0, s1, s2, s3])) (hone : oneCellFields P #[s0, s1, s2, s3] = true) (hC : P.cellsOf t = 4)
    (h0 : s0.type = ti) (h1 : s1.type = ts) (h2 : s2.type = tb) (h3 : s3.type = tb) (hi : P.underlying ti = some (.int .i64)) (hsl : P.underlying ts = some (.slice e)) (he : P.underlying e = some (.int .u8)) (hc : P.cellsOf e = 1) (hb : P.underlying tb = some .bool)
    (hv : Value.okWide P w r b0 t v) (h : DataW.Trod enc P w base spare held t v d p) : ∃ L, IsLine w v L ∧ -9223372036854775808 ≤ L.addr ∧ L.addr ≤ 9223372036854775807 := by
  obtain ⟨v0, v1, v2, v3, y0, y1, y2, y3, n, rfl, _, _, t0, t1, t2, t3⟩ := open_agg4 hs hone hC hv h
  rw [h0] at t0; rw [h1] at t1; rw [h2] at t2; rw [h3] at t3
  obtain ⟨a, e0, _, wa⟩ := DataW.trod_int hi t0
  obtain ⟨A, m, c, bs, e1, hA, _⟩ := bytes_of hsl he hc t1
  obtain ⟨b2, e2, _⟩ := DataW.trod_bool hb t2
  obtain ⟨b3, e3, _⟩ := DataW.trod_bool hb t3
  simp at e0 e1 e2 e3
  subst e0 e1 e2 e3
  have hl : bs.length = m := by have := hA.1; simp [byteVals] at this; omega
  subst hl
  have hwa : -9223372036854775808 ≤ a ∧ a ≤ 9223372036854775807 := by simpa [Lit.wf, IntKind.min, IntKind.max, IntKind.signed, IntKind.bits] using wa
  exact ⟨⟨a, bs, b2, b3⟩, ⟨A, c, rfl, hA⟩, hwa.1, hwa.2⟩

theorem trodAll_below (hl : laidOutB P = true) {W W' : World} (hb : Below W.heap.size W W') :
    ∀ (ts : List TypeId) (vs : List Value) (ds : List (DataW H)) (ps : List MemPlace), (∀ t ∈ ts, P.readableRec t = true ∧ t < P.types.size) → DataW.TrodAll enc P W 0 (fun _ => true) true ts vs ds ps → (∀ x ∈ ps, x.block < W.heap.size) →
      DataW.TrodAll enc P W' 0 (fun b => decide (b < W.heap.size)) true ts vs ds ps
  | [], vs, ds, ps, _, h, _ => by
    obtain ⟨rfl, rfl, rfl⟩ := trodAll_nil h
    exact trodAll_mk0
  | t :: ts, vs, ds, ps, hr, h, hlt => by
    obtain ⟨v, vs', d, ds', p, q, rfl, rfl, rfl, h0, h1⟩ := trodAll_cons h
    have ht := hr t (by simp)
    exact trodAll_cons_mk (Below.trod hl ht.1 ht.2 h0 hb fun x hx => hlt x (by simp [hx]))
      (trodAll_below hl hb ts vs' ds' q (fun t' ht' => hr t' (by simp [ht'])) h1 fun x hx => hlt x (by simp [hx]))

/-- What a law's row asks behind the call, out of 'it returned true and nothing that was there has turned'. -/
theorem law_post {f : Func} {s : ChangeSpec} {tb : TypeId} {W W' : World} {args : Array Value} {ds : List (DataW H)} {p : List MemPlace} (hl : laidOutB P = true) (hr : ∀ t ∈ f.params.toList, P.readableRec t = true ∧ t < P.types.size)
    (hW : DataW.Whole enc P f.params.toList s.vars false W args.toList ds [] p) (hv : s.vars = []) (hres : f.resultTypes = #[tb]) (hb : P.underlying tb = some .bool)
    (h1 : (s.fn H (ds ++ [])).results = [.lit (.bool true)]) (h2 : (s.fn H (ds ++ [])).args = ds) (h3 : (s.fn H (ds ++ [])).vars = []) (hbe : Below W.heap.size W W') :
    s.post enc P f false true false false W args (.bool true) W' := by
  have hlt : ∀ x ∈ p, x.block < W.heap.size := fun x hx => hW.lt x hx
  obtain ⟨p', q', hA, hV, hp, hn, hnd⟩ := hW
  rw [hv] at hV
  have hq : q' = [] := by simpa [DataW.TrodVars] using hV
  subst hq
  simp only [List.append_nil] at hp
  subst hp
  refine ⟨ds, [], p, [], p, [], ⟨p, [], hA, by rw [hv]; rfl, by simp, hn, hnd⟩, ?_, ?_, ?_, ?_, fun h => by cases h⟩
  · rw [h1, hres]
    exact trodAll_mk1 (shut_bool hb true)
  · rw [h2]
    exact trodAll_below hl hbe _ _ _ _ hr hA hlt
  · rw [hv, h3]; rfl
  · exact hbe.frame _
end
end Go.Proofs.Ytjlmgjpnfppkoaa
