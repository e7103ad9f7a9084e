/-
  Plain lemmas for walks: slices that read as lists of cells, append from any source, bytes as strings, lines as plain data. No condition.
-/
import Derived.WalkKit
import Derived.WalkSpells
import Derived.WalkLawsBesides
import Derived.Maps.AppendAt
import Derived.Deep.AppendLies
import Derived.Laws.BytesArg
import Derived.Laws.CopyOwn
import Derived.Deep.RegionHeld3
import Derived.Deep.DrawnRows
import Derived.Lib.Hide
import Derived.Deep.QuietTactic
import Derived.BigQuiet
import Derived.Outline
import Derived.Test.YtjlmgjpnfppkoaaRows
namespace Go.Proofs.Ytjlmgjpnfppkoaa
open Go.RowKit
/-! ### A slice value that reads as a list of cells, wherever it came from (nil and empty let in) -/
/-- The slice '.slice A n c' (elements of 'sz' cells) reads as the cells 'xs' in the world w. -/
def Has (w : World) (A : Option Addr) (n sz : Nat) (xs : List Value) : Prop :=
  xs.length = n * sz ∧ (0 < n * sz → ∃ b off, A = some ⟨b, off, none⟩ ∧ b < w.heap.size ∧ ∀ j u, xs[j]? = some u → w.cell? ⟨b, off + j, none⟩ = some u)

theorem addr_add (b off j : Nat) : (⟨b, off, none⟩ : Addr).add j = ⟨b, off + j, none⟩ := by
  unfold Addr.add; split <;> simp_all

section
variable {w w' : World} {A : Option Addr} {n sz : Nat} {xs : List Value}
theorem Has.nil_ (w : World) (A : Option Addr) (sz : Nat) : Has w A 0 sz [] := ⟨by simp, fun h => by simp at h⟩
theorem Has.len (h : Has w A n sz xs) : xs.length = n * sz := h.1
theorem Has.keep (h : Has w A n sz xs) (hs : w.heap.size ≤ w'.heap.size) (hk : ∀ p : Addr, p.block < w.heap.size → w'.cell? p = w.cell? p) : Has w' A n sz xs :=
  ⟨h.1, fun hn => by
    obtain ⟨b, off, e, hb, hc⟩ := h.2 hn
    exact ⟨b, off, e, by omega, fun j u hu => (hk _ hb).trans (hc j u hu)⟩⟩
theorem Has.below (h : Has w A n sz xs) (hb : Below w.heap.size w w') : Has w' A n sz xs := h.keep hb.size fun _ hp => hb.cell hp
theorem Has.drew (h : Has w A n sz xs) : Has w.drew A n sz xs := h
theorem Has.drewN (h : Has w A n sz xs) (k : Nat) : Has (w.drewN k) A n sz xs := h
theorem Has.alloc (h : Has w A n sz xs) (o : Obj) : Has (w.alloc o) A n sz xs :=
  h.keep (by simp) fun p hp => World.cell?_alloc_lt w o p hp
/-- Below a block number that need not be the world's own size: the slice lies below it. -/
theorem Has.lies (h : Has w A n sz xs) {B : Nat} (hb : Below B w w') (hB : ∀ a, A = some a → a.block < B) : Has w' A n sz xs :=
  ⟨h.1, fun hn => by
    obtain ⟨b, off, e, hlt, hc⟩ := h.2 hn
    have hbB := hB _ e
    exact ⟨b, off, e, Nat.lt_of_lt_of_le hlt hb.size, fun j u hu => (hb.cell (p := ⟨b, off + j, none⟩) hbB).trans (hc j u hu)⟩⟩
theorem Has.at_ (h : Has w A n 1 xs) {k : Nat} (hk : k < n) :
    ∃ b off, A = some ⟨b, off, none⟩ ∧ b < w.heap.size ∧ w.cell? ⟨b, off + k, none⟩ = some (xs.getD k undef) := by
  obtain ⟨b, off, e, hb, hc⟩ := h.2 (by omega)
  refine ⟨b, off, e, hb, hc k _ ?_⟩
  have : k < xs.length := by rw [h.1]; omega
  simp [List.getD, List.getElem?_eq_getElem this]
theorem Has.open_ (h : Has w A n sz xs) (hn : 0 < n * sz) :
    ∃ b off, A = some ⟨b, off, none⟩ ∧ b < w.heap.size ∧ ∀ j u, xs[j]? = some u → w.cell? ⟨b, off + j, none⟩ = some u := h.2 hn
theorem Has.of_own {base : Nat} {e : TypeId} {c : Nat} (h : w.ownsRow base e sz (.slice A n c) n xs) : Has w A n sz xs := by
  refine ⟨h.1, fun hn => ?_⟩
  rcases h.2 with ⟨hv, h0⟩ | ⟨g, cap, cur, hv, _, hh, _⟩
  · subst h0; simp at hn
  · injection hv with hA
    subst hA
    have hlt : g < w.heap.size := by
      rcases Nat.lt_or_ge g w.heap.size with hl | hg
      · exact hl
      · rw [Array.getElem?_eq_none hg] at hh; cases hh
    refine ⟨g, 0, rfl, hlt, fun j u hu => ?_⟩
    have := h.cells (g := g) rfl j u hu
    rw [addr_add] at this
    exact this
theorem own_form {base : Nat} {e : TypeId} {v : Value} (h : w.ownsRow base e sz v n xs) : ∃ A c, v = .slice A n c ∧ ∀ a, A = some a → base ≤ a.block ∧ a.block < w.heap.size := by
  rcases h.2 with ⟨hv, h0⟩ | ⟨g, cap, cur, hv, hb, hh, _⟩
  · subst h0; exact ⟨none, 0, hv, fun a ha => by cases ha⟩
  · have hlt : g < w.heap.size := by
      rcases Nat.lt_or_ge g w.heap.size with hl | hg
      · exact hl
      · rw [Array.getElem?_eq_none hg] at hh; cases hh
    exact ⟨_, _, hv, fun a ha => by injection ha with ha; subst ha; exact ⟨hb, hlt⟩⟩
end

theorem Has.mono_len {w : World} {A : Option Addr} {n sz : Nat} {xs ys : List Value} (h : Has w A n sz xs) (e : xs = ys) : Has w A n sz ys := e ▸ h
theorem Below.more {B : Nat} {a b c : World} (h : Below B a b) (k : Below b.heap.size b c) (hB : B ≤ b.heap.size) : Below B a c := h.trans (k.mono hB)

theorem bcell {W w1 : World} {B : Nat} (hb : Below B W w1) :
    (∀ b o, b < B → w1.cell? ⟨b, o, none⟩ = W.cell? ⟨b, o, none⟩) ∧ (∀ b o, b < B → w1.frozen? ⟨b, o, none⟩ = W.frozen? ⟨b, o, none⟩) :=
  ⟨fun b o h => hb.cell (p := ⟨b, o, none⟩) h, fun b o h => hb.frozen (p := ⟨b, o, none⟩) h⟩

theorem bkeep {W w1 : World} {B : Nat} (hb : Below B W w1) (g : Nat) (hg : g < B) :
    (∀ o, w1.cell? ⟨g, o, none⟩ = W.cell? ⟨g, o, none⟩) ∧ (∀ o, w1.frozen? ⟨g, o, none⟩ = W.frozen? ⟨g, o, none⟩) :=
  ⟨fun o => hb.cell (p := ⟨g, o, none⟩) hg, fun o => hb.frozen (p := ⟨g, o, none⟩) hg⟩

theorem ret_bool {a b : Bool} (h : a = b) : Ending.returned (.bool a) = .returned (.bool b) := by rw [h]
theorem ret_int {k : IntKind} {a b : Int} (h : a = b) : Ending.returned (.int k a) = .returned (.int k b) := by rw [h]

/-! ### append onto nil or a row of the call's own; the source is whatever 'Has' speaks of -/
section
variable {P : Program} (w : World)
theorem run_append_nilsrc (base : Nat) (t ty e : TypeId) (i : TypeInfo) (size : Nat) (ht : P.underlying t = some (.slice e)) (hi : P.info? e = some i)
    (v : Value) (n : Nat) (xs : List Value) (hown : w.ownsRow base e size v n xs) (c : Nat) : (Builtin.append_ #[t, t] ty #[v, .slice none 0 c]).run P w = .ok v w := by
  rcases hown.2 with ⟨rfl, rfl⟩ | ⟨g, cap, cur, rfl, _, _, hnc, _⟩
  · simp [Builtin.append_, run_underlying ht, sizeOf, typeInfo, hi, Builtin.lenOf, Builtin.firstCells]
  · simp [Builtin.append_, run_underlying ht, sizeOf, typeInfo, hi, Builtin.lenOf, Builtin.firstCells, hnc, storeCells]

theorem run_append_has (base : Nat) (t ty e : TypeId) (i : TypeInfo) (z : Value) (size bytes : Nat) (ht : P.underlying t = some (.slice e)) (hi : P.info? e = some i) (hz : i.zero = some z)
    (hsize : i.size = size) (hby : i.bytes = bytes) (hzs : z.cells.size = size) (hsz : 0 < size)
    (v : Value) (n : Nat) (xs : List Value) (hown : w.ownsRow base e size v n xs)
    (A : Option Addr) (m c : Nat) (news : List Value) (hr : Has w A m size news) (h1 : ∀ u ∈ news, u.oneCell' = true)
    (h63 : n + m ≤ maxLen) (hbytes : (n + m) * bytes ≤ 140737488355328) (hbase : base ≤ w.heap.size) :
    ∃ v' w', (Builtin.append_ #[t, t] ty #[v, .slice A m c]).run P w = .ok v' w' ∧ w'.ownsRow base e size v' (n + m) (xs ++ news) ∧ w.grownBy w' v.ownBlock ∧
      (v'.ownBlock = v.ownBlock ∨ v'.ownBlock = some w.heap.size) := by
  rcases A with _ | ad
  · have hm : m = 0 := by
      rcases Nat.eq_zero_or_pos m with h0 | h0
      · exact h0
      · obtain ⟨b, off, h, _⟩ := hr.2 (Nat.mul_pos h0 hsz)
        cases h
    subst hm
    have hn : news = [] := List.eq_nil_of_length_eq_zero (by simpa using hr.1)
    subst hn
    exact ⟨v, w, run_append_nilsrc w base t ty e i size ht hi v n xs hown c, by simpa using hown, World.grownBy.refl w _, .inl rfl⟩
  · have hcells : ∀ j u, news[j]? = some u → w.cell? (ad.add j) = some u := by
      intro j u hu
      rcases Nat.eq_zero_or_pos m with h0 | h0
      · subst h0
        have hn : news = [] := List.eq_nil_of_length_eq_zero (by simpa using hr.1)
        subst hn
        simp at hu
      · obtain ⟨b, off, h, _, hc⟩ := hr.2 (Nat.mul_pos h0 hsz)
        injection h with h
        subst h
        rw [addr_add]
        exact hc j u hu
    obtain ⟨v', w', hrun, h2, h3, _, h5⟩ := run_append_own_at (P := P) w base t ty e i z size bytes ht hi hz hsize hby hzs hsz v n xs hown ad m c news hr.1 hcells h1 h63 hbytes hbase
    exact ⟨v', w', hrun, h2, h3, h5⟩

theorem wp_append_has {o : Oper} {a : Act} {K : Act → World → Prop} {Q : Exit → Act → World → Prop} (s x : Operand) (t : TypeId)
    (ho : o.op = .call { callee := .builtin .append, args := #[s, x], argTypes := #[t, t] })
    (base : Nat) (e : TypeId) (i : TypeInfo) (z : Value) (size bytes : Nat) (ht : P.underlying t = some (.slice e)) (hi : P.info? e = some i) (hz : i.zero = some z)
    (hsize : i.size = size) (hby : i.bytes = bytes) (hzs : z.cells.size = size) (hsz : 0 < size)
    (v : Value) (n : Nat) (xs : List Value) (hs : a.eval s = v) (hown : w.ownsRow base e size v n xs)
    (A : Option Addr) (m c : Nat) (news : List Value) (hx : a.eval x = .slice A m c) (hr : Has w A m size news) (h1 : ∀ u ∈ news, u.oneCell' = true)
    (h63 : n + m ≤ maxLen) (hbytes : (n + m) * bytes ≤ 140737488355328) (hbase : base ≤ w.heap.size)
    (h : ∀ v' w', w'.ownsRow base e size v' (n + m) (xs ++ news) → w.grownBy w' v.ownBlock → (v'.ownBlock = v.ownBlock ∨ v'.ownBlock = some w.heap.size) → K (a.put o.dst v') w') : o.wp P a w K Q := by
  obtain ⟨v', w', hrun, h2, h3, h4⟩ := run_append_has (P := P) w base t o.type e i z size bytes ht hi hz hsize hby hzs hsz v n xs hown A m c news hr h1 h63 hbytes hbase
  unfold Oper.wp execOp
  simp only [ho, resolve, invoke, builtin, Sem.run_bind, Sem.run_pure, Result.andThen_ok, List.map_toArray, List.map_cons, List.map_nil, hs, hx, hrun]
  exact h v' w' h2 h3 h4

theorem wpList_append_has {ops : Array Oper} {rest : List Oper} {o : Oper} {a : Act} {Q : Exit → Act → World → Prop} (hgd : o.guard = none) (s x : Operand) (t : TypeId)
    (ho : o.op = .call { callee := .builtin .append, args := #[s, x], argTypes := #[t, t] })
    (base : Nat) (e : TypeId) (i : TypeInfo) (z : Value) (size bytes : Nat) (ht : P.underlying t = some (.slice e)) (hi : P.info? e = some i) (hz : i.zero = some z)
    (hsize : i.size = size) (hby : i.bytes = bytes) (hzs : z.cells.size = size) (hsz : 0 < size)
    (v : Value) (n : Nat) (xs : List Value) (hs : a.eval s = v) (hown : w.ownsRow base e size v n xs)
    (A : Option Addr) (m c : Nat) (news : List Value) (hx : a.eval x = .slice A m c) (hr : Has w A m size news) (h1 : ∀ u ∈ news, u.oneCell' = true)
    (h63 : n + m ≤ maxLen) (hbytes : (n + m) * bytes ≤ 140737488355328) (hbase : base ≤ w.heap.size)
    (h : ∀ v' w', w'.ownsRow base e size v' (n + m) (xs ++ news) → w.grownBy w' v.ownBlock → (v'.ownBlock = v.ownBlock ∨ v'.ownBlock = some w.heap.size) → wpList P ops Q rest (a.put o.dst v') w') : wpList P ops Q (o :: rest) a w :=
  wpList_plain hgd fun _ hK => wp_append_has w s x t ho base e i z size bytes ht hi hz hsize hby hzs hsz v n xs hs hown A m c news hx hr h1 h63 hbytes hbase fun v' w' h2 h3 h4 => hK _ _ (h v' w' h2 h3 h4)

theorem step_append_has {ops : Array Oper} {o : Oper} {a : Act} {K : Act → World → Prop} {Q : Exit → Act → World → Prop} {E : Prop} (hgd : o.guard = none) (s x : Operand) (t : TypeId)
    (ho : o.op = .call { callee := .builtin .append, args := #[s, x], argTypes := #[t, t] })
    (base : Nat) (e : TypeId) (i : TypeInfo) (z : Value) (size bytes : Nat) (ht : P.underlying t = some (.slice e)) (hi : P.info? e = some i) (hz : i.zero = some z)
    (hsize : i.size = size) (hby : i.bytes = bytes) (hzs : z.cells.size = size) (hsz : 0 < size)
    (v : Value) (n : Nat) (xs : List Value) (hs : a.eval s = v) (hown : w.ownsRow base e size v n xs)
    (A : Option Addr) (m c : Nat) (news : List Value) (hx : a.eval x = .slice A m c) (hr : Has w A m size news) (h1 : ∀ u ∈ news, u.oneCell' = true)
    (h63 : n + m ≤ maxLen) (hbytes : (n + m) * bytes ≤ 140737488355328) (hbase : base ≤ w.heap.size)
    (h : ∀ v' w', w'.ownsRow base e size v' (n + m) (xs ++ news) → w.grownBy w' v.ownBlock → (v'.ownBlock = v.ownBlock ∨ v'.ownBlock = some w.heap.size) → K (a.put o.dst v') w') :
    if Region.wanted o (yielded ops a.tmps) = true then Oper.wp P o a w K Q else E := by
  have hw : Region.wanted o (yielded ops a.tmps) = true := by simp [Region.wanted, hgd]
  rw [if_pos hw]
  exact wp_append_has w s x t ho base e i z size bytes ht hi hz hsize hby hzs hsz v n xs hs hown A m c news hx hr h1 h63 hbytes hbase h
end

/-! ### bytes -/
def byteVals (bs : List UInt8) : List Value := bs.map fun b => .int .u8 b.toNat
theorem byteVals_one (bs : List UInt8) : ∀ u ∈ byteVals bs, u.oneCell' = true := by
  intro u hu
  simp only [byteVals, List.mem_map] at hu
  obtain ⟨b, _, rfl⟩ := hu
  rfl
theorem byteVals_len (bs : List UInt8) : (byteVals bs).length = bs.length := by simp [byteVals]

theorem run_string_has {P : Program} (src dst e : TypeId) (hs : P.underlying src = some (.slice e)) (he : P.underlying e = some (.int .u8)) (hd : P.underlying dst = some .string)
    (w : World) (A : Option Addr) (n c : Nat) (bs : List UInt8) (h : Has w A n 1 (byteVals bs)) :
    (convert src dst (.slice A n c)).run P w = .ok (.string ⟨bs.toArray⟩) w := by
  have hl : bs.length = n := by have := h.1; simp [byteVals] at this; omega
  rcases A with _ | ad
  · have hn : n = 0 := by
      rcases Nat.eq_zero_or_pos n with h0 | h0
      · exact h0
      · obtain ⟨b, off, h', _⟩ := h.2 (by omega)
        cases h'
    subst hn
    have : bs = [] := List.eq_nil_of_length_eq_zero hl
    subst this
    exact run_convert_bytes_nil w src e hs he 0 c dst hd
  · rcases Nat.eq_zero_or_pos n with h0 | h0
    · subst h0
      have : bs = [] := List.eq_nil_of_length_eq_zero hl
      subst this
      rw [run_convert_bytes_string w src dst e _ 0 c hs he hd]
      have := run_bytesToString (P := P) w ad 0 c [] (by simp [loadCells, loadCellsFrom])
      rw [this]
      rfl
    · obtain ⟨b, off, h', _, hc⟩ := h.2 (by omega)
      injection h' with h'
      subst h'
      have hx := run_convert_bytes_arg (P := P) w src e hs he b off n c (bs.map fun b => (b.toNat : Int)) (by simpa using hl) (fun i hi => by
        have := hc i (.int .u8 ((bs.map fun b => (b.toNat : Int)).getD i 0)) (by
          have hi' : i < bs.length := by omega
          simp [byteVals, List.getD, List.getElem?_eq_getElem hi'])
        exact this) dst hd
      rw [hx]
      simp [strOfNums, Function.comp_def]

/-! ### a line as plain data -/
structure LineD where
  addr : Int
  data : List UInt8
  dirty : Bool
  poison : Bool
  deriving DecidableEq

def LineD.zero : LineD := ⟨0, [], false, false⟩

/-- A line whose bytes lie somewhere. -/
def IsLine (w : World) (v : Value) (L : LineD) : Prop :=
  ∃ A c, v = .agg #[.int .i64 L.addr, .slice A L.data.length c, .bool L.dirty, .bool L.poison] ∧ Has w A L.data.length 1 (byteVals L.data)
/-- A line whose bytes lie in a row of the call's own, from block B on; 'e' is the element type's number. -/
def OwnLine (e : TypeId) (w : World) (B : Nat) (v : Value) (L : LineD) : Prop :=
  ∃ A c, v = .agg #[.int .i64 L.addr, .slice A L.data.length c, .bool L.dirty, .bool L.poison] ∧ w.ownsRow B e 1 (.slice A L.data.length c) L.data.length (byteVals L.data)

theorem OwnLine.is {e : TypeId} {w : World} {B : Nat} {v : Value} {L : LineD} (h : OwnLine e w B v L) : IsLine w v L := by
  obtain ⟨A, c, hv, ho⟩ := h
  exact ⟨A, c, hv, Has.of_own ho⟩
theorem IsLine.below {w w' : World} {v : Value} {L : LineD} (h : IsLine w v L) (hb : Below w.heap.size w w') : IsLine w' v L := by
  obtain ⟨A, c, hv, ho⟩ := h
  exact ⟨A, c, hv, ho.below hb⟩
theorem IsLine.drew {w : World} {v : Value} {L : LineD} (h : IsLine w v L) : IsLine w.drew v L := h
theorem IsLine.alloc {w : World} {v : Value} {L : LineD} (h : IsLine w v L) (o : Obj) : IsLine (w.alloc o) v L := by
  obtain ⟨A, c, hv, ho⟩ := h
  exact ⟨A, c, hv, ho.alloc o⟩
theorem OwnLine.zero_ (e : TypeId) (w : World) (B : Nat) : OwnLine e w B (.agg #[.int .i64 0, .slice none 0 0, .bool false, .bool false]) LineD.zero :=
  ⟨none, 0, rfl, World.ownsRow_nil _ _ _ _⟩
/-- What the call owns is kept where nothing from B on is written below the new blocks. -/
theorem ownsRow_below {w w' : World} {B : Nat} {e : TypeId} {sz n : Nat} {v : Value} {xs : List Value} (h : w.ownsRow B e sz v n xs) (hb : Below w.heap.size w w') : w'.ownsRow B e sz v n xs := by
  obtain ⟨h1, h2⟩ := h
  refine ⟨h1, ?_⟩
  rcases h2 with h2 | ⟨g, cap, cur, hv, hg, hh, r⟩
  · exact .inl h2
  · have hlt : g < w.heap.size := by
      rcases Nat.lt_or_ge g w.heap.size with hl | hge
      · exact hl
      · rw [Array.getElem?_eq_none hge] at hh; cases hh
    exact .inr ⟨g, cap, cur, hv, hg, (hb.block g hlt).trans hh, r⟩
theorem ownsRow_base {w : World} {B B' : Nat} {e : TypeId} {sz n : Nat} {v : Value} {xs : List Value} (h : w.ownsRow B e sz v n xs) (hB : B' ≤ B) : w.ownsRow B' e sz v n xs := by
  obtain ⟨h1, h2⟩ := h
  refine ⟨h1, ?_⟩
  rcases h2 with h2 | ⟨g, cap, cur, hv, hg, hh, r⟩
  · exact .inl h2
  · exact .inr ⟨g, cap, cur, hv, by omega, hh, r⟩
/-- A store into another block than the row's own. -/
theorem ownsRow_setCell_far {w : World} {base : Nat} {e : TypeId} {size : Nat} {v : Value} {n : Nat} {xs : List Value} (h : w.ownsRow base e size v n xs) {a : Addr} (ha : v.ownBlock ≠ some a.block) (u : Value) : (w.setCell a u).ownsRow base e size v n xs := by
  obtain ⟨h1, h2⟩ := h
  refine ⟨h1, ?_⟩
  rcases h2 with h2 | ⟨g, cap, cur, hv, hg, hh, r⟩
  · exact Or.inl h2
  · subst hv
    exact Or.inr ⟨g, cap, cur, rfl, hg, by rw [Below.heap_setCell _ _ _ _ (fun e => ha (by rw [← e]; rfl))]; exact hh, r⟩

/-- append onto an empty slice: a copy in a row of the call's own. -/
theorem wpList_copy_has {P : Program} (w : World) {ops : Array Oper} {rest : List Oper} {o : Oper} {a : Act} {Q : Exit → Act → World → Prop} (hgd : o.guard = none) (s x : Operand) (t : TypeId)
    (ho : o.op = .call { callee := .builtin .append, args := #[s, x], argTypes := #[t, t] })
    (base : Nat) (e : TypeId) (z : Value) (size bytes : Nat) (hinf : (P.info? e).map (fun i => (i.zero, i.size, i.bytes)) = some (some z, size, bytes)) (ht : P.underlying t = some (.slice e))
    (hzs : z.cells.size = size) (hsz : 0 < size)
    (v : Value) (hs : a.eval s = v) (hown : w.ownsRow base e size v 0 [])
    (A : Option Addr) (m c : Nat) (news : List Value) (hx : a.eval x = .slice A m c) (hr : Has w A m size news) (h1 : ∀ u ∈ news, u.oneCell' = true)
    (h63 : m ≤ 1073741824) (hbytes : bytes ≤ 1024) (hbase : base ≤ w.heap.size)
    (h : ∀ A' c' w', w'.ownsRow base e size (.slice A' m c') m news → Below base w w' → wpList P ops Q rest (a.put o.dst (.slice A' m c')) w') : wpList P ops Q (o :: rest) a w := by
  obtain ⟨i, hi, hz0, hz1, hz2⟩ := info_parts hinf
  refine wpList_append_has w hgd s x t ho base e i z size bytes ht hi hz0 hz1 hz2 hzs hsz v 0 [] hs hown A m c news hx hr h1 (by unfold maxLen; omega) ?_ hbase ?_
  · have : (0 + m) * bytes ≤ 1073741824 * 1024 := Nat.mul_le_mul (by omega) hbytes
    omega
  · intro v' w' h2 h3 _
    simp only [Nat.zero_add, List.nil_append] at h2
    have hb : Below base w w' := (Below.refl base w).grown h3 hbase fun k hk => (hown.lt k hk).1
    rcases h2.2 with ⟨hv, h0⟩ | ⟨g, cap, cur, hv, _⟩
    · subst h0; subst hv; exact h none 0 w' h2 hb
    · subst hv; exact h _ _ w' h2 hb

theorem step_copy_has {P : Program} (w : World) {ops : Array Oper} {o : Oper} {a : Act} {K : Act → World → Prop} {Q : Exit → Act → World → Prop} {E : Prop} (hgd : o.guard = none) (s x : Operand) (t : TypeId)
    (ho : o.op = .call { callee := .builtin .append, args := #[s, x], argTypes := #[t, t] })
    (base : Nat) (e : TypeId) (z : Value) (size bytes : Nat) (hinf : (P.info? e).map (fun i => (i.zero, i.size, i.bytes)) = some (some z, size, bytes)) (ht : P.underlying t = some (.slice e))
    (hzs : z.cells.size = size) (hsz : 0 < size)
    (v : Value) (hs : a.eval s = v) (hown : w.ownsRow base e size v 0 [])
    (A : Option Addr) (m c : Nat) (news : List Value) (hx : a.eval x = .slice A m c) (hr : Has w A m size news) (h1 : ∀ u ∈ news, u.oneCell' = true)
    (h63 : m ≤ 1073741824) (hbytes : bytes ≤ 1024) (hbase : base ≤ w.heap.size)
    (h : ∀ A' c' w', w'.ownsRow base e size (.slice A' m c') m news → Below base w w' → K (a.put o.dst (.slice A' m c')) w') :
    if Region.wanted o (yielded ops a.tmps) = true then Oper.wp P o a w K Q else E := by
  obtain ⟨i, hi, hz0, hz1, hz2⟩ := info_parts hinf
  refine step_append_has w hgd s x t ho base e i z size bytes ht hi hz0 hz1 hz2 hzs hsz v 0 [] hs hown A m c news hx hr h1 (by unfold maxLen; omega) ?_ hbase ?_
  · have : (0 + m) * bytes ≤ 1073741824 * 1024 := Nat.mul_le_mul (by omega) hbytes
    omega
  · intro v' w' h2 h3 _
    simp only [Nat.zero_add, List.nil_append] at h2
    have hb : Below base w w' := (Below.refl base w).grown h3 hbase fun k hk => (hown.lt k hk).1
    rcases h2.2 with ⟨hv, h0⟩ | ⟨g, cap, cur, hv, _⟩
    · subst h0; subst hv; exact h none 0 w' h2 hb
    · subst hv; exact h _ _ w' h2 hb

theorem own_put {w : World} {base : Nat} {e : TypeId} {size : Nat} {v : Value} {n : Nat} {xs : List Value} (h : w.ownsRow base e size v n xs) {b o : Nat} (ha : b < base) (u : Value) : (w.setCell ⟨b, o, none⟩ u).ownsRow base e size v n xs :=
  ownsRow_setCell_below h (a := ⟨b, o, none⟩) ha u
theorem below_put {B : Nat} {a w : World} (h : Below B a w) {b o : Nat} (hp : B ≤ b) (u : Value) : Below B a (w.setCell ⟨b, o, none⟩ u) := h.setCell (p := ⟨b, o, none⟩) hp u
theorem below_new {B : Nat} {a w : World} (h : Below B a w) (hB : B ≤ w.heap.size) (o : Obj) : Below B a (w.alloc o) := h.alloc hB o

theorem own_drew {w : World} {base : Nat} {e : TypeId} {size : Nat} {v : Value} {n : Nat} {xs : List Value} (h : w.ownsRow base e size v n xs) : w.drew.ownsRow base e size v n xs := h
theorem own_new {w : World} {base : Nat} {e : TypeId} {size : Nat} {v : Value} {n : Nat} {xs : List Value} (h : w.ownsRow base e size v n xs) (o : Obj) : (w.alloc o).ownsRow base e size v n xs := h.alloc o

/-! ### make([]T, n), elements of one cell -/
/-- n cells that hold z (behind a name: the walk's simp must not open it). -/
def zeros (z : Value) (n : Nat) : Array Value := madeCells #[z] n
theorem zeros_list (z : Value) (n : Nat) : (zeros z n).toList = List.replicate n z := toList_madeCells_one z n
theorem zeros_size (z : Value) (n : Nat) : (zeros z n).size = n := size_madeCells _ _
theorem zeros_bytes (n : Nat) : (zeros (.int .u8 0) n).toList = byteVals (List.replicate n 0) := by rw [zeros_list]; simp [byteVals]
theorem run_make_one {P : Program} (t e : TypeId) (k : IntKind) (bytes : Nat) (hinf : (P.info? e).map (fun i => (i.zero, i.size, i.bytes)) = some (some (.int k 0), 1, bytes)) (ht : P.underlying t = some (.slice e))
    (n : Nat) (hn : n ≤ 1073741824) (hb : bytes ≤ 1024) (w : World) :
    (Instr.makeSlice t (.int .i64 (n : Int)) (.int .i64 (n : Int))).run P w = .ok (.slice (some ⟨w.heap.size, 0, none⟩) n n) (w.alloc (.cells (zeros (.int k 0) n) e)) := by
  obtain ⟨i, hi, hz0, hz1, hz2⟩ := info_parts hinf
  have hby : (i.bytes : Int) * (n : Int) ≤ 281474976710656 := by
    have : i.bytes * n ≤ 1024 * 1073741824 := Nat.mul_le_mul (by omega) hn
    have h2 : ((i.bytes * n : Nat) : Int) ≤ ((1024 * 1073741824 : Nat) : Int) := by omega
    simp only [Int.natCast_mul] at h2
    omega
  have := run_make (P := P) w t e i (.int k 0) ht hi hz0 .i64 .i64 (n : Int) (n : Int) (by omega) (Int.le_refl _) hby (by omega)
  rw [this]
  simp [zeros, hz1, Value.cells]
theorem own_zeros (w : World) (e : TypeId) (n : Nat) (hn : n ≤ 1073741824) : (w.alloc (.cells (zeros (.int .u8 0) n) e)).ownsRow w.heap.size e 1 (.slice (some ⟨w.heap.size, 0, none⟩) n n) n (byteVals (List.replicate n 0)) := by
  have := World.ownsRow_lit (size := 1) (e := e) (base := w.heap.size) w (zeros (.int .u8 0) n) n (Nat.le_refl _) (by unfold maxLen; omega) (by rw [zeros_size]; omega)
  rwa [zeros_bytes] at this
theorem own_zeros_at (w : World) (e : TypeId) (n B g : Nat) (hn : n ≤ 1073741824) (hg : g = w.heap.size) (hB : B ≤ g) : (w.alloc (.cells (zeros (.int .u8 0) n) e)).ownsRow B e 1 (.slice (some ⟨g, 0, none⟩) n n) n (byteVals (List.replicate n 0)) := by
  subst hg
  exact ownsRow_base (own_zeros w e n hn) hB
theorem own_some {w : World} {base : Nat} {e : TypeId} {sz n c : Nat} {A : Option Addr} {xs : List Value} (h : w.ownsRow base e sz (.slice A n c) n xs) (hn : 0 < n) :
    ∃ g, A = some ⟨g, 0, none⟩ ∧ base ≤ g ∧ g < w.heap.size := by
  obtain ⟨g, cap, hv, hb, hlt⟩ := h.form hn
  injection hv with hA
  exact ⟨g, hA, hb, hlt⟩

/-! ### facts on single cells, carried over a call -/
theorem cellK {W w1 : World} {B : Nat} (hb : Below B W w1) {g i : Nat} {v : Value} (hg : g < B) (h : W.cell? ⟨g, i, none⟩ = some v) : w1.cell? ⟨g, i, none⟩ = some v := (hb.cell (p := ⟨g, i, none⟩) hg).trans h
theorem frozK {W w1 : World} {B : Nat} (hb : Below B W w1) {g i : Nat} (hg : g < B) (h : W.frozen? ⟨g, i, none⟩ = false) : w1.frozen? ⟨g, i, none⟩ = false := (hb.frozen (p := ⟨g, i, none⟩) hg).trans h
theorem Has.lit (w : World) (cs : Array Value) (t : TypeId) (n sz : Nat) (h : cs.size = n * sz) : Has (w.alloc (.cells cs t)) (some ⟨w.heap.size, 0, none⟩) n sz cs.toList :=
  ⟨by simpa using h, fun _ => ⟨w.heap.size, 0, rfl, by simp, fun j u hu => by
    rw [World.cell?_alloc_at _ _ _ _ rfl]
    simpa using hu⟩⟩
theorem Has.lit_at (w : World) (cs : Array Value) (t : TypeId) (n sz g : Nat) (xs : List Value) (h : cs.size = n * sz) (hg : g = w.heap.size) (hx : cs.toList = xs) : Has (w.alloc (.cells cs t)) (some ⟨g, 0, none⟩) n sz xs := by
  subst hg; subst hx
  exact Has.lit w cs t n sz h

theorem isLine_mk {w : World} {A : Option Addr} {n c : Nat} {bs : List UInt8} (a : Int) (d p : Bool) (h : Has w A n 1 (byteVals bs)) : IsLine w (.agg #[.int .i64 a, .slice A n c, .bool d, .bool p]) ⟨a, bs, d, p⟩ := by
  have hl : bs.length = n := by have := h.1; simp [byteVals] at this; omega
  subst hl
  exact ⟨A, c, rfl, h⟩

/-- Four cells of a block. -/
def Box4 (w : World) (g : Nat) (a b c d : Value) : Prop := w.cell? ⟨g, 0, none⟩ = some a ∧ w.cell? ⟨g, 1, none⟩ = some b ∧ w.cell? ⟨g, 2, none⟩ = some c ∧ w.cell? ⟨g, 3, none⟩ = some d
/-- Four cells that may be written. -/
def Free4 (w : World) (g : Nat) : Prop := w.frozen? ⟨g, 0, none⟩ = false ∧ w.frozen? ⟨g, 1, none⟩ = false ∧ w.frozen? ⟨g, 2, none⟩ = false ∧ w.frozen? ⟨g, 3, none⟩ = false
theorem Box4.below {W w1 : World} {B g : Nat} {a b c d : Value} (h : Box4 W g a b c d) (hb : Below B W w1) (hg : g < B) : Box4 w1 g a b c d :=
  ⟨cellK hb hg h.1, cellK hb hg h.2.1, cellK hb hg h.2.2.1, cellK hb hg h.2.2.2⟩
theorem Free4.below {W w1 : World} {B g : Nat} (h : Free4 W g) (hb : Below B W w1) (hg : g < B) : Free4 w1 g :=
  ⟨frozK hb hg h.1, frozK hb hg h.2.1, frozK hb hg h.2.2.1, frozK hb hg h.2.2.2⟩

/-- A store into another block than the one where the cells lie. -/
theorem Has_put {w : World} {g n sz b o : Nat} {xs : List Value} (h : Has w (some ⟨g, 0, none⟩) n sz xs) (hne : b ≠ g) {u : Value} : Has (w.setCell ⟨b, o, none⟩ u) (some ⟨g, 0, none⟩) n sz xs :=
  ⟨h.1, fun hn => by
    obtain ⟨b', off, e, hlt, hc⟩ := h.2 hn
    refine ⟨b', off, e, by simpa using hlt, fun j v hv => ?_⟩
    simp only [Option.some.injEq, Addr.mk.injEq] at e
    obtain ⟨rfl, rfl, _⟩ := e
    have hne' : (⟨b, o, none⟩ : Addr) ≠ ⟨g, 0 + j, none⟩ := by intro e'; simp only [Addr.mk.injEq] at e'; exact hne e'.1
    exact (World.cell?_setCell_other _ _ _ _ hne').trans (hc j v hv)⟩

theorem own_drewN {w : World} {base : Nat} {e : TypeId} {size : Nat} {v : Value} {n : Nat} {xs : List Value} (h : w.ownsRow base e size v n xs) (k : Nat) : (w.drewN k).ownsRow base e size v n xs := h

end Go.Proofs.Ytjlmgjpnfppkoaa
