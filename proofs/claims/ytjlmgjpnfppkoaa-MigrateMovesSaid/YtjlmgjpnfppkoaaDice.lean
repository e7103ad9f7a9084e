/-
  Dice in a walk: the numbers that they give out are left open; only the dice's own block is written.
-/
import Derived.LoopTactic
import Derived.Test.YtjlmgjpnfppkoaaLeaf
namespace Go.Proofs.Ytjlmgjpnfppkoaa
open Go.RowKit
attribute [local go_sem ↓] Go.wp_at_zero Go.wp_at_succ

/-- Below block B, but for block g, the world w' is as w was. -/
structure But (g B : Nat) (w w' : World) : Prop where
  os : w'.os = w.os
  tape : w'.tape = w.tape
  output : w'.output = w.output
  size : w.heap.size ≤ w'.heap.size
  block : ∀ k, k < B → k ≠ g → w'.heap[k]? = w.heap[k]?
section
variable {g B B' : Nat} {a w w' : World}
theorem But.refl (g B : Nat) (w : World) : But g B w w := ⟨rfl, rfl, rfl, Nat.le_refl _, fun _ _ _ => rfl⟩
theorem But.trans (h : But g B a w) (k : But g B w w') : But g B a w' :=
  ⟨k.os.trans h.os, k.tape.trans h.tape, k.output.trans h.output, Nat.le_trans h.size k.size, fun i hi hg => (k.block i hi hg).trans (h.block i hi hg)⟩
theorem But.mono (h : But g B w w') (hB : B' ≤ B) : But g B' w w' := ⟨h.os, h.tape, h.output, h.size, fun k hk hg => h.block k (Nat.lt_of_lt_of_le hk hB) hg⟩
theorem But.of (h : Below B w w') (g : Nat) : But g B w w' := ⟨h.os, h.tape, h.output, h.size, fun k hk _ => h.block k hk⟩
theorem But.and_below (h : But g B a w) (k : Below B w w') : But g B a w' := h.trans (But.of k g)
theorem But.drew (h : But g B a w) : But g B a w.drew := ⟨h.os, h.tape, h.output, h.size, h.block⟩
theorem But.drewN (h : But g B a w) (n : Nat) : But g B a (w.drewN n) := ⟨h.os, h.tape, h.output, h.size, h.block⟩
theorem But.alloc (h : But g B a w) (hB : B ≤ w.heap.size) (o : Obj) : But g B a (w.alloc o) := h.and_below ((Below.refl _ _).alloc hB o)
theorem But.setCell (h : But g B a w) {p : Addr} (hp : B ≤ p.block ∨ p.block = g) (u : Value) : But g B a (w.setCell p u) :=
  h.trans ⟨rfl, rfl, rfl, by simp [World.setCell], fun k hk hg => Below.heap_setCell _ _ _ _ (by rcases hp with hp | hp <;> omega)⟩
theorem But.cell (h : But g B w w') {p : Addr} (hp : p.block < B) (hg : p.block ≠ g) : w'.cell? p = w.cell? p := World.cell?_of_block (w := w) (h.block p.block hp hg)
theorem But.frozen (h : But g B w w') {p : Addr} (hp : p.block < B) (hg : p.block ≠ g) : w'.frozen? p = w.frozen? p := World.frozen?_of_block (w := w) (h.block p.block hp hg)
theorem But.below (h : But g B w w') (hB : B' ≤ B) (hg : B' ≤ g) : Below B' w w' := ⟨h.os, h.tape, h.output, h.size, fun k hk => h.block k (by omega) (by omega)⟩
theorem cellB (hb : But g B w w') {b i : Nat} {v : Value} (hg : b < B) (hne : b ≠ g) (h : w.cell? ⟨b, i, none⟩ = some v) : w'.cell? ⟨b, i, none⟩ = some v := (hb.cell (p := ⟨b, i, none⟩) hg hne).trans h
theorem frozB (hb : But g B w w') {b i : Nat} {v : Bool} (hg : b < B) (hne : b ≠ g) (h : w.frozen? ⟨b, i, none⟩ = v) : w'.frozen? ⟨b, i, none⟩ = v := (hb.frozen (p := ⟨b, i, none⟩) hg hne).trans h
theorem Has.but {A : Option Addr} {n sz : Nat} {xs : List Value} (h : Has w A n sz xs) (hb : But g w.heap.size w w') (hA : ∀ p, A = some p → p.block ≠ g) : Has w' A n sz xs :=
  ⟨h.1, fun hn => by
    obtain ⟨b, off, e, hlt, hc⟩ := h.2 hn
    exact ⟨b, off, e, Nat.lt_of_lt_of_le hlt hb.size, fun j u hu => (hb.cell (p := ⟨b, off + j, none⟩) hlt (show b ≠ g from hA _ e)).trans (hc j u hu)⟩⟩
theorem row_but {B0 e sz n : Nat} {v : Value} {xs : List Value} (h : w.ownsRow B0 e sz v n xs) (hb : But g w.heap.size w w') (hg : g < B0) : w'.ownsRow B0 e sz v n xs := by
  obtain ⟨h1, h2⟩ := h
  refine ⟨h1, ?_⟩
  rcases h2 with h2 | ⟨k, cap, cur, hv, hk, hh, r⟩
  · exact .inl h2
  · have hlt : k < w.heap.size := by
      rcases Nat.lt_or_ge k w.heap.size with hl | hge
      · exact hl
      · rw [Array.getElem?_eq_none hge] at hh; cases hh
    exact .inr ⟨k, cap, cur, hv, hk, (hb.block k hlt (by omega)).trans hh, r⟩
end

/-- Block g holds dice: a list of numbers that lies elsewhere, and a place. -/
def DiceOk (w : World) (g : Nat) : Prop :=
  g < w.heap.size ∧ ∃ (A : Option Addr) (n c : Nat) (k : Int) (zs : List Int), w.cell? ⟨g, 0, none⟩ = some (.slice A n c) ∧ w.cell? ⟨g, 1, none⟩ = some (.int .i64 k) ∧ w.frozen? ⟨g, 1, none⟩ = false ∧
    0 ≤ k ∧ k ≤ n ∧ n ≤ 400 ∧ Has w A n 1 (zs.map (Value.int .i64)) ∧ (n = 0 ∨ ∀ p, A = some p → p.block < g)
section
variable {g : Nat} {w w' : World}
theorem DiceOk.lt (h : DiceOk w g) : g < w.heap.size := h.1
theorem DiceOk.below (h : DiceOk w g) (hb : Below w.heap.size w w') : DiceOk w' g := by
  obtain ⟨hg, A, n, c, k, zs, h0, h1, h2, h3, h4, h5, h6, h7⟩ := h
  exact ⟨Nat.lt_of_lt_of_le hg hb.size, A, n, c, k, zs, cellK hb hg h0, cellK hb hg h1, frozK hb hg h2, h3, h4, h5, h6.below hb, h7⟩
/-- Below a block number behind the dice all is as it was. -/
theorem DiceOk.lies (h : DiceOk w g) {B : Nat} (hb : Below B w w') (hB : g < B) : DiceOk w' g := by
  obtain ⟨hg, A, n, c, k, zs, h0, h1, h2, h3, h4, h5, h6, h7⟩ := h
  exact ⟨Nat.lt_of_lt_of_le hg hb.size, A, n, c, k, zs, cellK hb hB h0, cellK hb hB h1, frozK hb hB h2, h3, h4, h5, by
    rcases h7 with h7 | h7
    · subst h7
      exact ⟨h6.1, fun hn => absurd hn (by simp)⟩
    · exact h6.lies hb (fun a ha => by have := h7 a ha; omega), h7⟩
theorem DiceOk.put (h : DiceOk w g) {p : Addr} (hp : g < p.block) (u : Value) : DiceOk (w.setCell p u) g := h.lies (B := g + 1) ((Below.refl _ _).setCell (by omega) u) (by omega)
theorem DiceOk.drew (h : DiceOk w g) : DiceOk w.drew g := h
theorem DiceOk.drewN (h : DiceOk w g) (n : Nat) : DiceOk (w.drewN n) g := h
theorem DiceOk.alloc (h : DiceOk w g) (o : Obj) : DiceOk (w.alloc o) g := h.below ((Below.refl _ _).alloc (Nat.le_refl _) o)
end
theorem quiet_add_left {P : Program} {f : FuncId} {args : Array Value} {w : World} {a n : Nat} {v : Value}
    (h : Calls P f args (w.drewN (a + n)) fun e w' => e = .returned v ∧ w.drewN (a + n) = w') :
    Calls P f args (w.drewN (a + n)) fun e w'' => e = .returned v ∧ ∃ m, w'' = w.drewN (a + m) :=
  h.mono fun _ _ ⟨he, hm⟩ => ⟨he, n, hm.symm⟩
theorem quiet_left {P : Program} {f : FuncId} {args : Array Value} {w : World} {n : Nat} {v : Value}
    (h : Calls P f args (w.drewN n) fun e w' => e = .returned v ∧ w.drewN n = w') : Calls P f args (w.drewN n) fun e w'' => e = .returned v ∧ ∃ m, w'' = w.drewN m :=
  h.mono fun _ _ ⟨he, hm⟩ => ⟨he, n, hm.symm⟩

/-- The dice's place moves on. -/
theorem dice_on {w : World} {g : Nat} {A : Option Addr} {n c : Nat} {k : Int} {zs : List Int} (hg : g < w.heap.size) (h0 : w.cell? ⟨g, 0, none⟩ = some (.slice A n c)) (h1 : w.cell? ⟨g, 1, none⟩ = some (.int .i64 k)) (h2 : w.frozen? ⟨g, 1, none⟩ = false)
    (hk : 0 ≤ k) (hkn : k < n) (hn : n ≤ 400) (hH : Has w A n 1 (zs.map (Value.int .i64))) (hA : n = 0 ∨ ∀ p, A = some p → p.block < g) : DiceOk (w.setCell ⟨g, 1, none⟩ (.int .i64 (k + 1))) g := by
  refine ⟨by simpa using hg, A, n, c, k + 1, zs, ?_, ?_, ?_, by omega, by omega, hn, ?_, hA⟩
  · rw [World.cell?_setCell_other _ _ _ _ (by intro e; simp at e)]; exact h0
  · exact World.cell?_setCell_same _ _ _ h1
  · simpa [go_sem] using h2
  · rcases A with _ | ad
    · exact ⟨hH.1, fun hn => by obtain ⟨b, off, e, _⟩ := hH.2 hn; cases e⟩
    · refine ⟨hH.1, fun hn => ?_⟩
      obtain ⟨b, off, e, hlt, hc⟩ := hH.2 hn
      refine ⟨b, off, e, by simpa using hlt, fun j v hv => ?_⟩
      have hne : b ≠ g := by
        rcases hA with hA | hA
        · omega
        · have := hA _ e
          simp at this
          omega
      rw [World.cell?_setCell_other _ _ _ _ (by intro e'; simp only [Addr.mk.injEq] at e'; exact hne e'.1.symm)]
      exact hc j v hv

set_option maxHeartbeats 1000000 in
theorem next_any (g : Nat) (m : Int) (w : World) (hD : DiceOk w g) (hm : 1 ≤ m) (hm2 : m ≤ 9223372036854775807) :
    Calls Try.prog 19 #[.pointer (some ⟨g, 0, none⟩), .int .i64 m] w fun e w' => ∃ z : Int, e = .returned (.int .i64 z) ∧ 0 ≤ z ∧ z < m ∧ DiceOk w' g ∧ But g w.heap.size w w' := by
  have HD := Lib.hid hD
  obtain ⟨hg, A, n, c, k, zs, h0, h1, h2, hk, hkn, hn, hH, hA⟩ := hD
  by_cases hlt : k < n
  · have hon := Lib.hid (dice_on hg h0 h1 h2 hk hlt hn hH hA)
    obtain ⟨K, rfl⟩ : ∃ K : Nat, k = K := ⟨k.toNat, by omega⟩
    obtain ⟨b, off, rfl, hb, hc⟩ := hH.at_ (k := K) (by omega)
    have hne : b ≠ g := by
      rcases hA with hA | hA
      · omega
      · have := hA _ rfl
        simp at this
        omega
    obtain ⟨z, hz⟩ : ∃ z : Int, (zs.map (Value.int .i64)).getD K undef = .int .i64 z := by
      have hl : K < (zs.map (Value.int .i64)).length := by rw [hH.1]; omega
      refine ⟨zs[K]'(by simpa using hl), ?_⟩
      rw [List.getD, List.getElem?_eq_getElem hl]
      simp
    rw [hz] at hc
    have hHm := mod_range z m hm
    have hge : decide ((n : Int) ≤ (K : Int)) = false := by simpa using hlt
    have hc' : (w.setCell ⟨g, 1, none⟩ (.int .i64 ((K : Int) + 1))).cell? ⟨b, off + K, none⟩ = some (.int .i64 z) := by
      rw [World.cell?_setCell_other _ _ _ _ (by intro e'; simp only [Addr.mk.injEq] at e'; exact hne e'.1.symm)]
      exact hc
    have HA := Lib.hid hA
    have HH := Lib.hid hH
    clear hA hH hz
    go_enter Try.func19, Try.ntmps19
    go_wp2
    go_quiet (fail)
    go_wp2
    go_quiet ((go_at_call 20; first | exact quiet_add_left (mod_any _ _ _ hm2) | exact quiet_left (mod_any _ _ _ hm2)))
    go_wp2
    go_ret
    exact ⟨_, rfl, hHm.1, hHm.2, hon.out, (((But.refl g _ w).drewN _).setCell (p := ⟨g, 1, none⟩) (.inr rfl) _).drewN _⟩
  · have hge : decide ((n : Int) ≤ k) = true := by simpa using hlt
    clear hH hA
    go_enter Try.func19, Try.ntmps19
    go_wp2
    go_quiet (fail)
    go_wp2
    go_ret
    exact ⟨0, rfl, by omega, by omega, HD.out.drewN _, (But.refl _ _ _).drewN _⟩

theorem but_grown {g B : Nat} {a w w' : World} {row : Option Nat} (h : But g B a w) (hg : w.grownBy w' row) (hB : B ≤ w.heap.size) (hr : ∀ k, row = some k → B ≤ k) : But g B a w' := h.and_below ((Below.refl B w).grown hg hB hr)

theorem light_yes (A : Option Addr) (n c : Nat) (w : World) (h : n ≤ 400) : Calls Try.prog 15 #[.slice A n c] w fun e w' => e = .returned (.bool true) ∧ w = w' := by
  go_enter Try.func15, Try.ntmps15
  go_wp2
  go_ret
  exact ⟨ret_bool (by simp <;> omega), rfl⟩
theorem light_no (A : Option Addr) (n c : Nat) (w : World) (h : ¬ n ≤ 400) : Calls Try.prog 15 #[.slice A n c] w fun e w' => e = .returned (.bool false) ∧ w = w' := by
  go_enter Try.func15, Try.ntmps15
  go_wp2
  go_ret
  exact ⟨ret_bool (by simp; omega), rfl⟩

/-- Rolled dice lie in a new block. -/
theorem roll_any (A : Option Addr) (n c : Nat) (zs : List Int) (w : World) (h : Has w A n 1 (zs.map (Value.int .i64))) (hn : n ≤ 400) :
    Calls Try.prog 17 #[.slice A n c] w fun e w' => e = .returned (.pointer (some ⟨w.heap.size, 0, none⟩)) ∧ DiceOk w' w.heap.size ∧ Below w.heap.size w w' := by
  have hA : n = 0 ∨ ∀ p, A = some p → p.block < w.heap.size := by
    rcases Nat.eq_zero_or_pos n with h0 | h0
    · exact .inl h0
    · right
      intro p hp
      obtain ⟨b, off, e, hb, _⟩ := h.2 (by omega)
      rw [e] at hp
      injection hp with hp
      subst hp
      exact hb
  have Hh := Lib.hid h
  have HA := Lib.hid hA
  clear h hA
  go_enter Try.func17, Try.ntmps17
  go_wp2
  go_ret
  refine ⟨rfl, ⟨by simp, A, n, c, 0, zs, ?_, ?_, ?_, by omega, by omega, hn, Hh.out.alloc _, HA.out⟩, by (repeat' (first | (with_reducible exact Below.refl _ _) | (with_reducible assumption) | (with_reducible refine Below.alloc ?_ ?_ _) | (with_reducible refine Below.drew ?_) | (with_reducible refine below_drewN ?_ _) | (with_reducible refine Below.setCell ?_ ?_ _) | (with_reducible exact Nat.le_refl _) | omega | (simp <;> omega)))⟩
  · simp [go_sem]
  · simp [go_sem]
  · simp [go_sem]

theorem byte_of (z : Int) (h1 : 0 ≤ z) (h2 : z < 256) : ∃ b : UInt8, z = (b.toNat : Int) := by
  refine ⟨UInt8.ofNat z.toNat, ?_⟩
  simp [UInt8.toNat_ofNat']
  omega

set_option maxHeartbeats 1000000 in
theorem bytes_any (g N : Nat) (w : World) (hD : DiceOk w g) (hN : N ≤ 1024) :
    Calls Try.prog 78 #[.pointer (some ⟨g, 0, none⟩), .int .i64 N] w fun e w' => ∃ A c bs, e = .returned (.slice A N c) ∧ w'.ownsRow w.heap.size 5 1 (.slice A N c) N (byteVals bs) ∧ DiceOk w' g ∧ But g w.heap.size w w' := by
  have HD := Lib.hid hD
  have hg := hD.lt
  clear hD
  obtain ⟨i5, hi, hz0, hz1, hz2⟩ := info_parts info5
  have Hi := Lib.hid hi
  have Hz0 := Lib.hid hz0
  have Hz1 := Lib.hid hz1
  have Hz2 := Lib.hid hz2
  clear hi hz0 hz1 hz2
  go_enter Try.func78, Try.ntmps78
  go_wp2_with fail
  go_loopw [1, 5] (fun i v wr => ∃ (k m : Nat) (bs : List UInt8), i = .int .i64 k ∧ k + m = N ∧ Hid (wr.ownsRow w.heap.size 5 1 v m (byteVals bs)) ∧ Hid (DiceOk wr g) ∧ Hid (But g w.heap.size w wr)) (fun i _ _ => (intOf i).toNat)
  case atStart => exact ⟨N, 0, [], rfl, by omega, World.ownsRow_nil _ _ _ _, HD.out, But.refl _ _ _⟩
  case round =>
    obtain ⟨k, m, bs, rfl, hkm, HO, HDr, HB⟩ := hrel
    have hsz := HB.out.size
    have Hkm := Lib.hid hkm
    have hk : k ≤ N := by omega
    have hm : m ≤ 1024 := by omega
    clear hkm
    by_cases h0 : 0 < k
    · go_wp2_with fail
      refine (next_any g 256 _ HDr.out (by omega) (by omega)).mono ?_
      rintro e w1 ⟨z, rfl, z1, z2, hD1, hb1⟩
      have hs1 := hb1.size
      obtain ⟨b, rfl⟩ := byte_of z z1 z2
      have HO1 := Lib.hid (row_but HO.out hb1 hg)
      have HB1 := Lib.hid (HB.out.trans (hb1.mono hsz))
      have HD1 := Lib.hid hD1
      clear hb1 hD1
      go_wp2_with (first
          | (at_builtin; refine wpList_append_has _ rfl (.tmp 10) (.tmp 14) 26 rfl w.heap.size 5 i5 _ 1 1 Try.underlying26 Hi.out Hz0.out Hz1.out Hz2.out rfl (by decide) _ _ _ rfl (own_new HO1.out _) _ 1 1 (byteVals [b]) rfl (Has.lit_at _ _ _ 1 1 _ _ rfl (by (first | (with_reducible exact Nat.le_refl _) | (with_reducible assumption) | omega | (simp <;> omega))) rfl) (byteVals_one _) (by unfold maxLen; omega) (by omega) (by (first | (with_reducible exact Nat.le_refl _) | (with_reducible assumption) | omega | (simp <;> omega))) ?_; intro v7 w7 h7 hg7 _))
      go_roundw
      case rel =>
        have hb7 := (Below.refl w.heap.size _).grown hg7 (by (first | (with_reducible exact Nat.le_refl _) | (with_reducible assumption) | omega | (simp <;> omega))) fun q hq => (HO1.out.lt q hq).1
        refine ⟨k - 1, m + 1, bs ++ [b], by go_num, by have := Hkm.out; omega, ?_, ?_, ?_⟩
        · show World.ownsRow _ _ _ _ _ _ _
          simpa [byteVals] using h7
        · exact (HD1.out.alloc _).lies hb7 hg
        · exact (HB1.out.alloc (by (first | (with_reducible exact Nat.le_refl _) | (with_reducible assumption) | omega | (simp <;> omega))) _).and_below hb7
      case measure => simp [intOf]; omega
    · have hk0 : k = 0 := by omega
      subst hk0
      go_wp2_with fail
      go_ret
      obtain ⟨A, c, hv, -⟩ := own_form HO.out
      have hmN : m = N := by have := Hkm.out; omega
      subst hmN
      subst hv
      exact ⟨A, c, bs, rfl, HO.out, HDr.out, HB.out⟩

theorem bkeepB {W w1 : World} {g B : Nat} (hb : But g B W w1) (k : Nat) (hk : k < B) (hne : k ≠ g) :
    (∀ o, w1.cell? ⟨k, o, none⟩ = W.cell? ⟨k, o, none⟩) ∧ (∀ o, w1.frozen? ⟨k, o, none⟩ = W.frozen? ⟨k, o, none⟩) :=
  ⟨fun o => hb.cell (p := ⟨k, o, none⟩) hk hne, fun o => hb.frozen (p := ⟨k, o, none⟩) hk hne⟩

theorem ownLine_mk {w : World} {B : Nat} {A : Option Addr} {n c : Nat} {bs : List UInt8} {a : Int} {d p : Bool} (h : w.ownsRow B 5 1 (.slice A n c) n (byteVals bs)) : OwnLine 5 w B (.agg #[.int .i64 a, .slice A n c, .bool d, .bool p]) ⟨a, bs, d, p⟩ := by
  have hl : bs.length = n := by have := h.1; simp [byteVals] at this; omega
  subst hl
  exact ⟨A, c, rfl, h⟩

set_option maxHeartbeats 2000000 in
theorem line_any (g N : Nat) (a : Int) (w : World) (hD : DiceOk w g) (hN : N ≤ 1024) :
    Calls Try.prog 46 #[.pointer (some ⟨g, 0, none⟩), .int .i64 N, .int .i64 a] w fun e w' => ∃ v L, e = .returned v ∧ L.addr = a ∧ L.data.length = N ∧ OwnLine 5 w' w.heap.size v L ∧ DiceOk w' g ∧ But g w.heap.size w w' := by
  have HD := Lib.hid hD
  have hg := hD.lt
  clear hD
  have hmk := run_make_one (P := Try.prog) 26 5 .u8 1 info5 Try.underlying26 N (by omega) (by omega)
  go_enter Try.func46, Try.ntmps46
  go_wp2_with fail
  refine (bytes_any g N _ (HD.out.alloc _) hN).mono ?_
  rintro e w1 ⟨A, c, bs, rfl, hown, hD1, hb1⟩
  have hs1 := hb1.size
  simp only [World.size_alloc] at hs1
  obtain ⟨c1, f1⟩ := bkeepB hb1 w.heap.size (by (first | (with_reducible exact Nat.le_refl _) | (with_reducible assumption) | omega | (simp <;> omega))) (by omega)
  have l1 : w.heap.size < w1.heap.size := by omega
  have HD1 := Lib.hid hD1
  have HO1 := Lib.hid hown
  have HB1 := Lib.hid ((show But g w.heap.size w _ by (repeat' (first | (with_reducible exact But.refl _ _ _) | (with_reducible assumption) | (with_reducible refine But.alloc ?_ ?_ _) | (with_reducible refine But.drew ?_) | (with_reducible refine But.drewN ?_ _) | (with_reducible refine But.setCell ?_ ?_ _) | (with_reducible exact Nat.le_refl _) | omega | (simp <;> omega) | (left; first | omega | (simp <;> omega))))).trans (hb1.mono (show w.heap.size ≤ _ by (first | (with_reducible exact Nat.le_refl _) | (with_reducible assumption) | omega | (simp <;> omega)))))
  clear hb1 hD1 hown
  go_wp2_with fail
  refine (next_any g 2 _ HD1.out (by omega) (by omega)).mono ?_
  rintro e w2 ⟨z, rfl, z1, z2, hD2, hb2⟩
  have hs2 := hb2.size
  obtain ⟨c2, f2⟩ := bkeepB hb2 w.heap.size (by (first | (with_reducible exact Nat.le_refl _) | (with_reducible assumption) | omega | (simp <;> omega))) (by omega)
  have l2 : w.heap.size < w2.heap.size := by omega
  have HD2 := Lib.hid hD2
  have HO2 := Lib.hid (row_but HO1.out hb2 (by (first | (with_reducible exact Nat.le_refl _) | (with_reducible assumption) | omega | (simp <;> omega))))
  have HB2 := Lib.hid (HB1.out.trans (hb2.mono (show w.heap.size ≤ _ by (first | (with_reducible exact Nat.le_refl _) | (with_reducible assumption) | omega | (simp <;> omega)))))
  clear hb2 hD2
  go_wp2_with fail
  refine (next_any g 5 _ HD2.out (by omega) (by omega)).mono ?_
  rintro e w3 ⟨y, rfl, y1, y2, hD3, hb3⟩
  have hs3 := hb3.size
  obtain ⟨c3, f3⟩ := bkeepB hb3 w.heap.size (by (first | (with_reducible exact Nat.le_refl _) | (with_reducible assumption) | omega | (simp <;> omega))) (by omega)
  have l3 : w.heap.size < w3.heap.size := by omega
  have HD3 := Lib.hid hD3
  have HO3 := Lib.hid (row_but HO2.out hb3 (by (first | (with_reducible exact Nat.le_refl _) | (with_reducible assumption) | omega | (simp <;> omega))))
  have HB3 := Lib.hid (HB2.out.trans (hb3.mono (show w.heap.size ≤ _ by (first | (with_reducible exact Nat.le_refl _) | (with_reducible assumption) | omega | (simp <;> omega)))))
  clear hb3 hD3
  have hdl : bs.length = N := by have := HO3.out.1; simp [byteVals] at this; omega
  have HDL := Lib.hid hdl
  clear hdl
  by_cases hy : y = 1
  · subst hy
    go_wp2_with fail
    refine bodyPost_ret (v := .agg #[.int .i64 a, .slice (some ⟨w3.heap.size + 1, 0, none⟩) N N, .bool (z == 0), .bool true]) (by simp [results, Try.results46, go_sem, *]) rfl ?_
    have hd := HD3.out
    have hb := HB3.out
    refine ⟨_, ⟨a, List.replicate N 0, z == 0, true⟩, rfl, rfl, by simp, ownLine_mk ?_, by (repeat' (first | (with_reducible assumption) | (with_reducible refine DiceOk.put ?_ ?_ _) | (with_reducible refine DiceOk.alloc ?_ _) | (with_reducible refine DiceOk.drew ?_) | (with_reducible refine DiceOk.drewN ?_ _) | omega | (simp <;> omega))), by (repeat' (first | (with_reducible exact But.refl _ _ _) | (with_reducible assumption) | (with_reducible refine But.alloc ?_ ?_ _) | (with_reducible refine But.drew ?_) | (with_reducible refine But.drewN ?_ _) | (with_reducible refine But.setCell ?_ ?_ _) | (with_reducible exact Nat.le_refl _) | omega | (simp <;> omega) | (left; first | omega | (simp <;> omega))))⟩
    first
      | exact own_zeros_at _ _ _ _ _ (by omega) (by simp) (by omega)
      | exact own_drew (own_zeros_at _ _ _ _ _ (by omega) (by simp) (by omega))
  · have hy' : (y == 1) = false := by simp [hy]
    go_wp2_with fail
    refine bodyPost_ret (v := .agg #[.int .i64 a, .slice A N c, .bool (z == 0), .bool false]) (by simp [results, Try.results46, go_sem, *]) rfl ?_
    have hd := HD3.out
    have hb := HB3.out
    have ho := ownsRow_base HO3.out (show w.heap.size + 1 ≤ _ by simp)
    refine ⟨_, ⟨a, bs, z == 0, false⟩, rfl, rfl, HDL.out, ownLine_mk (ownsRow_base (B := w.heap.size + 1) ?_ (by omega)), by (repeat' (first | (with_reducible assumption) | (with_reducible refine DiceOk.put ?_ ?_ _) | (with_reducible refine DiceOk.alloc ?_ _) | (with_reducible refine DiceOk.drew ?_) | (with_reducible refine DiceOk.drewN ?_ _) | omega | (simp <;> omega))), by (repeat' (first | (with_reducible exact But.refl _ _ _) | (with_reducible assumption) | (with_reducible refine But.alloc ?_ ?_ _) | (with_reducible refine But.drew ?_) | (with_reducible refine But.drewN ?_ _) | (with_reducible refine But.setCell ?_ ?_ _) | (with_reducible exact Nat.le_refl _) | omega | (simp <;> omega) | (left; first | omega | (simp <;> omega))))⟩
    (repeat' (first | (with_reducible assumption) | (with_reducible refine own_put ?_ ?_ _) | (with_reducible refine own_new ?_ _) | (with_reducible refine own_drew ?_) | (with_reducible refine own_drewN ?_ _) | omega))
end Go.Proofs.Ytjlmgjpnfppkoaa
