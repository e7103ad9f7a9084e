/-
  The walk of LineStays: it returns true, and what was there before is as it was.
-/
import Derived.BigRegion
import Derived.LoopTactic
import Derived.Test.YtofngakjpdplaaaLClone
import Derived.Test.YtofngakjpdplaaaLStore
import Derived.Test.YtofngakjpdplaaaLLoad
import Derived.Test.YtofngakjpdplaaaLDamage
import Derived.Test.YtofngakjpdplaaaLPatch
import Derived.Test.YtofngakjpdplaaaLSame
import Derived.Test.YtofngakjpdplaaaLAwake
namespace Go.Proofs.Ytofngakjpdplaaa
open Go.RowKit
attribute [local go_sem ↓] Go.wp_at_zero Go.wp_at_succ

theorem getD_mem {α : Type} (l : List α) (k : Nat) (d : α) (h : k < l.length) : l.getD k d ∈ l := by
  simp [List.getD, List.getElem?_eq_getElem h]

set_option maxRecDepth 100000 in
set_option maxHeartbeats 8000000 in
theorem stays_any (vx : Value) (X : LineD) (A2 : Option Addr) (ns c2 : Nat) (ss : List Int) (w : World) (hx : IsLine w vx X) (hs : Has w A2 ns 1 (ss.map (Value.int .u16))) (hss : ∀ s ∈ ss, 0 ≤ s ∧ s ≤ 65535)
    (hn1 : 1 ≤ X.data.length) (hn : X.data.length ≤ 40) (hns : ns ≤ 60) :
    Calls Try.prog 4 #[vx, .slice A2 ns c2] w fun e w' => e = .returned (.bool true) ∧ Below w.heap.size w w' := by
  obtain ⟨A, c, rfl, hx⟩ := hx
  obtain ⟨a, bs, d, p⟩ := X
  simp only at hx hn hn1
  obtain ⟨n, hnl⟩ : ∃ n, n = bs.length := ⟨_, rfl⟩
  rw [← hnl] at hx hn hn1
  simp only [← hnl]
  have Hx := Lib.hid hx
  have Hs := Lib.hid hs
  have Hss := Lib.hid hss
  have hmk := run_make_one (P := Try.prog) 22 5 .u8 1 info5 Try.underlying22 n (by omega) (by omega)
  have hsl : ss.length = ns := by have := hs.1; simpa using this
  have Hsl := Lib.hid hsl
  clear hx hs hss hnl hsl
  go_enter Try.func4, Try.ntmps4
  go_wp2_with fail
  go_region
  go_wp2_with fail
  go_loopw [6, 37] (fun pv i wr => ∃ (k : Nat) (ys : List UInt8) (A' : Option Addr) (c' : Nat) (d' p' : Bool), k ≤ ns ∧ i = .int .i64 k ∧ pv = .bool p' ∧ Hid (Has wr A' n 1 (byteVals ys)) ∧
      Box4 wr (w.heap.size + 1) (.int .i64 a) (.slice A' n c') (.bool d') (.bool p') ∧ Free4 wr (w.heap.size + 1) ∧ Box4 wr w.heap.size (.int .i64 a) (.slice A n c) (.bool d) (.bool p) ∧
      w.heap.size + 1 < wr.heap.size ∧ Below w.heap.size w wr)
    (fun _ i _ => ns - (intOf i).toNat)
  case atStart =>
    refine ⟨0, bs, A, c, d, p, by omega, rfl, rfl, ((Hx.out.alloc _).alloc _).drew, ?_, ?_, ?_, by simp, by (repeat' (first | (with_reducible exact Below.refl _ _) | (with_reducible assumption) | (with_reducible refine Below.alloc ?_ ?_ _) | (with_reducible refine Below.drew ?_) | (with_reducible refine below_drewN ?_ _) | (with_reducible refine Below.setCell ?_ ?_ _) | (with_reducible exact Nat.le_refl _) | omega | (simp <;> omega)))⟩
    · exact ⟨by simp [go_sem], by simp [go_sem], by simp [go_sem], by simp [go_sem]⟩
    · exact ⟨by simp [go_sem], by simp [go_sem], by simp [go_sem], by simp [go_sem]⟩
    · exact ⟨by simp [go_sem], by simp [go_sem], by simp [go_sem], by simp [go_sem]⟩
  case round =>
    obtain ⟨k, ys, A', c', d', p', hk, rfl, rfl, Hy, hby, hfy, hbx, hsz, hB⟩ := hrel
    by_cases hlt : k < ns
    · obtain ⟨bo, off, rfl, hbo, hcell⟩ := Hs.out.at_ hlt
      have hcell' := (hB.cell (p := ⟨bo, off + k, none⟩) hbo).trans hcell
      obtain ⟨s, hs⟩ : ∃ s, s = ss.getD k 0 := ⟨_, rfl⟩
      have hkl : k < ss.length := by rw [Hsl.out]; exact hlt
      have hsv : ((ss.map (Value.int .u16)).getD k undef) = .int .u16 s := by
        rw [hs]; simp [List.getD, List.getElem?_eq_getElem hkl]
      rw [hsv] at hcell'
      have hsb := Hss.out s (by rw [hs]; exact getD_mem ss k 0 hkl)
      obtain ⟨hs0, hs1⟩ := hsb
      obtain ⟨y0, y1, y2, y3⟩ := hby
      obtain ⟨g0, g1, g2, g3⟩ := hfy
      obtain ⟨x0, x1, x2, x3⟩ := hbx
      have hBs := hB.size
      have Hyl : Hid (ys.length = n) := by have := Hy.out.1; simp [byteVals] at this; exact this
      have l0 : w.heap.size < wr.heap.size := by omega
      have hkn : (k : Int) < (ns : Int) := by omega
      clear hcell hsv hs hkl Hss Hs
      by_cases hm0 : s % 4 = 0
      · have htok : True := trivial
        go_wp2_with fail
        refine (ldamage_any _ ⟨a, ys, d', p'⟩ _ (isLine_mk a d' p' (Hy.out.alloc _)) (by show ys.length ≤ _; rw [Hyl.out]; omega)).mono ?_
        rintro e w1 ⟨v1, rfl, ⟨A1, c1, rfl, hown⟩, hb1⟩
        have hs1 := hb1.size
        simp only [damageF, List.length_replicate, Hyl.out, World.size_alloc] at hown hs1 ⊢
        obtain ⟨zs, hzs⟩ : ∃ zs : List UInt8, zs = List.replicate n 0 := ⟨_, rfl⟩
        have Hzl : Hid (zs.length = n) := by rw [hzs]; exact List.length_replicate
        rw [← hzs] at hown
        have hB1 := (show Below w.heap.size w _ by (repeat' (first | (with_reducible exact Below.refl _ _) | (with_reducible assumption) | (with_reducible refine Below.alloc ?_ ?_ _) | (with_reducible refine Below.drew ?_) | (with_reducible refine below_drewN ?_ _) | (with_reducible refine Below.setCell ?_ ?_ _) | (with_reducible exact Nat.le_refl _) | omega | (simp <;> omega)))).trans (hb1.mono (show w.heap.size ≤ _ by (first | (with_reducible exact Nat.le_refl _) | (with_reducible assumption) | omega | (simp <;> omega))))
        have p0 := cellK (g := w.heap.size) (i := 0) (v := .int .i64 a) hb1 (by (first | (with_reducible exact Nat.le_refl _) | (with_reducible assumption) | omega | (simp <;> omega))) (by simp [go_sem, *])
        have p1 := cellK (g := w.heap.size) (i := 1) (v := .slice A n c) hb1 (by (first | (with_reducible exact Nat.le_refl _) | (with_reducible assumption) | omega | (simp <;> omega))) (by simp [go_sem, *])
        have p2 := cellK (g := w.heap.size) (i := 2) (v := .bool d) hb1 (by (first | (with_reducible exact Nat.le_refl _) | (with_reducible assumption) | omega | (simp <;> omega))) (by simp [go_sem, *])
        have p3 := cellK (g := w.heap.size) (i := 3) (v := .bool p) hb1 (by (first | (with_reducible exact Nat.le_refl _) | (with_reducible assumption) | omega | (simp <;> omega))) (by simp [go_sem, *])
        have q0 := cellK (g := w.heap.size + 1) (i := 0) (v := .int .i64 a) hb1 (by (first | (with_reducible exact Nat.le_refl _) | (with_reducible assumption) | omega | (simp <;> omega))) (by simp [go_sem, *])
        have qf0 := frozK (g := w.heap.size + 1) (i := 0) hb1 (by (first | (with_reducible exact Nat.le_refl _) | (with_reducible assumption) | omega | (simp <;> omega))) (by simp [go_sem, *])
        have q1 := cellK (g := w.heap.size + 1) (i := 1) (v := .slice A' n c') hb1 (by (first | (with_reducible exact Nat.le_refl _) | (with_reducible assumption) | omega | (simp <;> omega))) (by simp [go_sem, *])
        have qf1 := frozK (g := w.heap.size + 1) (i := 1) hb1 (by (first | (with_reducible exact Nat.le_refl _) | (with_reducible assumption) | omega | (simp <;> omega))) (by simp [go_sem, *])
        have q2 := cellK (g := w.heap.size + 1) (i := 2) (v := .bool d') hb1 (by (first | (with_reducible exact Nat.le_refl _) | (with_reducible assumption) | omega | (simp <;> omega))) (by simp [go_sem, *])
        have qf2 := frozK (g := w.heap.size + 1) (i := 2) hb1 (by (first | (with_reducible exact Nat.le_refl _) | (with_reducible assumption) | omega | (simp <;> omega))) (by simp [go_sem, *])
        have q3 := cellK (g := w.heap.size + 1) (i := 3) (v := .bool p') hb1 (by (first | (with_reducible exact Nat.le_refl _) | (with_reducible assumption) | omega | (simp <;> omega))) (by simp [go_sem, *])
        have qf3 := frozK (g := w.heap.size + 1) (i := 3) hb1 (by (first | (with_reducible exact Nat.le_refl _) | (with_reducible assumption) | omega | (simp <;> omega))) (by simp [go_sem, *])
        have t0 := cellK (g := wr.heap.size) (i := 0) (v := .int .i64 0) hb1 (by (first | (with_reducible exact Nat.le_refl _) | (with_reducible assumption) | omega | (simp <;> omega))) (by simp [go_sem, *])
        have tf0 := frozK (g := wr.heap.size) (i := 0) hb1 (by (first | (with_reducible exact Nat.le_refl _) | (with_reducible assumption) | omega | (simp <;> omega))) (by simp [go_sem, *])
        have t1 := cellK (g := wr.heap.size) (i := 1) (v := .slice none 0 0) hb1 (by (first | (with_reducible exact Nat.le_refl _) | (with_reducible assumption) | omega | (simp <;> omega))) (by simp [go_sem, *])
        have tf1 := frozK (g := wr.heap.size) (i := 1) hb1 (by (first | (with_reducible exact Nat.le_refl _) | (with_reducible assumption) | omega | (simp <;> omega))) (by simp [go_sem, *])
        have t2 := cellK (g := wr.heap.size) (i := 2) (v := .bool false) hb1 (by (first | (with_reducible exact Nat.le_refl _) | (with_reducible assumption) | omega | (simp <;> omega))) (by simp [go_sem, *])
        have tf2 := frozK (g := wr.heap.size) (i := 2) hb1 (by (first | (with_reducible exact Nat.le_refl _) | (with_reducible assumption) | omega | (simp <;> omega))) (by simp [go_sem, *])
        have t3 := cellK (g := wr.heap.size) (i := 3) (v := .bool false) hb1 (by (first | (with_reducible exact Nat.le_refl _) | (with_reducible assumption) | omega | (simp <;> omega))) (by simp [go_sem, *])
        have tf3 := frozK (g := wr.heap.size) (i := 3) hb1 (by (first | (with_reducible exact Nat.le_refl _) | (with_reducible assumption) | omega | (simp <;> omega))) (by simp [go_sem, *])
        have ma0 : w.heap.size < w1.heap.size := by omega
        have ma1 : w.heap.size + 1 < w1.heap.size := by omega
        have ma2 : wr.heap.size < w1.heap.size := by omega
        have hB1s := hB1.size
        clear hzs hb1 hmk Hy x0 x1 x2 x3 y0 y1 y2 y3 g0 g1 g2 g3 hB hcell'
        go_wp2_with fail
        have hle : (loadE ⟨a, zs, d', true⟩ == 48) = true := by first | rfl | (cases true <;> rfl)
        refine (lload_any _ ⟨a, zs, d', true⟩ _ (isLine_mk a d' true (Has.of_own (base := wr.heap.size + 1) (e := 5) (by (repeat' (first | (with_reducible assumption) | (with_reducible refine own_put ?_ ?_ _) | (with_reducible refine own_new ?_ _) | (with_reducible refine own_drew ?_) | (with_reducible refine own_drewN ?_ _) | omega))))) (by show zs.length ≤ _; rw [Hzl.out]; omega)).mono ?_
        rintro e w9 ⟨A9, c9, rfl, -, hb9⟩
        have hs9 := hb9.size
        simp at hs9
        have hown9 : w9.ownsRow (wr.heap.size + 1) 5 1 (.slice A1 n c1) n (byteVals zs) := ownsRow_below (by (repeat' (first | (with_reducible assumption) | (with_reducible refine own_put ?_ ?_ _) | (with_reducible refine own_new ?_ _) | (with_reducible refine own_drew ?_) | (with_reducible refine own_drewN ?_ _) | omega))) hb9
        have hB9 := (show Below w.heap.size w _ by (repeat' (first | (with_reducible exact Below.refl _ _) | (with_reducible assumption) | (with_reducible refine Below.alloc ?_ ?_ _) | (with_reducible refine Below.drew ?_) | (with_reducible refine below_drewN ?_ _) | (with_reducible refine Below.setCell ?_ ?_ _) | (with_reducible exact Nat.le_refl _) | omega | (simp <;> omega)))).trans (hb9.mono (show w.heap.size ≤ _ by (first | (with_reducible exact Nat.le_refl _) | (with_reducible assumption) | omega | (simp <;> omega))))
        have u0 := cellK (g := w.heap.size) (i := 0) (v := .int .i64 a) hb9 (by (first | (with_reducible exact Nat.le_refl _) | (with_reducible assumption) | omega | (simp <;> omega))) (by simp [go_sem, *])
        have u1 := cellK (g := w.heap.size) (i := 1) (v := .slice A n c) hb9 (by (first | (with_reducible exact Nat.le_refl _) | (with_reducible assumption) | omega | (simp <;> omega))) (by simp [go_sem, *])
        have u2 := cellK (g := w.heap.size) (i := 2) (v := .bool d) hb9 (by (first | (with_reducible exact Nat.le_refl _) | (with_reducible assumption) | omega | (simp <;> omega))) (by simp [go_sem, *])
        have u3 := cellK (g := w.heap.size) (i := 3) (v := .bool p) hb9 (by (first | (with_reducible exact Nat.le_refl _) | (with_reducible assumption) | omega | (simp <;> omega))) (by simp [go_sem, *])
        have v0 := cellK (g := w.heap.size + 1) (i := 0) (v := .int .i64 a) hb9 (by (first | (with_reducible exact Nat.le_refl _) | (with_reducible assumption) | omega | (simp <;> omega))) (by simp [go_sem, *])
        have vf0 := frozK (g := w.heap.size + 1) (i := 0) hb9 (by (first | (with_reducible exact Nat.le_refl _) | (with_reducible assumption) | omega | (simp <;> omega))) (by simp [go_sem, *])
        have v1 := cellK (g := w.heap.size + 1) (i := 1) (v := .slice A' n c') hb9 (by (first | (with_reducible exact Nat.le_refl _) | (with_reducible assumption) | omega | (simp <;> omega))) (by simp [go_sem, *])
        have vf1 := frozK (g := w.heap.size + 1) (i := 1) hb9 (by (first | (with_reducible exact Nat.le_refl _) | (with_reducible assumption) | omega | (simp <;> omega))) (by simp [go_sem, *])
        have v2 := cellK (g := w.heap.size + 1) (i := 2) (v := .bool d') hb9 (by (first | (with_reducible exact Nat.le_refl _) | (with_reducible assumption) | omega | (simp <;> omega))) (by simp [go_sem, *])
        have vf2 := frozK (g := w.heap.size + 1) (i := 2) hb9 (by (first | (with_reducible exact Nat.le_refl _) | (with_reducible assumption) | omega | (simp <;> omega))) (by simp [go_sem, *])
        have v3 := cellK (g := w.heap.size + 1) (i := 3) (v := .bool p') hb9 (by (first | (with_reducible exact Nat.le_refl _) | (with_reducible assumption) | omega | (simp <;> omega))) (by simp [go_sem, *])
        have vf3 := frozK (g := w.heap.size + 1) (i := 3) hb9 (by (first | (with_reducible exact Nat.le_refl _) | (with_reducible assumption) | omega | (simp <;> omega))) (by simp [go_sem, *])
        have z0 := cellK (g := wr.heap.size) (i := 0) (v := .int .i64 a) hb9 (by (first | (with_reducible exact Nat.le_refl _) | (with_reducible assumption) | omega | (simp <;> omega))) (by simp [go_sem, *])
        have z1 := cellK (g := wr.heap.size) (i := 1) (v := .slice A1 n c1) hb9 (by (first | (with_reducible exact Nat.le_refl _) | (with_reducible assumption) | omega | (simp <;> omega))) (by simp [go_sem, *])
        have z2 := cellK (g := wr.heap.size) (i := 2) (v := .bool d') hb9 (by (first | (with_reducible exact Nat.le_refl _) | (with_reducible assumption) | omega | (simp <;> omega))) (by simp [go_sem, *])
        have z3 := cellK (g := wr.heap.size) (i := 3) (v := .bool true) hb9 (by (first | (with_reducible exact Nat.le_refl _) | (with_reducible assumption) | omega | (simp <;> omega))) (by simp [go_sem, *])
        have mn0 : w.heap.size < w9.heap.size := by omega
        have mn1 : w.heap.size + 1 < w9.heap.size := by omega
        have mn2 : wr.heap.size < w9.heap.size := by omega
        clear hb9 hown ma0 ma1 ma2 hB1 hB1s p0 p1 p2 p3 q0 q1 q2 q3 qf0 qf1 qf2 qf3 t0 t1 t2 t3 tf0 tf1 tf2 tf3
        go_wp2_with fail
        have hB9s := hB9.size
        go_roundw
        case rel =>
          refine ⟨k + 1, zs, A1, c1, d', true, by omega, by go_num, rfl, Has.of_own (base := wr.heap.size + 1) (e := 5) (by (repeat' (first | (with_reducible assumption) | (with_reducible refine own_put ?_ ?_ _) | (with_reducible refine own_new ?_ _) | (with_reducible refine own_drew ?_) | (with_reducible refine own_drewN ?_ _) | omega))), ?_, ?_, ?_, ?_, by (repeat' (first | (with_reducible exact Below.refl _ _) | (with_reducible assumption) | (with_reducible refine Below.alloc ?_ ?_ _) | (with_reducible refine Below.drew ?_) | (with_reducible refine below_drewN ?_ _) | (with_reducible refine Below.setCell ?_ ?_ _) | (with_reducible exact Nat.le_refl _) | omega | (simp <;> omega)))⟩
          · exact ⟨by simp [go_sem, *], by simp [go_sem, *], by simp [go_sem, *], by simp [go_sem, *]⟩
          · exact ⟨by simp [go_sem, *], by simp [go_sem, *], by simp [go_sem, *], by simp [go_sem, *]⟩
          · exact ⟨by simp [go_sem, *], by simp [go_sem, *], by simp [go_sem, *], by simp [go_sem, *]⟩
          · simpa using mn1
        case measure => simp [intOf]; omega
      · by_cases hm1 : s % 4 = 1
        · have htok : True := trivial
          have hz0 : (zeros (.int .u8 0) n)[0]? = some (.int .u8 0) := by
            rw [← Array.getElem?_toList, zeros_list, List.getElem?_replicate, if_pos (by omega)]
          obtain ⟨zs, hzs⟩ : ∃ zs : List UInt8, zs = (List.replicate n 0).set 0 (UInt8.ofNat (s / 256).toNat) := ⟨_, rfl⟩
          have Hzl : Hid (zs.length = n) := by rw [hzs]; exact (List.length_set).trans List.length_replicate
          have Hzv : Hid (((zeros (.int .u8 0) n).setIfInBounds 0 (.int .u8 (s / 256))).toList = byteVals zs) := by
            have h1 : ((UInt8.ofNat (s / 256).toNat).toNat : Int) = s / 256 := by rw [UInt8.toNat_ofNat']; omega
            rw [hzs, Array.toList_setIfInBounds, zeros_bytes]
            show _ = _
            simp only [byteVals, List.map_set, h1]
          have Hzc : Hid (((zeros (.int .u8 0) n).setIfInBounds 0 (.int .u8 (s / 256))).size = n * 1) := by show _ = _; rw [Array.size_setIfInBounds, zeros_size]; omega
          clear hzs
          go_wp2_with fail
          obtain ⟨blk, hblk⟩ : ∃ blk, blk = (zeros (.int .u8 0) n).setIfInBounds 0 (.int .u8 (s / 256)) := ⟨_, rfl⟩
          rw [← hblk] at Hzv Hzc
          rewrite [← hblk]
          have hse : storeE ⟨a, ys, d', p'⟩ zs = 0 := by simp [storeE, Hzl.out, Hyl.out]
          have hsf : storeF ⟨a, ys, d', p'⟩ zs = ⟨a, zs, true, false⟩ := by simp [storeF, Hzl.out, Hyl.out]
          have Hse := Lib.hid hse
          have Hsf := Lib.hid hsf
          have HD := Lib.hid (Has.lit_at (wr.alloc (.cells #[.int .i64 0, .slice none 0 0, .bool false, .bool false] 24)) blk 5 n 1 (wr.heap.size + 1) (byteVals zs) Hzc.out (by simp) Hzv.out)
          clear hblk hse hsf Hzv Hzc
          refine (lstore_any _ ⟨a, ys, d', p'⟩ _ _ _ zs _ (isLine_mk a d' p' ((Hy.out.alloc _).alloc _)) HD.out (by omega)).mono ?_
          rintro e w1 ⟨v1, rfl, hO1, hb1⟩
          have hs1 := hb1.size
          simp only [World.size_alloc] at hs1
          simp only [Hse.out, Hsf.out] at hO1 ⊢
          obtain ⟨A1, c1, rfl, hown⟩ := hO1
          simp only [Hzl.out, World.size_alloc] at hown ⊢
          have hB1 := (show Below w.heap.size w _ by (repeat' (first | (with_reducible exact Below.refl _ _) | (with_reducible assumption) | (with_reducible refine Below.alloc ?_ ?_ _) | (with_reducible refine Below.drew ?_) | (with_reducible refine below_drewN ?_ _) | (with_reducible refine Below.setCell ?_ ?_ _) | (with_reducible exact Nat.le_refl _) | omega | (simp <;> omega)))).trans (hb1.mono (show w.heap.size ≤ _ by (first | (with_reducible exact Nat.le_refl _) | (with_reducible assumption) | omega | (simp <;> omega))))
          have HD1 := Lib.hid (HD.out.below hb1)
          have p0 := cellK (g := w.heap.size) (i := 0) (v := .int .i64 a) hb1 (by (first | (with_reducible exact Nat.le_refl _) | (with_reducible assumption) | omega | (simp <;> omega))) (by simp [go_sem, *])
          have p1 := cellK (g := w.heap.size) (i := 1) (v := .slice A n c) hb1 (by (first | (with_reducible exact Nat.le_refl _) | (with_reducible assumption) | omega | (simp <;> omega))) (by simp [go_sem, *])
          have p2 := cellK (g := w.heap.size) (i := 2) (v := .bool d) hb1 (by (first | (with_reducible exact Nat.le_refl _) | (with_reducible assumption) | omega | (simp <;> omega))) (by simp [go_sem, *])
          have p3 := cellK (g := w.heap.size) (i := 3) (v := .bool p) hb1 (by (first | (with_reducible exact Nat.le_refl _) | (with_reducible assumption) | omega | (simp <;> omega))) (by simp [go_sem, *])
          have q0 := cellK (g := w.heap.size + 1) (i := 0) (v := .int .i64 a) hb1 (by (first | (with_reducible exact Nat.le_refl _) | (with_reducible assumption) | omega | (simp <;> omega))) (by simp [go_sem, *])
          have qf0 := frozK (g := w.heap.size + 1) (i := 0) hb1 (by (first | (with_reducible exact Nat.le_refl _) | (with_reducible assumption) | omega | (simp <;> omega))) (by simp [go_sem, *])
          have q1 := cellK (g := w.heap.size + 1) (i := 1) (v := .slice A' n c') hb1 (by (first | (with_reducible exact Nat.le_refl _) | (with_reducible assumption) | omega | (simp <;> omega))) (by simp [go_sem, *])
          have qf1 := frozK (g := w.heap.size + 1) (i := 1) hb1 (by (first | (with_reducible exact Nat.le_refl _) | (with_reducible assumption) | omega | (simp <;> omega))) (by simp [go_sem, *])
          have q2 := cellK (g := w.heap.size + 1) (i := 2) (v := .bool d') hb1 (by (first | (with_reducible exact Nat.le_refl _) | (with_reducible assumption) | omega | (simp <;> omega))) (by simp [go_sem, *])
          have qf2 := frozK (g := w.heap.size + 1) (i := 2) hb1 (by (first | (with_reducible exact Nat.le_refl _) | (with_reducible assumption) | omega | (simp <;> omega))) (by simp [go_sem, *])
          have q3 := cellK (g := w.heap.size + 1) (i := 3) (v := .bool p') hb1 (by (first | (with_reducible exact Nat.le_refl _) | (with_reducible assumption) | omega | (simp <;> omega))) (by simp [go_sem, *])
          have qf3 := frozK (g := w.heap.size + 1) (i := 3) hb1 (by (first | (with_reducible exact Nat.le_refl _) | (with_reducible assumption) | omega | (simp <;> omega))) (by simp [go_sem, *])
          have t0 := cellK (g := wr.heap.size) (i := 0) (v := .int .i64 0) hb1 (by (first | (with_reducible exact Nat.le_refl _) | (with_reducible assumption) | omega | (simp <;> omega))) (by simp [go_sem, *])
          have tf0 := frozK (g := wr.heap.size) (i := 0) hb1 (by (first | (with_reducible exact Nat.le_refl _) | (with_reducible assumption) | omega | (simp <;> omega))) (by simp [go_sem, *])
          have t1 := cellK (g := wr.heap.size) (i := 1) (v := .slice none 0 0) hb1 (by (first | (with_reducible exact Nat.le_refl _) | (with_reducible assumption) | omega | (simp <;> omega))) (by simp [go_sem, *])
          have tf1 := frozK (g := wr.heap.size) (i := 1) hb1 (by (first | (with_reducible exact Nat.le_refl _) | (with_reducible assumption) | omega | (simp <;> omega))) (by simp [go_sem, *])
          have t2 := cellK (g := wr.heap.size) (i := 2) (v := .bool false) hb1 (by (first | (with_reducible exact Nat.le_refl _) | (with_reducible assumption) | omega | (simp <;> omega))) (by simp [go_sem, *])
          have tf2 := frozK (g := wr.heap.size) (i := 2) hb1 (by (first | (with_reducible exact Nat.le_refl _) | (with_reducible assumption) | omega | (simp <;> omega))) (by simp [go_sem, *])
          have t3 := cellK (g := wr.heap.size) (i := 3) (v := .bool false) hb1 (by (first | (with_reducible exact Nat.le_refl _) | (with_reducible assumption) | omega | (simp <;> omega))) (by simp [go_sem, *])
          have tf3 := frozK (g := wr.heap.size) (i := 3) hb1 (by (first | (with_reducible exact Nat.le_refl _) | (with_reducible assumption) | omega | (simp <;> omega))) (by simp [go_sem, *])
          have ma0 : w.heap.size < w1.heap.size := by omega
          have ma1 : w.heap.size + 1 < w1.heap.size := by omega
          have ma2 : wr.heap.size < w1.heap.size := by omega
          have hB1s := hB1.size
          clear hb1 hmk Hy x0 x1 x2 x3 y0 y1 y2 y3 g0 g1 g2 g3 hB hcell' HD Hse Hsf hz0
          go_wp2_with fail
          refine (lload_any _ ⟨a, zs, true, false⟩ _ (isLine_mk a true false (Has.of_own (base := wr.heap.size + 1 + 1) (e := 5) (by (repeat' (first | (with_reducible assumption) | (with_reducible refine own_put ?_ ?_ _) | (with_reducible refine own_new ?_ _) | (with_reducible refine own_drew ?_) | (with_reducible refine own_drewN ?_ _) | omega))))) (by show zs.length ≤ _; rw [Hzl.out]; omega)).mono ?_
          simp only [show loadF ⟨a, zs, true, false⟩ = zs from rfl, show loadE ⟨a, zs, true, false⟩ = 0 from rfl, Hzl.out]
          rintro e w2 ⟨A2, c2, rfl, hl2, hb2⟩
          have hs2 := hb2.size
          simp only [World.size_setCell] at hs2
          have hown2 : w2.ownsRow (wr.heap.size + 1 + 1) 5 1 (.slice A1 n c1) n (byteVals zs) := ownsRow_below (by (repeat' (first | (with_reducible assumption) | (with_reducible refine own_put ?_ ?_ _) | (with_reducible refine own_new ?_ _) | (with_reducible refine own_drew ?_) | (with_reducible refine own_drewN ?_ _) | omega))) hb2
          have hB2 := (show Below w.heap.size w _ by (repeat' (first | (with_reducible exact Below.refl _ _) | (with_reducible assumption) | (with_reducible refine Below.alloc ?_ ?_ _) | (with_reducible refine Below.drew ?_) | (with_reducible refine below_drewN ?_ _) | (with_reducible refine Below.setCell ?_ ?_ _) | (with_reducible exact Nat.le_refl _) | omega | (simp <;> omega)))).trans (hb2.mono (show w.heap.size ≤ _ by (first | (with_reducible exact Nat.le_refl _) | (with_reducible assumption) | omega | (simp <;> omega))))
          have hq1 := run_string_has (P := Try.prog) 22 9 5 Try.underlying22 (by kernel_rfl) (by kernel_rfl) w2 A2 n c2 zs (Has.of_own hl2)
          have hq2 := run_string_has (P := Try.prog) 22 9 5 Try.underlying22 (by kernel_rfl) (by kernel_rfl) w2 (some ⟨wr.heap.size + 1, 0, none⟩) n n zs (Has.below (Has_put (Has_put (Has_put (Has_put HD1.out (by omega)) (by omega)) (by omega)) (by omega)) hb2)
          have pp0 := cellK (g := w.heap.size) (i := 0) (v := .int .i64 a) hb2 (by (first | (with_reducible exact Nat.le_refl _) | (with_reducible assumption) | omega | (simp <;> omega))) (by simp [go_sem, *])
          have pp1 := cellK (g := w.heap.size) (i := 1) (v := .slice A n c) hb2 (by (first | (with_reducible exact Nat.le_refl _) | (with_reducible assumption) | omega | (simp <;> omega))) (by simp [go_sem, *])
          have pp2 := cellK (g := w.heap.size) (i := 2) (v := .bool d) hb2 (by (first | (with_reducible exact Nat.le_refl _) | (with_reducible assumption) | omega | (simp <;> omega))) (by simp [go_sem, *])
          have pp3 := cellK (g := w.heap.size) (i := 3) (v := .bool p) hb2 (by (first | (with_reducible exact Nat.le_refl _) | (with_reducible assumption) | omega | (simp <;> omega))) (by simp [go_sem, *])
          have qq0 := cellK (g := w.heap.size + 1) (i := 0) (v := .int .i64 a) hb2 (by (first | (with_reducible exact Nat.le_refl _) | (with_reducible assumption) | omega | (simp <;> omega))) (by simp [go_sem, *])
          have qqf0 := frozK (g := w.heap.size + 1) (i := 0) hb2 (by (first | (with_reducible exact Nat.le_refl _) | (with_reducible assumption) | omega | (simp <;> omega))) (by simp [go_sem, *])
          have qq1 := cellK (g := w.heap.size + 1) (i := 1) (v := .slice A' n c') hb2 (by (first | (with_reducible exact Nat.le_refl _) | (with_reducible assumption) | omega | (simp <;> omega))) (by simp [go_sem, *])
          have qqf1 := frozK (g := w.heap.size + 1) (i := 1) hb2 (by (first | (with_reducible exact Nat.le_refl _) | (with_reducible assumption) | omega | (simp <;> omega))) (by simp [go_sem, *])
          have qq2 := cellK (g := w.heap.size + 1) (i := 2) (v := .bool d') hb2 (by (first | (with_reducible exact Nat.le_refl _) | (with_reducible assumption) | omega | (simp <;> omega))) (by simp [go_sem, *])
          have qqf2 := frozK (g := w.heap.size + 1) (i := 2) hb2 (by (first | (with_reducible exact Nat.le_refl _) | (with_reducible assumption) | omega | (simp <;> omega))) (by simp [go_sem, *])
          have qq3 := cellK (g := w.heap.size + 1) (i := 3) (v := .bool p') hb2 (by (first | (with_reducible exact Nat.le_refl _) | (with_reducible assumption) | omega | (simp <;> omega))) (by simp [go_sem, *])
          have qqf3 := frozK (g := w.heap.size + 1) (i := 3) hb2 (by (first | (with_reducible exact Nat.le_refl _) | (with_reducible assumption) | omega | (simp <;> omega))) (by simp [go_sem, *])
          have tt0 := cellK (g := wr.heap.size) (i := 0) (v := .int .i64 a) hb2 (by (first | (with_reducible exact Nat.le_refl _) | (with_reducible assumption) | omega | (simp <;> omega))) (by simp [go_sem, *])
          have tt1 := cellK (g := wr.heap.size) (i := 1) (v := .slice A1 n c1) hb2 (by (first | (with_reducible exact Nat.le_refl _) | (with_reducible assumption) | omega | (simp <;> omega))) (by simp [go_sem, *])
          have tt2 := cellK (g := wr.heap.size) (i := 2) (v := .bool true) hb2 (by (first | (with_reducible exact Nat.le_refl _) | (with_reducible assumption) | omega | (simp <;> omega))) (by simp [go_sem, *])
          have tt3 := cellK (g := wr.heap.size) (i := 3) (v := .bool false) hb2 (by (first | (with_reducible exact Nat.le_refl _) | (with_reducible assumption) | omega | (simp <;> omega))) (by simp [go_sem, *])
          have mb0 : w.heap.size < w2.heap.size := by omega
          have mb1 : w.heap.size + 1 < w2.heap.size := by omega
          have mb2 : wr.heap.size < w2.heap.size := by omega
          have hB2s := hB2.size
          clear hb2 hl2 hown HD1 hB1 hB1s ma0 ma1 ma2 hs1 p0 p1 p2 p3 q0 q1 q2 q3 qf0 qf1 qf2 qf3 t0 t1 t2 t3 tf0 tf1 tf2 tf3
          go_wp2_with fail
          clear hq1 hq2
          have hle : (loadE ⟨a, zs, true, false⟩ == 48) = false := by first | rfl | (cases false <;> rfl)
          refine (lload_any _ ⟨a, zs, true, false⟩ _ (isLine_mk a true false (Has.of_own (base := wr.heap.size + 1 + 1) (e := 5) (by (repeat' (first | (with_reducible assumption) | (with_reducible refine own_put ?_ ?_ _) | (with_reducible refine own_new ?_ _) | (with_reducible refine own_drew ?_) | (with_reducible refine own_drewN ?_ _) | omega))))) (by show zs.length ≤ _; rw [Hzl.out]; omega)).mono ?_
          rintro e w9 ⟨A9, c9, rfl, -, hb9⟩
          have hs9 := hb9.size
          have hown9 : w9.ownsRow (wr.heap.size + 1 + 1) 5 1 (.slice A1 n c1) n (byteVals zs) := ownsRow_below (by (repeat' (first | (with_reducible assumption) | (with_reducible refine own_put ?_ ?_ _) | (with_reducible refine own_new ?_ _) | (with_reducible refine own_drew ?_) | (with_reducible refine own_drewN ?_ _) | omega))) hb9
          have hB9 := (show Below w.heap.size w _ by (repeat' (first | (with_reducible exact Below.refl _ _) | (with_reducible assumption) | (with_reducible refine Below.alloc ?_ ?_ _) | (with_reducible refine Below.drew ?_) | (with_reducible refine below_drewN ?_ _) | (with_reducible refine Below.setCell ?_ ?_ _) | (with_reducible exact Nat.le_refl _) | omega | (simp <;> omega)))).trans (hb9.mono (show w.heap.size ≤ _ by (first | (with_reducible exact Nat.le_refl _) | (with_reducible assumption) | omega | (simp <;> omega))))
          have u0 := cellK (g := w.heap.size) (i := 0) (v := .int .i64 a) hb9 (by (first | (with_reducible exact Nat.le_refl _) | (with_reducible assumption) | omega | (simp <;> omega))) (by simp [go_sem, *])
          have u1 := cellK (g := w.heap.size) (i := 1) (v := .slice A n c) hb9 (by (first | (with_reducible exact Nat.le_refl _) | (with_reducible assumption) | omega | (simp <;> omega))) (by simp [go_sem, *])
          have u2 := cellK (g := w.heap.size) (i := 2) (v := .bool d) hb9 (by (first | (with_reducible exact Nat.le_refl _) | (with_reducible assumption) | omega | (simp <;> omega))) (by simp [go_sem, *])
          have u3 := cellK (g := w.heap.size) (i := 3) (v := .bool p) hb9 (by (first | (with_reducible exact Nat.le_refl _) | (with_reducible assumption) | omega | (simp <;> omega))) (by simp [go_sem, *])
          have v0 := cellK (g := w.heap.size + 1) (i := 0) (v := .int .i64 a) hb9 (by (first | (with_reducible exact Nat.le_refl _) | (with_reducible assumption) | omega | (simp <;> omega))) (by simp [go_sem, *])
          have vf0 := frozK (g := w.heap.size + 1) (i := 0) hb9 (by (first | (with_reducible exact Nat.le_refl _) | (with_reducible assumption) | omega | (simp <;> omega))) (by simp [go_sem, *])
          have v1 := cellK (g := w.heap.size + 1) (i := 1) (v := .slice A' n c') hb9 (by (first | (with_reducible exact Nat.le_refl _) | (with_reducible assumption) | omega | (simp <;> omega))) (by simp [go_sem, *])
          have vf1 := frozK (g := w.heap.size + 1) (i := 1) hb9 (by (first | (with_reducible exact Nat.le_refl _) | (with_reducible assumption) | omega | (simp <;> omega))) (by simp [go_sem, *])
          have v2 := cellK (g := w.heap.size + 1) (i := 2) (v := .bool d') hb9 (by (first | (with_reducible exact Nat.le_refl _) | (with_reducible assumption) | omega | (simp <;> omega))) (by simp [go_sem, *])
          have vf2 := frozK (g := w.heap.size + 1) (i := 2) hb9 (by (first | (with_reducible exact Nat.le_refl _) | (with_reducible assumption) | omega | (simp <;> omega))) (by simp [go_sem, *])
          have v3 := cellK (g := w.heap.size + 1) (i := 3) (v := .bool p') hb9 (by (first | (with_reducible exact Nat.le_refl _) | (with_reducible assumption) | omega | (simp <;> omega))) (by simp [go_sem, *])
          have vf3 := frozK (g := w.heap.size + 1) (i := 3) hb9 (by (first | (with_reducible exact Nat.le_refl _) | (with_reducible assumption) | omega | (simp <;> omega))) (by simp [go_sem, *])
          have z0 := cellK (g := wr.heap.size) (i := 0) (v := .int .i64 a) hb9 (by (first | (with_reducible exact Nat.le_refl _) | (with_reducible assumption) | omega | (simp <;> omega))) (by simp [go_sem, *])
          have z1 := cellK (g := wr.heap.size) (i := 1) (v := .slice A1 n c1) hb9 (by (first | (with_reducible exact Nat.le_refl _) | (with_reducible assumption) | omega | (simp <;> omega))) (by simp [go_sem, *])
          have z2 := cellK (g := wr.heap.size) (i := 2) (v := .bool true) hb9 (by (first | (with_reducible exact Nat.le_refl _) | (with_reducible assumption) | omega | (simp <;> omega))) (by simp [go_sem, *])
          have z3 := cellK (g := wr.heap.size) (i := 3) (v := .bool false) hb9 (by (first | (with_reducible exact Nat.le_refl _) | (with_reducible assumption) | omega | (simp <;> omega))) (by simp [go_sem, *])
          have mn0 : w.heap.size < w9.heap.size := by omega
          have mn1 : w.heap.size + 1 < w9.heap.size := by omega
          have mn2 : wr.heap.size < w9.heap.size := by omega
          clear hb9 hown2 mb0 mb1 mb2 hB2 hB2s pp0 pp1 pp2 pp3 qq0 qq1 qq2 qq3 qqf0 qqf1 qqf2 qqf3 tt0 tt1 tt2 tt3
          go_wp2_with fail
          have hB9s := hB9.size
          go_roundw
          case rel =>
            refine ⟨k + 1, zs, A1, c1, true, false, by omega, by go_num, rfl, Has.of_own (base := wr.heap.size + 1 + 1) (e := 5) (by (repeat' (first | (with_reducible assumption) | (with_reducible refine own_put ?_ ?_ _) | (with_reducible refine own_new ?_ _) | (with_reducible refine own_drew ?_) | (with_reducible refine own_drewN ?_ _) | omega))), ?_, ?_, ?_, ?_, by (repeat' (first | (with_reducible exact Below.refl _ _) | (with_reducible assumption) | (with_reducible refine Below.alloc ?_ ?_ _) | (with_reducible refine Below.drew ?_) | (with_reducible refine below_drewN ?_ _) | (with_reducible refine Below.setCell ?_ ?_ _) | (with_reducible exact Nat.le_refl _) | omega | (simp <;> omega)))⟩
            · exact ⟨by simp [go_sem, *], by simp [go_sem, *], by simp [go_sem, *], by simp [go_sem, *]⟩
            · exact ⟨by simp [go_sem, *], by simp [go_sem, *], by simp [go_sem, *], by simp [go_sem, *]⟩
            · exact ⟨by simp [go_sem, *], by simp [go_sem, *], by simp [go_sem, *], by simp [go_sem, *]⟩
            · simpa using mn1
          case measure => simp [intOf]; omega
        · have htok : True := trivial
          have hnn : ¬ n = 0 := by omega
          have hj0 : 0 ≤ (s / 4) % (n : Int) := Int.emod_nonneg _ (by omega)
          have hj1 : (s / 4) % (n : Int) < n := Int.emod_lt_of_pos _ (by omega)
          obtain ⟨j, hj⟩ : ∃ j : Nat, (s / 4) % (n : Int) = (j : Int) := ⟨((s / 4) % (n : Int)).toNat, by omega⟩
          rw [hj] at hj0 hj1
          have hjn : j < n := by omega
          obtain ⟨u, hu⟩ : ∃ u : UInt8, s / 16 % 256 = (u.toNat : Int) := ⟨UInt8.ofNat (s / 16 % 256).toNat, by rw [UInt8.toNat_ofNat']; omega⟩
          have e1 : s.tdiv 4 = s / 4 := Int.tdiv_eq_ediv_of_nonneg hs0
          have e2 : IntKind.u16.wrap (s / 4) = s / 4 := IntWalk.u16_in _ (by omega)
          have e3 : IntKind.i64.wrap (s / 4) = s / 4 := IntWalk.i64_in _ (by omega)
          have e5 : IntKind.u8.wrap (s / 16) = (u.toNat : Int) := by rw [IntKind.wrap_u8', hu]
          obtain ⟨zs, hzs⟩ : ∃ zs : List UInt8, zs = ys.set j u := ⟨_, rfl⟩
          have Hzl : Hid (zs.length = n) := by rw [hzs]; exact (List.length_set).trans Hyl.out
          have Hzj : Hid (zs[j]? = some u) := by rw [hzs, List.getElem?_set_self (by rw [Hyl.out]; exact hjn)]; exact rfl
          have Hpf : Hid (patchF ⟨a, ys, d', p'⟩ (j : Int) u = ⟨a, zs, true, p'⟩) := by
            have hr : 0 ≤ (j : Int) ∧ (j : Int) < ((⟨a, ys, d', p'⟩ : LineD).data.length : Int) := ⟨by omega, by show (j : Int) < (ys.length : Int); rw [Hyl.out]; omega⟩
            have := patchF.eq_1 ⟨a, ys, d', p'⟩ (j : Int) u
            rw [if_pos hr] at this
            rw [hzs]; exact this
          have Hpe : Hid (patchE ⟨a, ys, d', p'⟩ (j : Int) = 0) := by
            have hr : 0 ≤ (j : Int) ∧ (j : Int) < ((⟨a, ys, d', p'⟩ : LineD).data.length : Int) := ⟨by omega, by show (j : Int) < (ys.length : Int); rw [Hyl.out]; omega⟩
            exact if_pos hr
          have hne1 : ¬ wr.heap.size = w.heap.size + 1 := by omega
          have hne0 : ¬ wr.heap.size = w.heap.size := by omega
          clear hzs
          have e4 : (s / 4).tmod (n : Int) = (j : Int) := by rw [Int.tmod_eq_emod_of_nonneg (by omega), hj]
          go_wp2_with fail
          go_region_held3 (fun w' => w'.cell? ⟨w.heap.size + 1, 0, none⟩ = some (.int .i64 a) ∧ w'.cell? ⟨w.heap.size + 1, 1, none⟩ = some (.slice A' n c') ∧ w'.cell? ⟨w.heap.size + 1, 2, none⟩ = some (.bool d') ∧ w'.cell? ⟨w.heap.size + 1, 3, none⟩ = some (.bool p') ∧ w'.cell? ⟨w.heap.size, 1, none⟩ = some (.slice A n c)) (go_keep)
            (first | (go_at_call 10; refine (lpatch_any _ ⟨a, ys, d', p'⟩ (j : Int) u _ (isLine_mk a d' p' ((Hy.out.alloc _).drew)) (by show ys.length ≤ _; rw [Hyl.out]; omega)).mono ?_; simp only [Hpf.out, Hpe.out]; rintro e w1 ⟨v1, rfl, ⟨A1, c1, rfl, hown⟩, hb1⟩; have hs1 := hb1.size; simp only [World.size_alloc, World.size_drew, Hzl.out] at hs1 hown ⊢; have hB1 := (show Below w.heap.size w _ by (repeat' (first | (with_reducible exact Below.refl _ _) | (with_reducible assumption) | (with_reducible refine Below.alloc ?_ ?_ _) | (with_reducible refine Below.drew ?_) | (with_reducible refine below_drewN ?_ _) | (with_reducible refine Below.setCell ?_ ?_ _) | (with_reducible exact Nat.le_refl _) | omega | (simp <;> omega)))).trans (hb1.mono (show w.heap.size ≤ _ by (first | (with_reducible exact Nat.le_refl _) | (with_reducible assumption) | omega | (simp <;> omega)))); have p0 := cellK (g := w.heap.size) (i := 0) (v := .int .i64 a) hb1 (by (first | (with_reducible exact Nat.le_refl _) | (with_reducible assumption) | omega | (simp <;> omega))) (by simp [go_sem, *]); have p1 := cellK (g := w.heap.size) (i := 1) (v := .slice A n c) hb1 (by (first | (with_reducible exact Nat.le_refl _) | (with_reducible assumption) | omega | (simp <;> omega))) (by simp [go_sem, *]); have p2 := cellK (g := w.heap.size) (i := 2) (v := .bool d) hb1 (by (first | (with_reducible exact Nat.le_refl _) | (with_reducible assumption) | omega | (simp <;> omega))) (by simp [go_sem, *]); have p3 := cellK (g := w.heap.size) (i := 3) (v := .bool p) hb1 (by (first | (with_reducible exact Nat.le_refl _) | (with_reducible assumption) | omega | (simp <;> omega))) (by simp [go_sem, *]); have q0 := cellK (g := w.heap.size + 1) (i := 0) (v := .int .i64 a) hb1 (by (first | (with_reducible exact Nat.le_refl _) | (with_reducible assumption) | omega | (simp <;> omega))) (by simp [go_sem, *]); have qf0 := frozK (g := w.heap.size + 1) (i := 0) hb1 (by (first | (with_reducible exact Nat.le_refl _) | (with_reducible assumption) | omega | (simp <;> omega))) (by simp [go_sem, *]); have q1 := cellK (g := w.heap.size + 1) (i := 1) (v := .slice A' n c') hb1 (by (first | (with_reducible exact Nat.le_refl _) | (with_reducible assumption) | omega | (simp <;> omega))) (by simp [go_sem, *]); have qf1 := frozK (g := w.heap.size + 1) (i := 1) hb1 (by (first | (with_reducible exact Nat.le_refl _) | (with_reducible assumption) | omega | (simp <;> omega))) (by simp [go_sem, *]); have q2 := cellK (g := w.heap.size + 1) (i := 2) (v := .bool d') hb1 (by (first | (with_reducible exact Nat.le_refl _) | (with_reducible assumption) | omega | (simp <;> omega))) (by simp [go_sem, *]); have qf2 := frozK (g := w.heap.size + 1) (i := 2) hb1 (by (first | (with_reducible exact Nat.le_refl _) | (with_reducible assumption) | omega | (simp <;> omega))) (by simp [go_sem, *]); have q3 := cellK (g := w.heap.size + 1) (i := 3) (v := .bool p') hb1 (by (first | (with_reducible exact Nat.le_refl _) | (with_reducible assumption) | omega | (simp <;> omega))) (by simp [go_sem, *]); have qf3 := frozK (g := w.heap.size + 1) (i := 3) hb1 (by (first | (with_reducible exact Nat.le_refl _) | (with_reducible assumption) | omega | (simp <;> omega))) (by simp [go_sem, *]); have t0 := cellK (g := wr.heap.size) (i := 0) (v := .int .i64 0) hb1 (by (first | (with_reducible exact Nat.le_refl _) | (with_reducible assumption) | omega | (simp <;> omega))) (by simp [go_sem, *]); have tf0 := frozK (g := wr.heap.size) (i := 0) hb1 (by (first | (with_reducible exact Nat.le_refl _) | (with_reducible assumption) | omega | (simp <;> omega))) (by simp [go_sem, *]); have t1 := cellK (g := wr.heap.size) (i := 1) (v := .slice none 0 0) hb1 (by (first | (with_reducible exact Nat.le_refl _) | (with_reducible assumption) | omega | (simp <;> omega))) (by simp [go_sem, *]); have tf1 := frozK (g := wr.heap.size) (i := 1) hb1 (by (first | (with_reducible exact Nat.le_refl _) | (with_reducible assumption) | omega | (simp <;> omega))) (by simp [go_sem, *]); have t2 := cellK (g := wr.heap.size) (i := 2) (v := .bool false) hb1 (by (first | (with_reducible exact Nat.le_refl _) | (with_reducible assumption) | omega | (simp <;> omega))) (by simp [go_sem, *]); have tf2 := frozK (g := wr.heap.size) (i := 2) hb1 (by (first | (with_reducible exact Nat.le_refl _) | (with_reducible assumption) | omega | (simp <;> omega))) (by simp [go_sem, *]); have t3 := cellK (g := wr.heap.size) (i := 3) (v := .bool false) hb1 (by (first | (with_reducible exact Nat.le_refl _) | (with_reducible assumption) | omega | (simp <;> omega))) (by simp [go_sem, *]); have tf3 := frozK (g := wr.heap.size) (i := 3) hb1 (by (first | (with_reducible exact Nat.le_refl _) | (with_reducible assumption) | omega | (simp <;> omega))) (by simp [go_sem, *])))
          have ma0 : w.heap.size < w1.heap.size := by omega
          have ma1 : w.heap.size + 1 < w1.heap.size := by omega
          have ma2 : wr.heap.size < w1.heap.size := by omega
          have hB1s := hB1.size
          obtain ⟨g, rfl, hg, hg1⟩ := own_some hown (by omega)
          have zj : w1.cell? ⟨g, j, none⟩ = some (.int .u8 u.toNat) := by
            rw [hown.cellAt j (by omega)]
            simp [byteVals, Hzj.out]
          have hg0 : ¬ wr.heap.size = g := by omega
          clear hb1 hmk Hy x0 x1 x2 x3 y0 y1 y2 y3 g0 g1 g2 g3 hB hcell' Hzj Hpf Hpe
          go_wp2_with fail
          go_quiet (fail)
          go_wp2_with fail
          have hle : (loadE ⟨a, zs, true, p'⟩ == 48) = p' := by first | rfl | (cases p' <;> rfl)
          refine (lload_any _ ⟨a, zs, true, p'⟩ _ (isLine_mk a true p' (Has.of_own (base := wr.heap.size + 1) (e := 5) (by (repeat' (first | (with_reducible assumption) | (with_reducible refine own_put ?_ ?_ _) | (with_reducible refine own_new ?_ _) | (with_reducible refine own_drew ?_) | (with_reducible refine own_drewN ?_ _) | omega))))) (by show zs.length ≤ _; rw [Hzl.out]; omega)).mono ?_
          rintro e w9 ⟨A9, c9, rfl, -, hb9⟩
          have hs9 := hb9.size
          simp at hs9
          have hown9 : w9.ownsRow (wr.heap.size + 1) 5 1 (.slice (some ⟨g, 0, none⟩) n c1) n (byteVals zs) := ownsRow_below (by (repeat' (first | (with_reducible assumption) | (with_reducible refine own_put ?_ ?_ _) | (with_reducible refine own_new ?_ _) | (with_reducible refine own_drew ?_) | (with_reducible refine own_drewN ?_ _) | omega))) hb9
          have hB9 := (show Below w.heap.size w _ by (repeat' (first | (with_reducible exact Below.refl _ _) | (with_reducible assumption) | (with_reducible refine Below.alloc ?_ ?_ _) | (with_reducible refine Below.drew ?_) | (with_reducible refine below_drewN ?_ _) | (with_reducible refine Below.setCell ?_ ?_ _) | (with_reducible exact Nat.le_refl _) | omega | (simp <;> omega)))).trans (hb9.mono (show w.heap.size ≤ _ by (first | (with_reducible exact Nat.le_refl _) | (with_reducible assumption) | omega | (simp <;> omega))))
          have u0 := cellK (g := w.heap.size) (i := 0) (v := .int .i64 a) hb9 (by (first | (with_reducible exact Nat.le_refl _) | (with_reducible assumption) | omega | (simp <;> omega))) (by simp [go_sem, *])
          have u1 := cellK (g := w.heap.size) (i := 1) (v := .slice A n c) hb9 (by (first | (with_reducible exact Nat.le_refl _) | (with_reducible assumption) | omega | (simp <;> omega))) (by simp [go_sem, *])
          have u2 := cellK (g := w.heap.size) (i := 2) (v := .bool d) hb9 (by (first | (with_reducible exact Nat.le_refl _) | (with_reducible assumption) | omega | (simp <;> omega))) (by simp [go_sem, *])
          have u3 := cellK (g := w.heap.size) (i := 3) (v := .bool p) hb9 (by (first | (with_reducible exact Nat.le_refl _) | (with_reducible assumption) | omega | (simp <;> omega))) (by simp [go_sem, *])
          have v0 := cellK (g := w.heap.size + 1) (i := 0) (v := .int .i64 a) hb9 (by (first | (with_reducible exact Nat.le_refl _) | (with_reducible assumption) | omega | (simp <;> omega))) (by simp [go_sem, *])
          have vf0 := frozK (g := w.heap.size + 1) (i := 0) hb9 (by (first | (with_reducible exact Nat.le_refl _) | (with_reducible assumption) | omega | (simp <;> omega))) (by simp [go_sem, *])
          have v1 := cellK (g := w.heap.size + 1) (i := 1) (v := .slice A' n c') hb9 (by (first | (with_reducible exact Nat.le_refl _) | (with_reducible assumption) | omega | (simp <;> omega))) (by simp [go_sem, *])
          have vf1 := frozK (g := w.heap.size + 1) (i := 1) hb9 (by (first | (with_reducible exact Nat.le_refl _) | (with_reducible assumption) | omega | (simp <;> omega))) (by simp [go_sem, *])
          have v2 := cellK (g := w.heap.size + 1) (i := 2) (v := .bool d') hb9 (by (first | (with_reducible exact Nat.le_refl _) | (with_reducible assumption) | omega | (simp <;> omega))) (by simp [go_sem, *])
          have vf2 := frozK (g := w.heap.size + 1) (i := 2) hb9 (by (first | (with_reducible exact Nat.le_refl _) | (with_reducible assumption) | omega | (simp <;> omega))) (by simp [go_sem, *])
          have v3 := cellK (g := w.heap.size + 1) (i := 3) (v := .bool p') hb9 (by (first | (with_reducible exact Nat.le_refl _) | (with_reducible assumption) | omega | (simp <;> omega))) (by simp [go_sem, *])
          have vf3 := frozK (g := w.heap.size + 1) (i := 3) hb9 (by (first | (with_reducible exact Nat.le_refl _) | (with_reducible assumption) | omega | (simp <;> omega))) (by simp [go_sem, *])
          have z0 := cellK (g := wr.heap.size) (i := 0) (v := .int .i64 a) hb9 (by (first | (with_reducible exact Nat.le_refl _) | (with_reducible assumption) | omega | (simp <;> omega))) (by simp [go_sem, *])
          have z1 := cellK (g := wr.heap.size) (i := 1) (v := .slice (some ⟨g, 0, none⟩) n c1) hb9 (by (first | (with_reducible exact Nat.le_refl _) | (with_reducible assumption) | omega | (simp <;> omega))) (by simp [go_sem, *])
          have z2 := cellK (g := wr.heap.size) (i := 2) (v := .bool true) hb9 (by (first | (with_reducible exact Nat.le_refl _) | (with_reducible assumption) | omega | (simp <;> omega))) (by simp [go_sem, *])
          have z3 := cellK (g := wr.heap.size) (i := 3) (v := .bool p') hb9 (by (first | (with_reducible exact Nat.le_refl _) | (with_reducible assumption) | omega | (simp <;> omega))) (by simp [go_sem, *])
          have mn0 : w.heap.size < w9.heap.size := by omega
          have mn1 : w.heap.size + 1 < w9.heap.size := by omega
          have mn2 : wr.heap.size < w9.heap.size := by omega
          clear hb9 hown ma0 ma1 ma2 hB1 hB1s zj p0 p1 p2 p3 q0 q1 q2 q3 qf0 qf1 qf2 qf3 t0 t1 t2 t3 tf0 tf1 tf2 tf3
          go_wp2_with fail
          have hB9s := hB9.size
          go_roundw
          case rel =>
            refine ⟨k + 1, zs, (some ⟨g, 0, none⟩), c1, true, p', by omega, by go_num, rfl, Has.of_own (base := wr.heap.size + 1) (e := 5) (by (repeat' (first | (with_reducible assumption) | (with_reducible refine own_put ?_ ?_ _) | (with_reducible refine own_new ?_ _) | (with_reducible refine own_drew ?_) | (with_reducible refine own_drewN ?_ _) | omega))), ?_, ?_, ?_, ?_, by (repeat' (first | (with_reducible exact Below.refl _ _) | (with_reducible assumption) | (with_reducible refine Below.alloc ?_ ?_ _) | (with_reducible refine Below.drew ?_) | (with_reducible refine below_drewN ?_ _) | (with_reducible refine Below.setCell ?_ ?_ _) | (with_reducible exact Nat.le_refl _) | omega | (simp <;> omega)))⟩
            · exact ⟨by simp [go_sem, *], by simp [go_sem, *], by simp [go_sem, *], by simp [go_sem, *]⟩
            · exact ⟨by simp [go_sem, *], by simp [go_sem, *], by simp [go_sem, *], by simp [go_sem, *]⟩
            · exact ⟨by simp [go_sem, *], by simp [go_sem, *], by simp [go_sem, *], by simp [go_sem, *]⟩
            · simpa using mn1
          case measure => simp [intOf]; omega
    · have hge : ns ≤ k := by omega
      clear hlt hbx hby hfy
      go_wp2_with fail
      refine (awake_any _).mono ?_
      rintro e w10 ⟨rfl, hb10⟩
      have hB10 := hB.trans (hb10.mono hB.size)
      clear hB hb10
      go_wp2_with fail
      go_ret
      exact ⟨rfl, hB10⟩
set_option maxRecDepth 100000 in
set_option maxHeartbeats 2000000 in
theorem stays_long (vx : Value) (X : LineD) (A2 : Option Addr) (ns c2 : Nat) (w : World) (hx : IsLine w vx X)
    (h : X.data.length < 1 ∨ 40 < X.data.length ∨ 60 < ns) :
    Calls Try.prog 4 #[vx, .slice A2 ns c2] w fun e w' => e = .returned (.bool true) ∧ Below w.heap.size w w' := by
  obtain ⟨A, c, rfl, hx⟩ := hx
  clear hx
  by_cases h1 : X.data.length < 1
  · go_enter Try.func4, Try.ntmps4
    go_wp2_with fail
    refine (awake_any _).mono ?_
    rintro e w1 ⟨rfl, hb1⟩
    have hb1' := (show Below w.heap.size w _ by (repeat' (first | (with_reducible exact Below.refl _ _) | (with_reducible assumption) | (with_reducible refine Below.alloc ?_ ?_ _) | (with_reducible refine Below.drew ?_) | (with_reducible refine below_drewN ?_ _) | (with_reducible refine Below.setCell ?_ ?_ _) | (with_reducible exact Nat.le_refl _) | omega | (simp <;> omega)))).trans (hb1.mono (show w.heap.size ≤ _ by (first | (with_reducible exact Nat.le_refl _) | (with_reducible assumption) | omega | (simp <;> omega))))
    go_wp2_with fail
    go_ret
    exact ⟨rfl, hb1'⟩
  · by_cases h2 : 40 < X.data.length
    all_goals
      go_enter Try.func4, Try.ntmps4
      go_wp2_with fail
      refine (awake_any _).mono ?_
      rintro e w1 ⟨rfl, hb1⟩
      have hb1' := (show Below w.heap.size w _ by (repeat' (first | (with_reducible exact Below.refl _ _) | (with_reducible assumption) | (with_reducible refine Below.alloc ?_ ?_ _) | (with_reducible refine Below.drew ?_) | (with_reducible refine below_drewN ?_ _) | (with_reducible refine Below.setCell ?_ ?_ _) | (with_reducible exact Nat.le_refl _) | omega | (simp <;> omega)))).trans (hb1.mono (show w.heap.size ≤ _ by (first | (with_reducible exact Nat.le_refl _) | (with_reducible assumption) | omega | (simp <;> omega))))
      go_wp2_with fail
      go_ret
      exact ⟨rfl, hb1'⟩

end Go.Proofs.Ytofngakjpdplaaa
