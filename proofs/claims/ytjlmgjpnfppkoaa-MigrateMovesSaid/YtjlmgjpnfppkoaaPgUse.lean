/-
  Programs, walked: who uses a frame, where a program and a page are.
-/
import Derived.LoopTactic
import Derived.Test.YtjlmgjpnfppkoaaPg
namespace Go.Proofs.Ytjlmgjpnfppkoaa
open Go.RowKit
attribute [local go_sem ↓] Go.wp_at_zero Go.wp_at_succ

theorem info100 : (Try.prog.info? 100).map (fun i => (i.zero, i.size, i.bytes)) = some (some (.agg #[.int .i64 0, .int .i64 0]), 2, 16) := by kernel_rfl
def useVals (a b : Int) : List Value := [.int .i64 a, .int .i64 b]
theorem useVals_one (a b : Int) : ∀ u ∈ useVals a b, u.oneCell' = true := by
  intro u hu
  simp only [useVals, List.mem_cons, List.not_mem_nil, or_false] at hu
  rcases hu with rfl | rfl <;> rfl
/-- The programs are few, and so are their pages. -/
def Small (xs : List PrV) : Prop := xs.length ≤ 1000 ∧ ∀ x ∈ xs, x.P.pages.length ≤ 1000 ∧ x.P.told.length ≤ 1000
theorem Small.at_ {xs : List PrV} (h : Small xs) {k : Nat} (hk : k < xs.length) : (xs.getD k PrV.zero).P.pages.length ≤ 1000 ∧ (xs.getD k PrV.zero).P.told.length ≤ 1000 := h.2 _ (getD_mem xs PrV.zero hk)
theorem Small.users {xs : List PrV} (h : Small xs) (f : Int) (k : Nat) : usersN ((xs.map PrV.P).take k) f ≤ 1000000 := by
  have h1 : usersN ((xs.map PrV.P).take k) f ≤ ((xs.map PrV.P).take k).length * 1000 := usersN_le (fun p hp => by
    obtain ⟨x, hx, rfl⟩ := List.mem_map.1 (List.mem_of_mem_take hp)
    exact (h.2 x hx).1)
  have h2 : ((xs.map PrV.P).take k).length ≤ 1000 := by rw [List.length_take, List.length_map]; have := h.1; omega
  have h3 : ((xs.map PrV.P).take k).length * 1000 ≤ 1000 * 1000 := Nat.mul_le_mul_right _ h2
  omega
theorem map_getD {xs : List PrV} {k : Nat} (hk : k < xs.length) : (xs.map PrV.P).getD k PrD.zero = (xs.getD k PrV.zero).P := by
  simp [List.getD, List.getElem?_eq_getElem hk]


set_option maxRecDepth 100000 in
set_option maxHeartbeats 8000000 in
theorem rusers_any (A : Option Addr) (n c : Nat) (f : Int) (xs : List PrV) (w : World) (h : IsProgs w A n xs) (hs : Small xs) :
    Calls Try.prog 38 #[.slice A n c, .int .i64 f] w fun e w' => ∃ A' c', e = .returned (.slice A' (usersN (xs.map PrV.P) f) c') ∧ Below w.heap.size w w' := by
  have Hl := Lib.hid h.len
  have HI := Lib.hid h
  have HS := Lib.hid hs
  have hn : n ≤ 1000 := by have := h.len; have := hs.1; omega
  obtain ⟨i100, hi, hz0, hz1, hz2⟩ := info_parts info100
  have Hi := Lib.hid hi
  have Hz0 := Lib.hid hz0
  have Hz1 := Lib.hid hz1
  have Hz2 := Lib.hid hz2
  clear h hs hi hz0 hz1 hz2
  go_enter Try.func38, Try.ntmps38
  go_wp2_with fail
  go_loopw [5, 12] (fun v i wr => ∃ (k m : Nat) (us : List Value), k ≤ n ∧ i = .int .i64 k ∧ Hid (m = usersN ((xs.map PrV.P).take k) f) ∧ Hid (wr.ownsRow w.heap.size 100 2 v m us) ∧ Below w.heap.size w wr) (fun _ i _ => n - (intOf i).toNat)
  case atStart => exact ⟨0, 0, [], by omega, rfl, by show _ = _; simp [usersN], World.ownsRow_nil _ _ _ _, Below.refl _ _⟩
  case round =>
    obtain ⟨k, m, us, hk, rfl, Hm, HO, hB⟩ := hrel
    obtain ⟨wo, rfl⟩ : ∃ wo : World, wo = wr := ⟨_, rfl⟩
    have hsz := hB.size
    by_cases hlt : k < n
    · obtain ⟨b, off, rfl, hb, d0, d1, d2, d3, d4, hP, -⟩ := HI.out.at_ hlt
      have g0 := cellK hB hb d0
      have g1 := cellK hB hb d1
      have g2 := cellK hB hb d2
      have g3 := cellK hB hb d3
      have g4 := cellK hB hb d4
      have hkl : k < xs.length := by rw [Hl.out]; exact hlt
      obtain ⟨hpl, -⟩ := HS.out.at_ hkl
      have hun := usersN_take (ps := xs.map PrV.P) (k := k) (by rw [List.length_map]; exact hkl) f
      rw [map_getD hkl] at hun
      have hub := HS.out.users f k
      rw [← Hm.out] at hub
      have hub' := HS.out.users f (k + 1)
      obtain ⟨x, hx⟩ : ∃ x, xs.getD k PrV.zero = x := ⟨_, rfl⟩
      rw [hx] at g0 g1 g2 g3 g4 hP hpl hun
      obtain ⟨⟨id, te, de, pgs, told⟩, PA, Pc, TA, Tc⟩ := x
      dsimp only at g0 g1 g2 g3 g4 hP hpl hun
      obtain ⟨M, hM⟩ : ∃ M, pgs.length = M := ⟨_, rfl⟩
      obtain ⟨TN, hTN⟩ : ∃ TN, told.length = TN := ⟨_, rfl⟩
      rw [hM] at g3 hP hpl
      rw [hTN] at g4
      have HM := Lib.hid hM
      have HP := Lib.hid hP
      have Hun := Lib.hid hun
      have hlt' : (k : Int) < (n : Int) := by omega
      clear d0 d1 d2 d3 d4 hx hM hTN hP hun
      go_wp2_with fail
      go_loopw [5, 19] (fun v i wr => ∃ (j m' : Nat) (us : List Value), j ≤ M ∧ i = .int .i64 j ∧ Hid (m' = m + cntP (pgs.take j) f) ∧ m' ≤ 2000000 ∧ Hid (wr.ownsRow w.heap.size 100 2 v m' us) ∧ Hid (wr.heap[wo.heap.size]? = some (.cells #[.int .i64 id, .bool te, .bool de, .slice PA M Pc, .slice TA TN Tc] 96)) ∧ wo.heap.size < wr.heap.size ∧ Below w.heap.size w wr) (fun _ i _ => M - (intOf i).toNat)
      case atStart => exact ⟨0, m, us, by omega, rfl, by show _ = _; simp [cntP], by omega, own_new HO.out _, heap_new _ _, by simp, by (repeat' (first | (with_reducible exact Below.refl _ _) | (with_reducible assumption) | (with_reducible refine Below.alloc ?_ ?_ _) | (with_reducible refine Below.drew ?_) | (with_reducible refine below_drewN ?_ _) | (with_reducible refine Below.setCell ?_ ?_ _) | (with_reducible exact Nat.le_refl _) | omega | (simp <;> omega)))⟩
      case round =>
        obtain ⟨j, m', us', hj, rfl, Hm', hm', HO', HX, hxl, hB'⟩ := hrel
        have hsz' := hB'.size
        by_cases hjlt : j < M
        · obtain ⟨pb, poff, rfl, hpb, p0, p1, p2⟩ := HP.out.page_at hjlt
          have q0 := cellK hB' hpb p0
          have q1 := cellK hB' hpb p1
          have q2 := cellK hB' hpb p2
          have hjl : j < pgs.length := by rw [HM.out]; exact hjlt
          have hcn := cntP_take hjl f
          have hcl := cntP_le (pgs.take (j + 1)) f
          have hcl2 := List.length_take_le (j + 1) pgs
          obtain ⟨⟨nu, fr, sh⟩, hy⟩ : ∃ y, pgs.getD j PgD.zero = y := ⟨_, rfl⟩
          rw [hy] at q0 q1 q2 hcn
          dsimp only at q0 q1 q2 hcn
          have e0 := cell_of_heap HX.out (i := 0) rfl
          have hjlt' : (j : Int) < (M : Int) := by omega
          by_cases hf : fr = f
          · subst hf
            rw [if_pos rfl] at hcn
            have Hcn := Lib.hid hcn
            have hb2 : m + cntP (pgs.take (j + 1)) fr ≤ 2000000 := by omega
            have Hb2 := Lib.hid hb2
            clear p0 p1 p2 hy hcn hcl hcl2 hb2
            go_wp2_with (first
              | (at_builtin; refine wpList_append_has _ rfl (.tmp 27) (.tmp 33) 55 rfl w.heap.size 100 i100 _ 2 16 Try.underlying55 Hi.out Hz0.out Hz1.out Hz2.out rfl (by decide) _ _ _ rfl (own_new (own_new HO'.out _) _) _ 1 1 (useVals id nu) rfl (Has.lit_at _ _ _ 1 2 _ _ rfl (by (first | (with_reducible exact Nat.le_refl _) | (with_reducible assumption) | omega | (simp <;> omega))) rfl) (useVals_one _ _) (by unfold maxLen; omega) (by omega) (by (first | (with_reducible exact Nat.le_refl _) | (with_reducible assumption) | omega | (simp <;> omega))) ?_; intro v7 w7 h7 hg7 _))
            go_roundw
            case rel =>
              have hne := row_ne_box (own_new (own_new HO'.out (.cells #[.int .i64 nu, .int .i64 fr, .bool sh] 98)) (.cells #[.int .i64 id, .int .i64 nu] 100)) (heap_below (heap_below HX.out ((Below.refl _ _).alloc (Nat.le_refl _) (.cells #[.int .i64 nu, .int .i64 fr, .bool sh] 98)) hxl) ((Below.refl _ _).alloc (Nat.le_refl _) (.cells #[.int .i64 id, .int .i64 nu] 100)) (by simp; omega)) (by decide)
              refine ⟨j + 1, m' + 1, us' ++ useVals id nu, by omega, by go_num, ?_, ?_, h7, ?_, Nat.lt_of_lt_of_le (by simp; omega) hg7.size, (show Below w.heap.size w _ by (repeat' (first | (with_reducible exact Below.refl _ _) | (with_reducible assumption) | (with_reducible refine Below.alloc ?_ ?_ _) | (with_reducible refine Below.drew ?_) | (with_reducible refine below_drewN ?_ _) | (with_reducible refine Below.setCell ?_ ?_ _) | (with_reducible exact Nat.le_refl _) | omega | (simp <;> omega)))).grown hg7 (by (first | (with_reducible exact Nat.le_refl _) | (with_reducible assumption) | omega | (simp <;> omega))) fun q hq => (HO'.out.lt q hq).1⟩
              · show _ = _
                rw [Hm'.out, Hcn.out]; omega
              · have := Hb2.out
                rw [Hcn.out] at this
                have := Hm'.out
                omega
              · exact heap_grown (heap_below (heap_below HX.out ((Below.refl _ _).alloc (Nat.le_refl _) _) hxl) ((Below.refl _ _).alloc (Nat.le_refl _) _) (by simp; omega)) hg7 (fun e => hne e.symm)
            case measure => simp [intOf]; omega
          · rw [if_neg hf] at hcn
            have hf' : (fr == f) = false := by simp [hf]
            have Hcn := Lib.hid hcn
            clear p0 p1 p2 hy hcn hcl hcl2
            go_wp2_with fail
            go_roundw
            case rel =>
              refine ⟨j + 1, m', us', by omega, by go_num, ?_, hm', own_new HO'.out _, heap_below HX.out ((Below.refl _ _).alloc (Nat.le_refl _) _) hxl, by simp; omega, by (repeat' (first | (with_reducible exact Below.refl _ _) | (with_reducible assumption) | (with_reducible refine Below.alloc ?_ ?_ _) | (with_reducible refine Below.drew ?_) | (with_reducible refine below_drewN ?_ _) | (with_reducible refine Below.setCell ?_ ?_ _) | (with_reducible exact Nat.le_refl _) | omega | (simp <;> omega)))⟩
              show _ = _
              rw [Hm'.out, Hcn.out]; omega
            case measure => simp [intOf]; omega
        · have hjM : j = M := by omega
          subst hjM
          clear hjlt
          go_wp2_with fail
          go_roundw
          case rel =>
            refine ⟨k + 1, m', us', by omega, by go_num, ?_, HO'.out, hB'⟩
            show _ = _
            rw [Hm'.out, Hun.out, Hm.out, show pgs.take j = pgs from List.take_of_length_le (by rw [HM.out]; exact Nat.le_refl _)]
          case measure => simp [intOf]; omega
    · have hkn : k = n := by omega
      subst hkn
      clear hlt
      obtain ⟨A', c', hv, -⟩ := own_form HO.out
      subst hv
      go_wp2_with fail
      go_ret
      refine ⟨A', c', ?_, hB⟩
      rw [Hm.out, List.take_of_length_le (by rw [List.length_map, Hl.out]; exact Nat.le_refl _)]
      rfl


set_option maxRecDepth 100000 in
set_option maxHeartbeats 8000000 in
theorem dusers_any (A : Option Addr) (n c : Nat) (f : Int) (xs : List PrV) (w : World) (h : IsProgs w A n xs) (hs : Small xs) :
    Calls Try.prog 107 #[.slice A n c, .int .i64 f] w fun e w' => ∃ A' c', e = .returned (.slice A' (usersN (xs.map PrV.P) f) c') ∧ Below w.heap.size w w' := by
  have Hl := Lib.hid h.len
  have HI := Lib.hid h
  have HS := Lib.hid hs
  have hn : n ≤ 1000 := by have := h.len; have := hs.1; omega
  obtain ⟨i100, hi, hz0, hz1, hz2⟩ := info_parts info100
  have Hi := Lib.hid hi
  have Hz0 := Lib.hid hz0
  have Hz1 := Lib.hid hz1
  have Hz2 := Lib.hid hz2
  clear h hs hi hz0 hz1 hz2
  go_enter Try.func107, Try.ntmps107
  go_wp2_with fail
  go_loopw [5, 12] (fun v i wr => ∃ (k m : Nat) (us : List Value), k ≤ n ∧ i = .int .i64 k ∧ Hid (m = usersN ((xs.map PrV.P).take k) f) ∧ Hid (wr.ownsRow w.heap.size 100 2 v m us) ∧ Below w.heap.size w wr) (fun _ i _ => n - (intOf i).toNat)
  case atStart => exact ⟨0, 0, [], by omega, rfl, by show _ = _; simp [usersN], World.ownsRow_nil _ _ _ _, Below.refl _ _⟩
  case round =>
    obtain ⟨k, m, us, hk, rfl, Hm, HO, hB⟩ := hrel
    obtain ⟨wo, rfl⟩ : ∃ wo : World, wo = wr := ⟨_, rfl⟩
    have hsz := hB.size
    by_cases hlt : k < n
    · obtain ⟨b, off, rfl, hb, d0, d1, d2, d3, d4, hP, -⟩ := HI.out.at_ hlt
      have g0 := cellK hB hb d0
      have g1 := cellK hB hb d1
      have g2 := cellK hB hb d2
      have g3 := cellK hB hb d3
      have g4 := cellK hB hb d4
      have hkl : k < xs.length := by rw [Hl.out]; exact hlt
      obtain ⟨hpl, -⟩ := HS.out.at_ hkl
      have hun := usersN_take (ps := xs.map PrV.P) (k := k) (by rw [List.length_map]; exact hkl) f
      rw [map_getD hkl] at hun
      have hub := HS.out.users f k
      rw [← Hm.out] at hub
      have hub' := HS.out.users f (k + 1)
      obtain ⟨x, hx⟩ : ∃ x, xs.getD k PrV.zero = x := ⟨_, rfl⟩
      rw [hx] at g0 g1 g2 g3 g4 hP hpl hun
      obtain ⟨⟨id, te, de, pgs, told⟩, PA, Pc, TA, Tc⟩ := x
      dsimp only at g0 g1 g2 g3 g4 hP hpl hun
      obtain ⟨M, hM⟩ : ∃ M, pgs.length = M := ⟨_, rfl⟩
      obtain ⟨TN, hTN⟩ : ∃ TN, told.length = TN := ⟨_, rfl⟩
      rw [hM] at g3 hP hpl
      rw [hTN] at g4
      have HM := Lib.hid hM
      have HP := Lib.hid hP
      have Hun := Lib.hid hun
      have hlt' : (k : Int) < (n : Int) := by omega
      clear d0 d1 d2 d3 d4 hx hM hTN hP hun
      go_wp2_with fail
      go_loopw [5, 19] (fun v i wr => ∃ (j m' : Nat) (us : List Value), j ≤ M ∧ i = .int .i64 j ∧ Hid (m' = m + cntP (pgs.take j) f) ∧ m' ≤ 2000000 ∧ Hid (wr.ownsRow w.heap.size 100 2 v m' us) ∧ Hid (wr.heap[wo.heap.size]? = some (.cells #[.int .i64 id, .bool te, .bool de, .slice PA M Pc, .slice TA TN Tc] 96)) ∧ wo.heap.size < wr.heap.size ∧ Below w.heap.size w wr) (fun _ i _ => M - (intOf i).toNat)
      case atStart => exact ⟨0, m, us, by omega, rfl, by show _ = _; simp [cntP], by omega, own_new HO.out _, heap_new _ _, by simp, by (repeat' (first | (with_reducible exact Below.refl _ _) | (with_reducible assumption) | (with_reducible refine Below.alloc ?_ ?_ _) | (with_reducible refine Below.drew ?_) | (with_reducible refine below_drewN ?_ _) | (with_reducible refine Below.setCell ?_ ?_ _) | (with_reducible exact Nat.le_refl _) | omega | (simp <;> omega)))⟩
      case round =>
        obtain ⟨j, m', us', hj, rfl, Hm', hm', HO', HX, hxl, hB'⟩ := hrel
        have hsz' := hB'.size
        by_cases hjlt : j < M
        · obtain ⟨pb, poff, rfl, hpb, p0, p1, p2⟩ := HP.out.page_at hjlt
          have q0 := cellK hB' hpb p0
          have q1 := cellK hB' hpb p1
          have q2 := cellK hB' hpb p2
          have hjl : j < pgs.length := by rw [HM.out]; exact hjlt
          have hcn := cntP_take hjl f
          have hcl := cntP_le (pgs.take (j + 1)) f
          have hcl2 := List.length_take_le (j + 1) pgs
          obtain ⟨⟨nu, fr, sh⟩, hy⟩ : ∃ y, pgs.getD j PgD.zero = y := ⟨_, rfl⟩
          rw [hy] at q0 q1 q2 hcn
          dsimp only at q0 q1 q2 hcn
          have e0 := cell_of_heap HX.out (i := 0) rfl
          have hjlt' : (j : Int) < (M : Int) := by omega
          by_cases hf : fr = f
          · subst hf
            rw [if_pos rfl] at hcn
            have Hcn := Lib.hid hcn
            have hb2 : m + cntP (pgs.take (j + 1)) fr ≤ 2000000 := by omega
            have Hb2 := Lib.hid hb2
            clear p0 p1 p2 hy hcn hcl hcl2 hb2
            go_wp2_with (first
              | (at_builtin; refine wpList_append_has _ rfl (.tmp 27) (.tmp 33) 55 rfl w.heap.size 100 i100 _ 2 16 Try.underlying55 Hi.out Hz0.out Hz1.out Hz2.out rfl (by decide) _ _ _ rfl (own_new (own_new HO'.out _) _) _ 1 1 (useVals id nu) rfl (Has.lit_at _ _ _ 1 2 _ _ rfl (by (first | (with_reducible exact Nat.le_refl _) | (with_reducible assumption) | omega | (simp <;> omega))) rfl) (useVals_one _ _) (by unfold maxLen; omega) (by omega) (by (first | (with_reducible exact Nat.le_refl _) | (with_reducible assumption) | omega | (simp <;> omega))) ?_; intro v7 w7 h7 hg7 _))
            go_roundw
            case rel =>
              have hne := row_ne_box (own_new (own_new HO'.out (.cells #[.int .i64 nu, .int .i64 fr, .bool sh] 98)) (.cells #[.int .i64 id, .int .i64 nu] 100)) (heap_below (heap_below HX.out ((Below.refl _ _).alloc (Nat.le_refl _) (.cells #[.int .i64 nu, .int .i64 fr, .bool sh] 98)) hxl) ((Below.refl _ _).alloc (Nat.le_refl _) (.cells #[.int .i64 id, .int .i64 nu] 100)) (by simp; omega)) (by decide)
              refine ⟨j + 1, m' + 1, us' ++ useVals id nu, by omega, by go_num, ?_, ?_, h7, ?_, Nat.lt_of_lt_of_le (by simp; omega) hg7.size, (show Below w.heap.size w _ by (repeat' (first | (with_reducible exact Below.refl _ _) | (with_reducible assumption) | (with_reducible refine Below.alloc ?_ ?_ _) | (with_reducible refine Below.drew ?_) | (with_reducible refine below_drewN ?_ _) | (with_reducible refine Below.setCell ?_ ?_ _) | (with_reducible exact Nat.le_refl _) | omega | (simp <;> omega)))).grown hg7 (by (first | (with_reducible exact Nat.le_refl _) | (with_reducible assumption) | omega | (simp <;> omega))) fun q hq => (HO'.out.lt q hq).1⟩
              · show _ = _
                rw [Hm'.out, Hcn.out]; omega
              · have := Hb2.out
                rw [Hcn.out] at this
                have := Hm'.out
                omega
              · exact heap_grown (heap_below (heap_below HX.out ((Below.refl _ _).alloc (Nat.le_refl _) _) hxl) ((Below.refl _ _).alloc (Nat.le_refl _) _) (by simp; omega)) hg7 (fun e => hne e.symm)
            case measure => simp [intOf]; omega
          · rw [if_neg hf] at hcn
            have hf' : (fr == f) = false := by simp [hf]
            have Hcn := Lib.hid hcn
            clear p0 p1 p2 hy hcn hcl hcl2
            go_wp2_with fail
            go_roundw
            case rel =>
              refine ⟨j + 1, m', us', by omega, by go_num, ?_, hm', own_new HO'.out _, heap_below HX.out ((Below.refl _ _).alloc (Nat.le_refl _) _) hxl, by simp; omega, by (repeat' (first | (with_reducible exact Below.refl _ _) | (with_reducible assumption) | (with_reducible refine Below.alloc ?_ ?_ _) | (with_reducible refine Below.drew ?_) | (with_reducible refine below_drewN ?_ _) | (with_reducible refine Below.setCell ?_ ?_ _) | (with_reducible exact Nat.le_refl _) | omega | (simp <;> omega)))⟩
              show _ = _
              rw [Hm'.out, Hcn.out]; omega
            case measure => simp [intOf]; omega
        · have hjM : j = M := by omega
          subst hjM
          clear hjlt
          go_wp2_with fail
          go_roundw
          case rel =>
            refine ⟨k + 1, m', us', by omega, by go_num, ?_, HO'.out, hB'⟩
            show _ = _
            rw [Hm'.out, Hun.out, Hm.out, show pgs.take j = pgs from List.take_of_length_le (by rw [HM.out]; exact Nat.le_refl _)]
          case measure => simp [intOf]; omega
    · have hkn : k = n := by omega
      subst hkn
      clear hlt
      obtain ⟨A', c', hv, -⟩ := own_form HO.out
      subst hv
      go_wp2_with fail
      go_ret
      refine ⟨A', c', ?_, hB⟩
      rw [Hm.out, List.take_of_length_le (by rw [List.length_map, Hl.out]; exact Nat.le_refl _)]
      rfl


theorem runused_any (A : Option Addr) (n c : Nat) (f : Int) (xs : List PrV) (w : World) (h : IsProgs w A n xs) (hs : Small xs) :
    Calls Try.prog 100 #[.slice A n c, .int .i64 f] w fun e w' => e = .returned (.int .i64 (if 0 < usersN (xs.map PrV.P) f then -1 else f)) ∧ Below w.heap.size w w' := by
  have HI := Lib.hid h
  have HS := Lib.hid hs
  clear h hs
  obtain ⟨U, hU⟩ : ∃ U, usersN (xs.map PrV.P) f = U := ⟨_, rfl⟩
  rw [hU]
  have HU := Lib.hid hU
  clear hU
  by_cases h0 : 0 < U
  · rw [if_pos h0]
    go_enter Try.func100, Try.ntmps100
    go_wp2_with fail
    refine (rusers_any A n c f xs _ HI.out HS.out).mono ?_
    rewrite [HU.out]
    rintro e w1 ⟨A', c', rfl, hb1⟩
    go_wp2_with fail
    go_ret
    exact ⟨rfl, hb1⟩
  · rw [if_neg h0]
    go_enter Try.func100, Try.ntmps100
    go_wp2_with fail
    refine (rusers_any A n c f xs _ HI.out HS.out).mono ?_
    rewrite [HU.out]
    rintro e w1 ⟨A', c', rfl, hb1⟩
    go_wp2_with fail
    go_ret
    exact ⟨rfl, hb1⟩

theorem dunused_any (A : Option Addr) (n c : Nat) (f : Int) (xs : List PrV) (w : World) (h : IsProgs w A n xs) (hs : Small xs) :
    Calls Try.prog 104 #[.slice A n c, .int .i64 f] w fun e w' => e = .returned (.bool (usersN (xs.map PrV.P) f == 0)) ∧ Below w.heap.size w w' := by
  have HI := Lib.hid h
  have HS := Lib.hid hs
  clear h hs
  go_enter Try.func104, Try.ntmps104
  go_wp2_with fail
  refine (dusers_any A n c f xs _ HI.out HS.out).mono ?_
  rintro e w1 ⟨A', c', rfl, hb1⟩
  go_wp2_with fail
  go_ret
  refine ⟨ret_bool ?_, hb1⟩
  rw [Bool.eq_iff_iff]
  simp

theorem within_any (n lo hi : Int) (w : World) : Calls Try.prog 103 #[.int .i64 n, .int .i64 lo, .int .i64 hi] w fun e w' => e = .returned (.bool (decide (lo ≤ n ∧ n ≤ hi))) ∧ w = w' := by
  go_enter Try.func103, Try.ntmps103
  go_wp2
  all_goals (go_ret; exact ⟨ret_bool (by simp [*] <;> omega), rfl⟩)

/-- Where a program is that lives. -/
def atP (ps : List PrD) (id : Int) : Int := match ps.findIdx? (fun p => p.id == id && !p.dead) with | some i => (i : Int) | none => -1
/-- Where a page is. -/
def pageP (xs : List PgD) (n : Int) : Int := match xs.findIdx? (fun x => x.num == n) with | some i => (i : Int) | none => -1
theorem findIdx_at {α : Type} {pr : α → Bool} {l : List α} {z : α} {k : Nat} (hk : k < l.length) (hp : pr (l.getD k z) = true) (hb : ∀ j, j < k → pr (l.getD j z) = false) : l.findIdx? pr = some k := by
  rw [List.findIdx?_eq_some_iff_getElem]
  refine ⟨hk, by simpa [List.getD, List.getElem?_eq_getElem hk] using hp, fun j hj => ?_⟩
  have := hb j hj
  have hjl : j < l.length := by omega
  simpa [List.getD, List.getElem?_eq_getElem hjl] using this
theorem findIdx_none {α : Type} {pr : α → Bool} {l : List α} {z : α} (hb : ∀ j, j < l.length → pr (l.getD j z) = false) : l.findIdx? pr = none := by
  rw [List.findIdx?_eq_none_iff]
  intro x hx
  obtain ⟨j, hj, rfl⟩ := List.getElem_of_mem hx
  have := hb j hj
  simpa [List.getD, List.getElem?_eq_getElem hj] using this

set_option maxRecDepth 100000 in
set_option maxHeartbeats 4000000 in
theorem at_any (A : Option Addr) (n c : Nat) (id : Int) (xs : List PrV) (w : World) (h : IsProgs w A n xs) (hn : n ≤ 1000) :
    Calls Try.prog 98 #[.slice A n c, .int .i64 id] w fun e w' => e = .returned (.int .i64 (atP (xs.map PrV.P) id)) ∧ Below w.heap.size w w' := by
  have Hl := Lib.hid h.len
  have HI := Lib.hid h
  clear h
  go_enter Try.func98, Try.ntmps98
  go_wp2_with fail
  go_loopw [9] (fun i wr => ∃ k : Nat, k ≤ n ∧ i = .int .i64 k ∧ Hid (∀ j, j < k → (((xs.map PrV.P).getD j PrD.zero).id == id && !((xs.map PrV.P).getD j PrD.zero).dead) = false) ∧ Below w.heap.size w wr) (fun i _ => n - (intOf i).toNat)
  case atStart => exact ⟨0, by omega, rfl, fun j hj => absurd hj (by omega), Below.refl _ _⟩
  case round =>
    obtain ⟨k, hk, rfl, Hb, hB⟩ := hrel
    have hsz := hB.size
    by_cases hlt : k < n
    · obtain ⟨b, off, rfl, hb, d0, d1, d2, d3, d4, -, -⟩ := HI.out.at_ hlt
      have g0 := cellK hB hb d0
      have g1 := cellK hB hb d1
      have g2 := cellK hB hb d2
      have g3 := cellK hB hb d3
      have g4 := cellK hB hb d4
      have hkl : k < xs.length := by rw [Hl.out]; exact hlt
      have hpe := map_getD hkl
      obtain ⟨x, hx⟩ : ∃ x, xs.getD k PrV.zero = x := ⟨_, rfl⟩
      rw [hx] at g0 g1 g2 g3 g4 hpe
      obtain ⟨⟨pid, te, de, pgs, told⟩, PA, Pc, TA, Tc⟩ := x
      dsimp only at g0 g1 g2 g3 g4 hpe
      have Hpe := Lib.hid hpe
      have hlt' : (k : Int) < (n : Int) := by omega
      clear d0 d1 d2 d3 d4 hx hpe
      by_cases hid : pid = id
      · subst hid
        cases de
        · go_wp2_with fail
          go_ret
          refine ⟨ret_int ?_, by (repeat' (first | (with_reducible exact Below.refl _ _) | (with_reducible assumption) | (with_reducible refine Below.alloc ?_ ?_ _) | (with_reducible refine Below.drew ?_) | (with_reducible refine below_drewN ?_ _) | (with_reducible refine Below.setCell ?_ ?_ _) | (with_reducible exact Nat.le_refl _) | omega | (simp <;> omega)))⟩
          have := findIdx_at (pr := fun p => p.id == pid && !p.dead) (l := xs.map PrV.P) (z := PrD.zero) (k := k) (by rw [List.length_map]; exact hkl) (by rw [Hpe.out]; simp) Hb.out
          simp [atP, this]
        · go_wp2_with fail
          go_roundw
          case rel =>
            refine ⟨k + 1, by omega, by go_num, fun j hj => ?_, by (repeat' (first | (with_reducible exact Below.refl _ _) | (with_reducible assumption) | (with_reducible refine Below.alloc ?_ ?_ _) | (with_reducible refine Below.drew ?_) | (with_reducible refine below_drewN ?_ _) | (with_reducible refine Below.setCell ?_ ?_ _) | (with_reducible exact Nat.le_refl _) | omega | (simp <;> omega)))⟩
            by_cases hjk : j = k
            · rw [hjk, Hpe.out]; simp
            · exact Hb.out j (by omega)
          case measure => simp [intOf]; omega
      · have hid' : (pid == id) = false := by simp [hid]
        have Hid' := Lib.hid hid'
        go_wp2_with fail
        go_roundw
        case rel =>
          refine ⟨k + 1, by omega, by go_num, fun j hj => ?_, by (repeat' (first | (with_reducible exact Below.refl _ _) | (with_reducible assumption) | (with_reducible refine Below.alloc ?_ ?_ _) | (with_reducible refine Below.drew ?_) | (with_reducible refine below_drewN ?_ _) | (with_reducible refine Below.setCell ?_ ?_ _) | (with_reducible exact Nat.le_refl _) | omega | (simp <;> omega)))⟩
          by_cases hjk : j = k
          · rw [hjk, Hpe.out]
            simp only [Hid'.out, Bool.false_and]
          · exact Hb.out j (by omega)
        case measure => simp [intOf]; omega
    · have hkn : k = n := by omega
      subst hkn
      clear hlt
      go_wp2_with fail
      go_ret
      refine ⟨ret_int ?_, hB⟩
      have := findIdx_none (pr := fun p => p.id == id && !p.dead) (l := xs.map PrV.P) (z := PrD.zero) (fun j hj => Hb.out j (by rw [List.length_map, Hl.out] at hj; exact hj))
      simp [atP, this]

set_option maxRecDepth 100000 in
set_option maxHeartbeats 4000000 in
theorem page_any (id : Int) (te de : Bool) (PA : Option Addr) (M Pc : Nat) (pgs : List PgD) (TA : Option Addr) (TN Tc : Nat) (q : Int) (w : World) (h : Has w PA M 3 (pgVals pgs)) (hn : M ≤ 1000) :
    Calls Try.prog 99 #[.agg #[.int .i64 id, .bool te, .bool de, .slice PA M Pc, .slice TA TN Tc], .int .i64 q] w fun e w' => e = .returned (.int .i64 (pageP pgs q)) ∧ Below w.heap.size w w' := by
  have Hl := Lib.hid h.pages
  have HI := Lib.hid h
  clear h
  go_enter Try.func99, Try.ntmps99
  go_wp2_with fail
  go_loopw [10] (fun i wr => ∃ k : Nat, k ≤ M ∧ i = .int .i64 k ∧ Hid (∀ j, j < k → ((pgs.getD j PgD.zero).num == q) = false) ∧ Below w.heap.size w wr) (fun i _ => M - (intOf i).toNat)
  case atStart => exact ⟨0, by omega, rfl, fun j hj => absurd hj (by omega), by (repeat' (first | (with_reducible exact Below.refl _ _) | (with_reducible assumption) | (with_reducible refine Below.alloc ?_ ?_ _) | (with_reducible refine Below.drew ?_) | (with_reducible refine below_drewN ?_ _) | (with_reducible refine Below.setCell ?_ ?_ _) | (with_reducible exact Nat.le_refl _) | omega | (simp <;> omega)))⟩
  case round =>
    obtain ⟨k, hk, rfl, Hb, hB⟩ := hrel
    have hsz := hB.size
    by_cases hlt : k < M
    · obtain ⟨b, off, rfl, hb, d0, d1, d2⟩ := HI.out.page_at hlt
      have g0 := cellK hB hb d0
      have g1 := cellK hB hb d1
      have g2 := cellK hB hb d2
      have hkl : k < pgs.length := by rw [Hl.out]; exact hlt
      obtain ⟨⟨nu, fr, sh⟩, hx⟩ : ∃ x, pgs.getD k PgD.zero = x := ⟨_, rfl⟩
      rw [hx] at g0 g1 g2
      dsimp only at g0 g1 g2
      have Hx := Lib.hid hx
      have hlt' : (k : Int) < (M : Int) := by omega
      clear d0 d1 d2 hx
      by_cases hid : nu = q
      · subst hid
        go_wp2_with fail
        go_ret
        refine ⟨ret_int ?_, by (repeat' (first | (with_reducible exact Below.refl _ _) | (with_reducible assumption) | (with_reducible refine Below.alloc ?_ ?_ _) | (with_reducible refine Below.drew ?_) | (with_reducible refine below_drewN ?_ _) | (with_reducible refine Below.setCell ?_ ?_ _) | (with_reducible exact Nat.le_refl _) | omega | (simp <;> omega)))⟩
        have := findIdx_at (pr := fun x => x.num == nu) (l := pgs) (z := PgD.zero) (k := k) hkl (by rw [Hx.out]; simp) Hb.out
        simp [pageP, this]
      · have hid' : (nu == q) = false := by simp [hid]
        have Hid' := Lib.hid hid'
        go_wp2_with fail
        go_roundw
        case rel =>
          refine ⟨k + 1, by omega, by go_num, fun j hj => ?_, by (repeat' (first | (with_reducible exact Below.refl _ _) | (with_reducible assumption) | (with_reducible refine Below.alloc ?_ ?_ _) | (with_reducible refine Below.drew ?_) | (with_reducible refine below_drewN ?_ _) | (with_reducible refine Below.setCell ?_ ?_ _) | (with_reducible exact Nat.le_refl _) | omega | (simp <;> omega)))⟩
          by_cases hjk : j = k
          · rw [hjk, Hx.out]
            exact Hid'.out
          · exact Hb.out j (by omega)
        case measure => simp [intOf]; omega
    · have hkn : k = M := by omega
      subst hkn
      clear hlt
      go_wp2_with fail
      go_ret
      refine ⟨ret_int ?_, hB⟩
      have := findIdx_none (pr := fun x => x.num == q) (l := pgs) (z := PgD.zero) (fun j hj => Hb.out j (by rw [Hl.out] at hj; exact hj))
      simp [pageP, this]
end Go.Proofs.Ytjlmgjpnfppkoaa
