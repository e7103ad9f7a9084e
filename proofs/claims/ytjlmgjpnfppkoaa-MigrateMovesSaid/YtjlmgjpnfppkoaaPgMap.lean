/-
  Programs, walked: a page is added (the reference).
-/
import Derived.LoopTactic
import Derived.Test.YtjlmgjpnfppkoaaPgAid
namespace Go.Proofs.Ytjlmgjpnfppkoaa
open Go.RowKit
attribute [local go_sem ↓] Go.wp_at_zero Go.wp_at_succ

set_option maxRecDepth 100000 in
set_option maxHeartbeats 16000000 in
theorem rmap_any (B0 : Nat) (A : Option Addr) (n c : Nat) (id q f N : Int) (xs : List PrV) (w : World) (h : OwnProgs w B0 (.slice A n c) xs) (hln : xs.length = n) (hI : Inv N (xs.map PrV.P)) :
    Calls Try.prog 89 #[.slice A n c, .int .i64 id, .int .i64 q, .int .i64 f] w fun e w' => ∃ v E ys, e = .returned (.tuple #[v, .int .i64 E]) ∧ (E = 0 → OwnProgs w' w.heap.size v ys ∧ MapStep (xs.map PrV.P) q f (ys.map PrV.P)) ∧ Below w.heap.size w w' := by
  have HI := Lib.hid (h.is hln)
  have HO := Lib.hid h
  have HS := Lib.hid (inv_small hI)
  have HInv := Lib.hid hI
  have hn : n ≤ 8 := by have := hI.1; rw [List.length_map] at this; omega
  have Hln := Lib.hid hln
  clear h hI hln
  rcases at_cases (xs.map PrV.P) id with hat | ⟨i, hat, hil, hid, hdead⟩
  · have Hat := Lib.hid hat
    clear hat
    go_enter Try.func89, Try.ntmps89
    go_wp2_with fail
    refine (at_any A n c id xs _ HI.out (by omega)).mono ?_
    rewrite [Hat.out]
    rintro e w1 ⟨rfl, hb1⟩
    go_wp2_with fail
    go_ret2
    exact ⟨_, _, [], rfl, fun hE => (by cases hE), hb1⟩
  · have Hat := Lib.hid hat
    have hixs : i < xs.length := by simpa using hil
    have hin : i < n := by rw [← Hln.out]; exact hixs
    have hpe : (xs.map PrV.P)[i]? = some (xs.getD i PrV.zero).P := by
      rw [List.getElem?_eq_getElem hil]; simp [List.getD, List.getElem?_eq_getElem hixs]
    have hdd : (xs.getD i PrV.zero).P.dead = false := by
      have : (xs.map PrV.P)[i] = (xs.getD i PrV.zero).P := by simp [List.getD, List.getElem?_eq_getElem hixs]
      rw [← this]; exact hdead
    have hrow := (HO.out.2.2 _ (getD_mem xs PrV.zero hixs)).1
    obtain ⟨b, off, rfl, hb, d0, d1, d2, d3, d4, hP, hT⟩ := HI.out.at_ hin
    obtain ⟨hpl, htl⟩ := HS.out.at_ hixs
    obtain ⟨x, hx⟩ : ∃ x, xs.getD i PrV.zero = x := ⟨_, rfl⟩
    rw [hx] at d0 d1 d2 d3 d4 hP hT hpl htl hpe hdd hrow
    obtain ⟨⟨pid, te, de, pgs, told⟩, PA, Pc, TA, Tc⟩ := x
    dsimp only at d0 d1 d2 d3 d4 hP hT hpl htl hpe hdd hrow
    obtain ⟨M, hM⟩ : ∃ M, pgs.length = M := ⟨_, rfl⟩
    obtain ⟨TN, hTN⟩ : ∃ TN, told.length = TN := ⟨_, rfl⟩
    rw [hM] at d3 hP hpl hrow
    rw [hTN] at d4 hT htl
    have HM := Lib.hid hM
    have HTN := Lib.hid hTN
    have HP := Lib.hid hP
    have HT := Lib.hid hT
    have Hrow := Lib.hid hrow
    have Hx := Lib.hid hx
    have Hpe := Lib.hid hpe
    have Hdd := Lib.hid hdd
    have hin' : (i : Int) < (n : Int) := by omega
    clear hat hid hdead hpe hdd hrow hx hM hTN hP hT
    by_cases hr : 0 ≤ q ∧ q ≤ 999 ∧ 0 ≤ f ∧ f < 64
    · obtain ⟨q0, q9, f0, f6⟩ := hr
      go_enter Try.func89, Try.ntmps89
      go_wp2_with fail
      refine (at_any _ n c id xs _ HI.out (by omega)).mono ?_
      rewrite [Hat.out]
      rintro e w1 ⟨rfl, hb1⟩
      have e0 := cellK hb1 hb d0
      have e1 := cellK hb1 hb d1
      have e2 := cellK hb1 hb d2
      have e3 := cellK hb1 hb d3
      have e4 := cellK hb1 hb d4
      have HB1 := Lib.hid hb1
      have hs1 := hb1.size
      clear hb1
      go_wp2_with fail
      refine (page_any pid te de PA M Pc pgs TA TN Tc q _ (HP.out.below HB1.out) hpl).mono ?_
      rcases pageP_cases pgs q with ⟨hpp, habs⟩ | ⟨z, hpp⟩
      · rewrite [hpp]
        have Habs := Lib.hid habs
        clear hpp habs
        rintro e w2 ⟨rfl, hb2⟩
        have HB2 := Lib.hid (HB1.out.trans (hb2.mono hs1))
        have hs2 := HB2.out.size
        clear hb2 e0 e1 e2 e3 e4
        have e3 := cellK HB2.out hb d3
        go_wp2_with fail
        refine (runused_any _ n c f xs _ (HI.out.below HB2.out) HS.out).mono ?_
        by_cases hu : usersN (xs.map PrV.P) f = 0
        · rewrite [hu, if_neg (by omega)]
          have Hu := Lib.hid hu
          clear hu
          rintro e w3 ⟨rfl, hb3⟩
          have HB3 := Lib.hid (HB2.out.trans (hb3.mono hs2))
          have hs3 := HB3.out.size
          clear hb3 e3
          have e3 := cellK HB3.out hb d3
          by_cases hM16 : M < 16
          · have hM16' : (M : Int) < 16 := by omega
            go_wp2_with fail
            refine (rcopyprogs_any _ n c xs _ (HI.out.below HB3.out) HS.out).mono ?_
            rintro e w4 ⟨v4, ys, rfl, hym, hO4, -, hb4⟩
            have hyl : ys.length = n := by
              have := congrArg List.length hym
              simp at this
              rw [this]; exact Hln.out
            have HY := Lib.hid hym
            have HYL := Lib.hid hyl
            have HB4 := Lib.hid (HB3.out.trans (hb4.mono hs3))
            have hs4 := hb4.size
            have hs4w := HB4.out.size
            obtain ⟨A4, c4, hv4⟩ := hO4.1
            rw [hyl] at hv4
            subst hv4
            obtain ⟨g4, rfl, hg4, hg4w⟩ := own_some (by have := hO4.2.1; rw [hyl] at this; exact this) (show 0 < n by omega)
            have HO4 := Lib.hid (hO4.base (show w.heap.size ≤ w3.heap.size from hs3))
            clear hb4 hO4 hym hyl e3
            have e3 := cellK HB4.out hb d3
            have HP4 := Lib.hid (HP.out.below HB4.out)
            have hcap := row_cap Hrow.out
            have hcap' : (M : Int) ≤ (Pc : Int) := by omega
            clear d0 d1 d2 d3 d4
            go_wp2_with fail
            go_loop [12] (fun i => ∃ k : Nat, k ≤ M ∧ i = .int .i64 k ∧ Hid (∀ j, j < k → (pgs.getD j PgD.zero).num < q)) (fun i => M - (intOf i).toNat)
            case atStart => exact ⟨0, by omega, rfl, fun j hj => absurd hj (by omega)⟩
            case round =>
              obtain ⟨k, hk, rfl, Hlo⟩ := hrel
              have hk0 : (0 : Int) ≤ (k : Int) := by omega
              have hkM0 : (k : Int) ≤ (M : Int) := by omega
              have hkc : (k : Int) ≤ (Pc : Int) := by omega
              by_cases hkM : k < M
              · obtain ⟨pb, poff, rfl, hpb, p0, p1, p2⟩ := HP4.out.page_at hkM
                obtain ⟨⟨nu, fr, sh⟩, hy⟩ : ∃ y, pgs.getD k PgD.zero = y := ⟨_, rfl⟩
                rw [hy] at p0 p1 p2
                dsimp only at p0 p1 p2
                have Hyk := Lib.hid hy
                have hkM' : (k : Int) < (M : Int) := by omega
                clear hy
                by_cases hnq : nu < q
                · go_wp2_with fail
                  go_round
                  case rel =>
                    refine ⟨k + 1, by omega, by go_num, fun j hj => ?_⟩
                    by_cases hjk : j = k
                    · rw [hjk, Hyk.out]; exact hnq
                    · exact Hlo.out j (by omega)
                  case measure => simp [intOf]; omega
                · have hhi : k < pgs.length → ¬ (pgs.getD k PgD.zero).num < q := fun _ => by rw [Hyk.out]; exact hnq
                  have Hhi := Lib.hid hhi
                  have hPk : ¬ Pc = k := by omega
                  have hPk' : (Pc == k) = false := by simp [hPk]
                  clear hhi
                  go_wp2_with fail
                  clear p0 p1 p2 hnq Hyk
                  have hiy : i < ys.length := by rw [HYL.out]; exact hin
                  obtain ⟨gg, oo, ee, -, -, -, -, z3, -, -, -⟩ := (HO4.out.is HYL.out).at_ hin
                  injection ee with ee
                  injection ee with ee1 ee2
                  subst ee1 ee2
                  simp only [Nat.zero_add] at z3
                  have fz3 : w4.frozen? ⟨g4, i * 5 + 3, none⟩ = false := by have := HO4.out.2.1; rw [HYL.out] at this; exact own_frozen this (i * 5 + 3)
                  have hyid := map_getD hiy
                  rw [HY.out, map_getD hixs, Hx.out] at hyid
                  obtain ⟨y0, hy0⟩ : ∃ y, ys.getD i PrV.zero = y := ⟨_, rfl⟩
                  rw [hy0] at z3 hyid
                  obtain ⟨y0P, y0A, y0c, y0TA, y0Tc⟩ := y0
                  dsimp only at z3 hyid
                  subst hyid
                  dsimp only at z3
                  rw [HM.out] at z3
                  have Hy0 := Lib.hid hy0
                  have Hpf := Lib.hid (pages_from HP4.out hk hcap)
                  have Hpt := Lib.hid (pages_take HP4.out hk)
                  clear hy0 hiy
                  have lb4 := Nat.lt_of_lt_of_le hb hs4w
                  go_region_held3 (fun w' => w'.cell? ⟨b, off + i * 5 + 3, none⟩ = some (.slice (some ⟨pb, poff, none⟩) M Pc)) (simp [go_sem, *]) (first | (refine step_copy_pages (by rfl) (.const (.slice none 0 0)) (.tmp 88) (by rfl) (by rfl) _ _ _ (pgs.take k) (by rfl) (Hpt.out.below (by (repeat' (first | (with_reducible exact Below.refl _ _) | (with_reducible assumption) | (with_reducible refine Below.alloc ?_ ?_ _) | (with_reducible refine Below.drew ?_) | (with_reducible refine below_drewN ?_ _) | (with_reducible refine Below.setCell ?_ ?_ _) | (with_reducible exact Nat.le_refl _) | omega | (simp <;> omega))))) (by omega) ?_; intro A5 c5 w5 hown5 hb5; have hB5 := (show Below w4.heap.size w4 _ by (repeat' (first | (with_reducible exact Below.refl _ _) | (with_reducible assumption) | (with_reducible refine Below.alloc ?_ ?_ _) | (with_reducible refine Below.drew ?_) | (with_reducible refine below_drewN ?_ _) | (with_reducible refine Below.setCell ?_ ?_ _) | (with_reducible exact Nat.le_refl _) | omega | (simp <;> omega)))).trans (hb5.mono (show w4.heap.size ≤ _ by (first | (with_reducible exact Nat.le_refl _) | (with_reducible assumption) | omega | (simp <;> omega)))); have hs5 := hB5.size; have lb5 := Nat.lt_of_lt_of_le (Nat.lt_of_lt_of_le hb hs4w) hs5; have e35 := cellK hB5 (Nat.lt_of_lt_of_le hb hs4w) e3; have hown5' := ownsRow_base hown5 (show w4.heap.size ≤ _ by (first | (with_reducible exact Nat.le_refl _) | (with_reducible assumption) | omega | (simp <;> omega))); (try (have hx5 := (Has.lit_at w4.drew #[.int .i64 q, .int .i64 f, .bool false] 98 1 3 w4.heap.size (pgVals [⟨q, f, false⟩]) rfl rfl rfl).below hb5))) | (refine step_add_pages (by rfl) (.tmp 89) (.tmp 93) (by rfl) w4.heap.size _ k _ (pgs.take k) (by rfl) (by have ho := hown5'; (repeat' (first | (with_reducible assumption) | (with_reducible refine own_put ?_ ?_ _) | (with_reducible refine own_new ?_ _) | (with_reducible refine own_drew ?_) | (with_reducible refine own_drewN ?_ _) | omega))) _ 1 1 [⟨q, f, false⟩] (by rfl) (by first | exact hx5 | exact Has.lit_at _ _ _ 1 3 _ _ rfl (by (first | (with_reducible exact Nat.le_refl _) | (with_reducible assumption) | omega | (simp <;> omega))) rfl) (by omega) (by omega) (by (first | (with_reducible exact Nat.le_refl _) | (with_reducible assumption) | omega | (simp <;> omega))) ?_; intro A6 c6 w6 hown6 hg6 hb6; have hB6 := (show Below w4.heap.size w4 _ by (repeat' (first | (with_reducible exact Below.refl _ _) | (with_reducible assumption) | (with_reducible refine Below.alloc ?_ ?_ _) | (with_reducible refine Below.drew ?_) | (with_reducible refine below_drewN ?_ _) | (with_reducible refine Below.setCell ?_ ?_ _) | (with_reducible exact Nat.le_refl _) | omega | (simp <;> omega)))).trans hb6; have hs6 := hB6.size; have lb6 := Nat.lt_of_lt_of_le (Nat.lt_of_lt_of_le hb hs4w) hs6; have e36 := cellK hB6 (Nat.lt_of_lt_of_le hb hs4w) e3) | (refine step_add_pages (by rfl) (.tmp 94) (.tmp 101) (by rfl) w4.heap.size _ (k + 1) _ _ (by rfl) hown6 _ _ _ (pgs.drop k) (by rfl) (by have hpf := Hpf.out.below hB6; simpa [hPk, addr_add] using hpf) (by omega) (by omega) (by (first | (with_reducible exact Nat.le_refl _) | (with_reducible assumption) | omega | (simp <;> omega))) ?_; intro A7 c7 w7 hown7 hg7 hb7; have hB7 := (show Below w4.heap.size w4 _ by (repeat' (first | (with_reducible exact Below.refl _ _) | (with_reducible assumption) | (with_reducible refine Below.alloc ?_ ?_ _) | (with_reducible refine Below.drew ?_) | (with_reducible refine below_drewN ?_ _) | (with_reducible refine Below.setCell ?_ ?_ _) | (with_reducible exact Nat.le_refl _) | omega | (simp <;> omega)))).trans hb7; have hs7 := hB7.size; have lb7 := Nat.lt_of_lt_of_le (Nat.lt_of_lt_of_le hb hs4w) hs7; have e37 := cellK hB7 (Nat.lt_of_lt_of_le hb hs4w) e3; have z37 := cellK hB7 hg4w z3; have f37 := frozK hB7 hg4w fz3))
                  all_goals (go_wp2_with fail)
                  all_goals
                    have hset := (HO4.out.below hB7).set_pages (i := i) HYL.out (by rw [HYL.out]; exact hin) (pgs := pgs.take k ++ [(⟨q, f, false⟩ : PgD)] ++ pgs.drop k) (m := k + 1 + (M - k)) (by simp [HM.out]; try omega) (ownsRow_base hown7 hs4w)
                    rw [Hy0.out] at hset
                    refine bodyPost_ret (v := .tuple #[.slice (some ⟨g4, 0, none⟩) n c4, .int .i64 0]) (by simp [results, Try.results89, go_sem]) rfl ⟨_, _, rfl, ⟨_, fun _ => ⟨hset, i, k, _, Hpe.out, Hdd.out, q0, q9, f0, Habs.out, Hu.out, ?_, ?_, Hlo.out, fun h => by have := Hhi.out h; dsimp only; omega, ?_⟩⟩, (HB4.out.trans (hB7.mono hs4w)).setCell (by show w.heap.size ≤ g4; omega) _⟩
                    · show pgs.length < 16; rw [HM.out]; omega
                    · show k ≤ pgs.length; rw [HM.out]; omega
                    · rw [List.map_set, HY.out]
              · have hkk : k = M := by omega
                subst hkk
                have hhi : k < pgs.length → ¬ (pgs.getD k PgD.zero).num < q := fun h => absurd h (by rw [HM.out]; omega)
                have Hhi := Lib.hid hhi
                clear hhi hkM
                go_wp2_with fail
                have hiy : i < ys.length := by rw [HYL.out]; exact hin
                obtain ⟨gg, oo, ee, -, -, -, -, z3, -, -, -⟩ := (HO4.out.is HYL.out).at_ hin
                injection ee with ee
                injection ee with ee1 ee2
                subst ee1 ee2
                simp only [Nat.zero_add] at z3
                have fz3 : w4.frozen? ⟨g4, i * 5 + 3, none⟩ = false := by have := HO4.out.2.1; rw [HYL.out] at this; exact own_frozen this (i * 5 + 3)
                have hyid := map_getD hiy
                rw [HY.out, map_getD hixs, Hx.out] at hyid
                obtain ⟨y0, hy0⟩ : ∃ y, ys.getD i PrV.zero = y := ⟨_, rfl⟩
                rw [hy0] at z3 hyid
                obtain ⟨y0P, y0A, y0c, y0TA, y0Tc⟩ := y0
                dsimp only at z3 hyid
                subst hyid
                dsimp only at z3
                rw [HM.out] at z3
                have Hy0 := Lib.hid hy0
                have Hpf := Lib.hid (pages_from HP4.out hk hcap)
                have Hpt := Lib.hid (pages_take HP4.out hk)
                clear hy0 hiy
                have lb4 := Nat.lt_of_lt_of_le hb hs4w
                go_region_held3 (fun w' => w'.cell? ⟨b, off + i * 5 + 3, none⟩ = some (.slice PA k Pc)) (simp [go_sem, *]) (first | (refine step_copy_pages (by rfl) (.const (.slice none 0 0)) (.tmp 88) (by rfl) (by rfl) _ _ _ (pgs.take k) (by rfl) (Hpt.out.below (by (repeat' (first | (with_reducible exact Below.refl _ _) | (with_reducible assumption) | (with_reducible refine Below.alloc ?_ ?_ _) | (with_reducible refine Below.drew ?_) | (with_reducible refine below_drewN ?_ _) | (with_reducible refine Below.setCell ?_ ?_ _) | (with_reducible exact Nat.le_refl _) | omega | (simp <;> omega))))) (by omega) ?_; intro A5 c5 w5 hown5 hb5; have hB5 := (show Below w4.heap.size w4 _ by (repeat' (first | (with_reducible exact Below.refl _ _) | (with_reducible assumption) | (with_reducible refine Below.alloc ?_ ?_ _) | (with_reducible refine Below.drew ?_) | (with_reducible refine below_drewN ?_ _) | (with_reducible refine Below.setCell ?_ ?_ _) | (with_reducible exact Nat.le_refl _) | omega | (simp <;> omega)))).trans (hb5.mono (show w4.heap.size ≤ _ by (first | (with_reducible exact Nat.le_refl _) | (with_reducible assumption) | omega | (simp <;> omega)))); have hs5 := hB5.size; have lb5 := Nat.lt_of_lt_of_le (Nat.lt_of_lt_of_le hb hs4w) hs5; have e35 := cellK hB5 (Nat.lt_of_lt_of_le hb hs4w) e3; have hown5' := ownsRow_base hown5 (show w4.heap.size ≤ _ by (first | (with_reducible exact Nat.le_refl _) | (with_reducible assumption) | omega | (simp <;> omega))); (try (have hx5 := (Has.lit_at w4.drew #[.int .i64 q, .int .i64 f, .bool false] 98 1 3 w4.heap.size (pgVals [⟨q, f, false⟩]) rfl rfl rfl).below hb5))) | (refine step_add_pages (by rfl) (.tmp 89) (.tmp 93) (by rfl) w4.heap.size _ k _ (pgs.take k) (by rfl) (by have ho := hown5'; (repeat' (first | (with_reducible assumption) | (with_reducible refine own_put ?_ ?_ _) | (with_reducible refine own_new ?_ _) | (with_reducible refine own_drew ?_) | (with_reducible refine own_drewN ?_ _) | omega))) _ 1 1 [⟨q, f, false⟩] (by rfl) (by first | exact hx5 | exact Has.lit_at _ _ _ 1 3 _ _ rfl (by (first | (with_reducible exact Nat.le_refl _) | (with_reducible assumption) | omega | (simp <;> omega))) rfl) (by omega) (by omega) (by (first | (with_reducible exact Nat.le_refl _) | (with_reducible assumption) | omega | (simp <;> omega))) ?_; intro A6 c6 w6 hown6 hg6 hb6; have hB6 := (show Below w4.heap.size w4 _ by (repeat' (first | (with_reducible exact Below.refl _ _) | (with_reducible assumption) | (with_reducible refine Below.alloc ?_ ?_ _) | (with_reducible refine Below.drew ?_) | (with_reducible refine below_drewN ?_ _) | (with_reducible refine Below.setCell ?_ ?_ _) | (with_reducible exact Nat.le_refl _) | omega | (simp <;> omega)))).trans hb6; have hs6 := hB6.size; have lb6 := Nat.lt_of_lt_of_le (Nat.lt_of_lt_of_le hb hs4w) hs6; have e36 := cellK hB6 (Nat.lt_of_lt_of_le hb hs4w) e3) | (refine step_add_pages (by rfl) (.tmp 94) (.tmp 101) (by rfl) w4.heap.size _ (k + 1) _ _ (by rfl) hown6 _ _ _ (pgs.drop k) (by rfl) (by have hpf := Hpf.out.below hB6; simpa using hpf) (by omega) (by omega) (by (first | (with_reducible exact Nat.le_refl _) | (with_reducible assumption) | omega | (simp <;> omega))) ?_; intro A7 c7 w7 hown7 hg7 hb7; have hB7 := (show Below w4.heap.size w4 _ by (repeat' (first | (with_reducible exact Below.refl _ _) | (with_reducible assumption) | (with_reducible refine Below.alloc ?_ ?_ _) | (with_reducible refine Below.drew ?_) | (with_reducible refine below_drewN ?_ _) | (with_reducible refine Below.setCell ?_ ?_ _) | (with_reducible exact Nat.le_refl _) | omega | (simp <;> omega)))).trans hb7; have hs7 := hB7.size; have lb7 := Nat.lt_of_lt_of_le (Nat.lt_of_lt_of_le hb hs4w) hs7; have e37 := cellK hB7 (Nat.lt_of_lt_of_le hb hs4w) e3; have z37 := cellK hB7 hg4w z3; have f37 := frozK hB7 hg4w fz3))
                all_goals (go_wp2_with fail)
                all_goals
                  have hset := (HO4.out.below hB7).set_pages (i := i) HYL.out (by rw [HYL.out]; exact hin) (pgs := pgs.take k ++ [(⟨q, f, false⟩ : PgD)] ++ pgs.drop k) (m := k + 1 + 0) (by simp [HM.out]; try omega) (ownsRow_base hown7 hs4w)
                  rw [Hy0.out] at hset
                  refine bodyPost_ret (v := .tuple #[.slice (some ⟨g4, 0, none⟩) n c4, .int .i64 0]) (by simp [results, Try.results89, go_sem]) rfl ⟨_, _, rfl, ⟨_, fun _ => ⟨hset, i, k, _, Hpe.out, Hdd.out, q0, q9, f0, Habs.out, Hu.out, ?_, ?_, Hlo.out, fun h => by have := Hhi.out h; dsimp only; omega, ?_⟩⟩, (HB4.out.trans (hB7.mono hs4w)).setCell (by show w.heap.size ≤ g4; omega) _⟩
                  · show pgs.length < 16; rw [HM.out]; omega
                  · show k ≤ pgs.length; rw [HM.out]; omega
                  · rw [List.map_set, HY.out]
          · have hM16' : (16 : Int) ≤ (M : Int) := by omega
            go_wp2_with fail
            go_ret2
            exact ⟨_, _, [], rfl, fun hE => (by cases hE), HB3.out⟩
        · rewrite [if_pos (by omega)]
          rintro e w3 ⟨rfl, hb3⟩
          have HB3 := Lib.hid (HB2.out.trans (hb3.mono hs2))
          clear hb3
          go_wp2_with fail
          go_ret2
          exact ⟨_, _, [], rfl, fun hE => (by cases hE), HB3.out⟩
      · rewrite [hpp]
        rintro e w2 ⟨rfl, hb2⟩
        have HB2 := Lib.hid (HB1.out.trans (hb2.mono hs1))
        clear hb2
        go_wp2_with fail
        go_ret2
        exact ⟨_, _, [], rfl, fun hE => (by cases hE), HB2.out⟩
    · have hrr : q < 0 ∨ (0 ≤ q ∧ 999 < q) ∨ (0 ≤ q ∧ q ≤ 999 ∧ f < 0) ∨ (0 ≤ q ∧ q ≤ 999 ∧ 0 ≤ f ∧ 64 ≤ f) := by omega
      rcases hrr with r1 | ⟨r1, r2⟩ | ⟨r1, r2, r3⟩ | ⟨r1, r2, r3, r4⟩
      all_goals
        go_enter Try.func89, Try.ntmps89
        go_wp2_with fail
        refine (at_any _ n c id xs _ HI.out (by omega)).mono ?_
        rewrite [Hat.out]
        rintro e w1 ⟨rfl, hb1⟩
        go_wp2_with fail
        go_ret2
        exact ⟨_, _, [], rfl, fun hE => (by cases hE), hb1⟩
end Go.Proofs.Ytjlmgjpnfppkoaa
