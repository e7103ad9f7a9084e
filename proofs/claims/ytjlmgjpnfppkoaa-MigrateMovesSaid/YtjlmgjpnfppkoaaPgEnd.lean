/-
  Programs, walked: a program ends (the reference).
-/
import Derived.LoopTactic
import Derived.Test.YtjlmgjpnfppkoaaPgSet
import Derived.Test.YtjlmgjpnfppkoaaPgCopy
import Derived.Test.YtjlmgjpnfppkoaaPgInv
import Derived.Test.YtjlmgjpnfppkoaaFr2
namespace Go.Proofs.Ytjlmgjpnfppkoaa
open Go.RowKit
attribute [local go_sem ↓] Go.wp_at_zero Go.wp_at_succ

theorem inv_small {N : Int} {xs : List PrV} (h : Inv N (xs.map PrV.P)) : Small xs := by
  refine ⟨by have := h.1; rw [List.length_map] at this; omega, fun x hx => ?_⟩
  obtain ⟨_, _, h3, h4, _⟩ := h.2.1 x.P (List.mem_map_of_mem hx)
  rw [h3]
  exact ⟨by omega, by simp⟩
theorem at_cases (ps : List PrD) (id : Int) : atP ps id = -1 ∨ ∃ i : Nat, atP ps id = i ∧ ∃ h : i < ps.length, (ps[i]).id = id ∧ (ps[i]).dead = false := by
  unfold atP
  cases h : ps.findIdx? (fun p => p.id == id && !p.dead) with
  | none => exact .inl rfl
  | some i =>
    obtain ⟨hi, hp, -⟩ := List.findIdx?_eq_some_iff_getElem.1 h
    exact .inr ⟨i, rfl, hi, by simpa using hp⟩
theorem small_set {xs : List PrV} (h : Small xs) {i : Nat} {y : PrV} (h1 : y.P.pages.length ≤ 1000) (h2 : y.P.told.length ≤ 1000) : Small (xs.set i y) := by
  refine ⟨by simpa using h.1, fun x hx => ?_⟩
  rcases List.mem_or_eq_of_mem_set hx with hx | rfl
  · exact h.2 x hx
  · exact ⟨h1, h2⟩

set_option maxRecDepth 100000 in
set_option maxHeartbeats 16000000 in
theorem rend_any (B0 : Nat) (A : Option Addr) (n c : Nat) (id N : Int) (xs : List PrV) (w : World) (h : OwnProgs w B0 (.slice A n c) xs) (hln : xs.length = n) (hI : Inv N (xs.map PrV.P)) :
    Calls Try.prog 91 #[.slice A n c, .int .i64 id] w fun e w' => ∃ v u E ys, e = .returned (.tuple #[v, u, .int .i64 E]) ∧ (E = 0 → OwnProgs w' w.heap.size v ys ∧ EndStep (xs.map PrV.P) (ys.map PrV.P)) ∧ Below w.heap.size w w' := by
  have HI := Lib.hid (h.is hln)
  have HS := Lib.hid (inv_small hI)
  have hn : n ≤ 8 := by have := hI.1; rw [List.length_map] at this; omega
  have Hln := Lib.hid hln
  clear h hI hln
  rcases at_cases (xs.map PrV.P) id with hat | ⟨i, hat, hil, hid, hdead⟩
  · have Hat := Lib.hid hat
    clear hat
    go_enter Try.func91, Try.ntmps91
    go_wp2_with fail
    refine (at_any A n c id xs _ HI.out (by omega)).mono ?_
    rewrite [Hat.out]
    rintro e w1 ⟨rfl, hb1⟩
    go_wp2_with fail
    refine bodyPost_ret (v := .tuple #[.slice none 0 0, .slice none 0 0, .int .i64 42]) (by simp [results, Try.results91, go_sem, *]) rfl ?_
    exact ⟨_, _, _, [], rfl, fun hE => (by cases hE), hb1⟩
  · have Hat := Lib.hid hat
    have hixs : i < xs.length := by simpa using hil
    have hin : i < n := by rw [← Hln.out]; exact hixs
    have hpe : (xs.map PrV.P)[i]? = some (xs.getD i PrV.zero).P := by
      rw [List.getElem?_eq_getElem hil]; simp [List.getD, List.getElem?_eq_getElem hixs]
    have Hpe := Lib.hid hpe
    have hin' : (i : Int) < (n : Int) := by omega
    have hi0 : (0 : Int) ≤ (i : Int) := by omega
    clear hat hid hdead hpe
    obtain ⟨i3, hi3, hz0, hz1, hz2⟩ := info_parts info3p
    have Hi := Lib.hid hi3
    have Hz0 := Lib.hid hz0
    have Hz1 := Lib.hid hz1
    have Hz2 := Lib.hid hz2
    clear hi3 hz0 hz1 hz2
    go_enter Try.func91, Try.ntmps91
    go_wp2_with fail
    refine (at_any A n c id xs _ HI.out (by omega)).mono ?_
    rewrite [Hat.out]
    rintro e w1 ⟨rfl, hb1⟩
    have HB1 := Lib.hid hb1
    have hs1 := hb1.size
    clear hb1
    go_wp2_with fail
    refine (rcopyprogs_any A n c xs _ (HI.out.below HB1.out) HS.out).mono ?_
    rintro e w4 ⟨v4, ys, rfl, hym, hO4, -, hb4⟩
    have hyl : ys.length = n := by
      have := congrArg List.length hym
      simp at this
      rw [this]; exact Hln.out
    have HY := Lib.hid hym
    have HYL := Lib.hid hyl
    have HB4 := Lib.hid (HB1.out.trans (hb4.mono hs1))
    have hs4 := hb4.size
    have hs4w := HB4.out.size
    obtain ⟨A4, c4, hv4⟩ := hO4.1
    rw [hyl] at hv4
    subst hv4
    obtain ⟨g4, rfl, hg4, hg4w⟩ := own_some (by have := hO4.2.1; rw [hyl] at this; exact this) (show 0 < n by omega)
    have HO4 := Lib.hid (hO4.base (show w.heap.size ≤ w1.heap.size from hs1))
    clear hb4 hO4 hym hyl
    have hiy : i < ys.length := by rw [HYL.out]; exact hin
    obtain ⟨gg, oo, ee, -, z0, z1, z2, z3, z4, -, -⟩ := (HO4.out.is HYL.out).at_ hin
    injection ee with ee
    injection ee with ee1 ee2
    subst ee1 ee2
    simp only [Nat.zero_add] at z2 z3
    have hOr : w4.ownsRow w.heap.size 96 5 (.slice (some ⟨g4, 0, none⟩) n c4) n (progVals ys) := by have := HO4.out.2.1; rw [HYL.out] at this; exact this
    have fz2 := own_frozen hOr (i * 5 + 2)
    have fz3 := own_frozen hOr (i * 5 + 3)
    have hyid := map_getD hiy
    rw [HY.out, map_getD hixs] at hyid
    obtain ⟨y0, hy0⟩ : ∃ y, ys.getD i PrV.zero = y := ⟨_, rfl⟩
    rw [hy0] at z2 z3 hyid
    have Hy0 := Lib.hid hy0
    have Hyid := Lib.hid hyid
    -- the programs after the two stores
    have hO6 : OwnProgs ((w4.setCell ⟨g4, i * 5 + 2, none⟩ (.bool true)).setCell ⟨g4, i * 5 + 3, none⟩ (.slice none 0 0)) w.heap.size (.slice (some ⟨g4, 0, none⟩) n c4) ((ys.set i { ys.getD i PrV.zero with P := { (ys.getD i PrV.zero).P with dead := true } }).set i ⟨{ ((ys.set i { ys.getD i PrV.zero with P := { (ys.getD i PrV.zero).P with dead := true } }).getD i PrV.zero).P with pages := [] }, none, 0, ((ys.set i { ys.getD i PrV.zero with P := { (ys.getD i PrV.zero).P with dead := true } }).getD i PrV.zero).TA, ((ys.set i { ys.getD i PrV.zero with P := { (ys.getD i PrV.zero).P with dead := true } }).getD i PrV.zero).Tc⟩) :=
      (HO4.out.set_dead HYL.out hiy).set_pages (by simpa using HYL.out) (by simpa using hiy) rfl (World.ownsRow_nil _ _ _ _)
    have hgd : (ys.set i { ys.getD i PrV.zero with P := { (ys.getD i PrV.zero).P with dead := true } }).getD i PrV.zero = { ys.getD i PrV.zero with P := { (ys.getD i PrV.zero).P with dead := true } } := by
      simp [List.getD, hiy]
    rw [hgd, List.set_set] at hO6
    obtain ⟨zs, hzs⟩ : ∃ z, ys.set i ⟨{ ({ ys.getD i PrV.zero with P := { (ys.getD i PrV.zero).P with dead := true } } : PrV).P with pages := [] }, none, 0, ({ ys.getD i PrV.zero with P := { (ys.getD i PrV.zero).P with dead := true } } : PrV).TA, ({ ys.getD i PrV.zero with P := { (ys.getD i PrV.zero).P with dead := true } } : PrV).Tc⟩ = z := ⟨_, rfl⟩
    rw [hzs] at hO6
    have hzl : zs.length = n := by rw [← hzs]; simpa using HYL.out
    have hzm : zs.map PrV.P = (xs.map PrV.P).set i { (xs.getD i PrV.zero).P with dead := true, pages := [] } := by
      rw [← hzs, List.map_set, HY.out]
      congr 1
      dsimp only
      rw [Hy0.out, ← Hyid.out]
    have hsy : Small ys := by
      have h1 := HS.out
      refine ⟨by rw [HYL.out]; omega, fun y hy => ?_⟩
      have : y.P ∈ xs.map PrV.P := by rw [← HY.out]; exact List.mem_map_of_mem hy
      obtain ⟨x, hx, hxe⟩ := List.mem_map.1 this
      rw [← hxe]
      exact h1.2 x hx
    have hzS : Small zs := by
      rw [← hzs]
      exact small_set hsy (by simp) (hsy.2 _ (getD_mem ys PrV.zero hiy)).2
    have HO6 := Lib.hid hO6
    have HZL := Lib.hid hzl
    have HZM := Lib.hid hzm
    have HZS := Lib.hid hzS
    clear hO6 hgd hzs hzl hzm hsy hzS hyid hy0 z0 z1 z4 hOr hiy
    have hEnd : EndStep (xs.map PrV.P) (zs.map PrV.P) := ⟨i, _, Hpe.out, HZM.out⟩
    have HEnd := Lib.hid hEnd
    clear hEnd
    obtain ⟨⟨yi, yt, yd, yp, yo⟩, yA, yc, yTA, yTc⟩ := y0
    dsimp only at z2 z3
    go_wp2_with fail
    have hBs : Below w.heap.size w ((w4.setCell ⟨g4, i * 5 + 2, none⟩ (.bool true)).setCell ⟨g4, i * 5 + 3, none⟩ (.slice none 0 0)) := by have := HB4.out; (repeat' (first | (with_reducible exact Below.refl _ _) | (with_reducible assumption) | (with_reducible refine Below.alloc ?_ ?_ _) | (with_reducible refine Below.drew ?_) | (with_reducible refine below_drewN ?_ _) | (with_reducible refine Below.setCell ?_ ?_ _) | (with_reducible exact Nat.le_refl _) | omega | (simp <;> omega)))
    obtain ⟨ws, hws⟩ : ∃ q : World, (w4.setCell ⟨g4, i * 5 + 2, none⟩ (.bool true)).setCell ⟨g4, i * 5 + 3, none⟩ (.slice none 0 0) = q := ⟨_, rfl⟩
    have hsz : ws.heap.size = w4.heap.size := by rw [← hws]; simp
    rw [hws] at hBs
    have HO6 := HO6.out
    rw [hws] at HO6
    have HO6 := Lib.hid HO6
    have HBs := Lib.hid hBs
    rewrite [hws]
    clear hws hBs z2 z3 fz2 fz3
    have hss := HBs.out.size
    go_loopw [9, 26] (fun v i wr => ∃ (k : Nat) (L : List Int), k ≤ 64 ∧ i = .int .i64 k ∧ L.length ≤ k ∧ Hid (wr.ownsRow ws.heap.size 3 1 v L.length (numVals L)) ∧ Below ws.heap.size ws wr) (fun _ i _ => 64 - (intOf i).toNat)
    case atStart => exact ⟨0, [], by omega, rfl, by simp, World.ownsRow_nil _ _ _ _, Below.refl _ _⟩
    case round =>
      obtain ⟨k, L, hk, rfl, hL, HO, hB⟩ := hrel
      have hsr := hB.size
      by_cases hlt : k < 64
      · have hlt' : (k : Int) < 64 := by omega
        have HIr := Lib.hid (HI.out.below (HBs.out.trans (hB.mono hss)))
        obtain ⟨U, hU⟩ : ∃ U, usersN (xs.map PrV.P) (k : Int) = U := ⟨_, rfl⟩
        have HU := Lib.hid hU
        clear hU
        go_wp2_with fail
        refine (rusers_any A n c (k : Int) xs _ (HIr.out) HS.out).mono ?_
        rewrite [HU.out]
        rintro e w5 ⟨A5, c5, rfl, hb5⟩
        have hB5 : Below ws.heap.size ws w5 := hB.trans (hb5.mono hsr)
        have HO5 := Lib.hid (ownsRow_below HO.out hb5)
        have hs5 := hB5.size
        clear hb5
        by_cases hU0 : 0 < U
        · have hU0' : (0 : Int) < (U : Int) := by omega
          have HZr := Lib.hid ((HO6.out.below hB5).is HZL.out)
          obtain ⟨V, hV⟩ : ∃ V, usersN (zs.map PrV.P) (k : Int) = V := ⟨_, rfl⟩
          have HV := Lib.hid hV
          clear hV
          go_wp2_with fail
          refine (runused_any _ n c4 (k : Int) zs _ (HZr.out) HZS.out).mono ?_
          rewrite [HV.out]
          by_cases hV0 : 0 < V
          · rewrite [if_pos hV0]
            rintro e w6 ⟨rfl, hb6⟩
            have hB6 : Below ws.heap.size ws w6 := hB5.trans (hb6.mono hs5)
            have HO6' := Lib.hid (ownsRow_below HO5.out hb6)
            clear hb6
            go_wp2_with fail
            go_roundw
            case rel => exact ⟨k + 1, L, by omega, by go_num, by omega, HO6'.out, hB6⟩
            case measure => simp [intOf]; omega
          · rewrite [if_neg hV0]
            rintro e w6 ⟨rfl, hb6⟩
            have hB6 : Below ws.heap.size ws w6 := hB5.trans (hb6.mono hs5)
            have HO6' := Lib.hid (ownsRow_below HO5.out hb6)
            have hs6 := hB6.size
            have hk0 : (0 : Int) ≤ (k : Int) := by omega
            clear hb6
            go_wp2_with (first
              | (at_builtin; refine wpList_append_has _ rfl (.tmp 40) (.tmp 42) 23 rfl ws.heap.size 3 i3 _ 1 8 Try.underlying23 Hi.out Hz0.out Hz1.out Hz2.out rfl (by decide) _ _ _ rfl (own_new HO6'.out _) _ 1 1 (numVals [(k : Int)]) rfl (Has.lit_at _ _ _ 1 1 _ _ rfl (by (first | (with_reducible exact Nat.le_refl _) | (with_reducible assumption) | omega | (simp <;> omega))) rfl) (numVals_one _) (by unfold maxLen; omega) (by omega) (by (first | (with_reducible exact Nat.le_refl _) | (with_reducible assumption) | omega | (simp <;> omega))) ?_; intro v7 w7 h7 hg7 _))
            go_roundw
            case rel =>
              refine ⟨k + 1, L ++ [(k : Int)], by omega, by go_num, by simp; omega, ?_, ?_⟩
              · show World.ownsRow _ _ _ _ _ _ _
                simpa [numVals] using h7
              · exact (show Below ws.heap.size ws _ by (repeat' (first | (with_reducible exact Below.refl _ _) | (with_reducible assumption) | (with_reducible refine Below.alloc ?_ ?_ _) | (with_reducible refine Below.drew ?_) | (with_reducible refine below_drewN ?_ _) | (with_reducible refine Below.setCell ?_ ?_ _) | (with_reducible exact Nat.le_refl _) | omega | (simp <;> omega)))).grown hg7 (by (first | (with_reducible exact Nat.le_refl _) | (with_reducible assumption) | omega | (simp <;> omega))) fun b hb => (HO6'.out.lt b hb).1
            case measure => simp [intOf]; omega
        · go_wp2_with fail
          go_roundw
          case rel => exact ⟨k + 1, L, by omega, by go_num, by omega, HO5.out, hB5⟩
          case measure => simp [intOf]; omega
      · have hge : 64 ≤ k := by omega
        clear hlt
        have hB6 := HBs.out.trans (hB.mono hss)
        have hO9 := HO6.out.below hB
        go_wp2_with fail
        refine bodyPost_ret (by simp [results, Try.results91, go_sem, *]; rfl) rfl ?_
        exact ⟨_, _, _, zs, rfl, fun _ => ⟨hO9, HEnd.out⟩, hB6⟩
end Go.Proofs.Ytjlmgjpnfppkoaa
