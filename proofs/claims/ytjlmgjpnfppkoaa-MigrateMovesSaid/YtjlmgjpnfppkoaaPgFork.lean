/-
  Programs, walked: a program forks (the reference).
-/
import Derived.LoopTactic
import Derived.Deep.CutBlock
import Derived.Deep.DeepCutAuto
import Derived.Test.YtjlmgjpnfppkoaaPgAid
namespace Go.Proofs.Ytjlmgjpnfppkoaa
open Go.RowKit
attribute [local go_sem ↓] Go.wp_at_zero Go.wp_at_succ

def shr1 (x : PgD) : PgD := { x with sh := true }
def shK (k : Nat) (p : PrD) : PrD := { p with pages := (p.pages.take k).map shr1 ++ p.pages.drop k }
theorem shK_zero (p : PrD) : shK 0 p = p := by simp [shK]
theorem shK_all {p : PrD} {k : Nat} (h : p.pages.length ≤ k) : shK k p = shareP p := by
  simp [shK, shareP, shr1, List.take_of_length_le h, List.drop_of_length_le h]
theorem shK_len (k : Nat) (p : PrD) : (shK k p).pages.length = p.pages.length := by
  simp [shK]; omega
theorem shK_get {p : PrD} {k : Nat} (h : k < p.pages.length) : (shK k p).pages.getD k PgD.zero = p.pages.getD k PgD.zero := by
  have hl : ((p.pages.take k).map shr1).length = k := by simp; omega
  simp only [shK, List.getD]
  rw [List.getElem?_append_right (by rw [hl]; exact Nat.le_refl _), hl, Nat.sub_self, List.getElem?_drop]
  simp
theorem shK_step {p : PrD} {k : Nat} (h : k < p.pages.length) : shK (k + 1) p = { p with pages := (shK k p).pages.set k (shr1 (p.pages.getD k PgD.zero)) } := by
  have hl : ((p.pages.take k).map shr1).length = k := by simp; omega
  have hd : p.pages.drop k = p.pages[k] :: p.pages.drop (k + 1) := List.drop_eq_getElem_cons h
  have hg : p.pages.getD k PgD.zero = p.pages[k] := by simp [List.getD, List.getElem?_eq_getElem h]
  have ht : p.pages.take (k + 1) = p.pages.take k ++ [p.pages[k]] := by rw [List.take_add_one, List.getElem?_eq_getElem h]; rfl
  simp only [shK, hg]
  rw [List.set_append_right _ _ (by rw [hl]; exact Nat.le_refl _), hl, Nat.sub_self, hd, List.set_cons_zero, ht, List.map_append, List.append_assoc]
  rfl
theorem id_set {ps : List PrD} {i : Nat} {p : PrD} (h : ps[i]? = some p) (j : Nat) : ((ps.set i (shareP p)).getD j PrD.zero).id = (ps.getD j PrD.zero).id := by
  simp only [List.getD, List.getElem?_set]
  split
  · rename_i e
    subst e
    have hi : i < ps.length := (List.getElem?_eq_some_iff.1 h).1
    rw [if_pos hi, h]
    rfl
  · rfl

set_option maxRecDepth 100000 in
set_option maxHeartbeats 16000000 in
theorem rfork_any (B0 : Nat) (A : Option Addr) (n c : Nat) (id o N : Int) (xs : List PrV) (w : World) (h : OwnProgs w B0 (.slice A n c) xs) (hln : xs.length = n) (hI : Inv N (xs.map PrV.P)) :
    Calls Try.prog 90 #[.slice A n c, .int .i64 id, .int .i64 o] w fun e w' => ∃ v E ys, e = .returned (.tuple #[v, .int .i64 E]) ∧ (E = 0 → OwnProgs w' w.heap.size v ys ∧ ForkStep (xs.map PrV.P) o (ys.map PrV.P)) ∧ Below w.heap.size w w' := by
  have HI := Lib.hid (h.is hln)
  have HS := Lib.hid (inv_small hI)
  have HInv := Lib.hid hI
  have hn : n ≤ 8 := by have := hI.1; rw [List.length_map] at this; omega
  have Hln := Lib.hid hln
  clear h hI hln
  rcases at_cases (xs.map PrV.P) id with hat | ⟨i, hat, hil, hid, hdead⟩
  · have Hat := Lib.hid hat
    clear hat
    go_enter Try.func90, Try.ntmps90
    go_wp2_with fail
    refine (at_any A n c id xs _ HI.out (by omega)).mono ?_
    rewrite [Hat.out]
    rintro e w1 ⟨rfl, hb1⟩
    go_wp2_with fail
    go_ret2
    exact ⟨_, _, [], rfl, fun hE => (by cases hE), hb1⟩
  · have Hat := Lib.hid hat
    have hixs : i < xs.length := by simpa using hil
    have hin : i < n := by rw [← Hln.out]; exact hixs
    have hpe : (xs.map PrV.P)[i]? = some (xs.getD i PrV.zero).P := by
      rw [List.getElem?_eq_getElem hil]; simp [List.getD, List.getElem?_eq_getElem hixs]
    have hdd : (xs.getD i PrV.zero).P.dead = false := by
      have : (xs.map PrV.P)[i] = (xs.getD i PrV.zero).P := by simp [List.getD, List.getElem?_eq_getElem hixs]
      rw [← this]; exact hdead
    have Hpe := Lib.hid hpe
    have Hdd := Lib.hid hdd
    have hin' : (i : Int) < (n : Int) := by omega
    have hi0 : (0 : Int) ≤ (i : Int) := by omega
    clear hat hid hdead hpe hdd
    by_cases ho : 1 ≤ o ∧ o ≤ 999
    · obtain ⟨o1, o9⟩ := ho
      go_enter Try.func90, Try.ntmps90
      go_wp2_with fail
      refine (at_any A n c id xs _ HI.out (by omega)).mono ?_
      rewrite [Hat.out]
      rintro e w1 ⟨rfl, hb1⟩
      have HB1 := Lib.hid hb1
      have hs1 := hb1.size
      clear hb1
      go_wp2_with fail
      go_loopw [28] (fun ii wr => ∃ k : Nat, k ≤ n ∧ ii = .int .i64 k ∧ Hid (∀ j, j < k → (xs.getD j PrV.zero).P.id ≠ o) ∧ Below w.heap.size w wr) (fun ii _ => n - (intOf ii).toNat)
      case atStart => exact ⟨0, by omega, rfl, fun j hj => absurd hj (by omega), HB1.out⟩
      case round =>
        obtain ⟨k, hk, rfl, Hno, hB⟩ := hrel
        obtain ⟨wo, rfl⟩ : ∃ wo : World, wo = wr := ⟨_, rfl⟩
        have hsz := hB.size
        by_cases hlt : k < n
        · have hlt' : (k : Int) < (n : Int) := by omega
          obtain ⟨b, off, rfl, hb, d0, d1, d2, d3, d4, -, -⟩ := HI.out.at_ hlt
          have g0 := cellK hB hb d0
          have g1 := cellK hB hb d1
          have g2 := cellK hB hb d2
          have g3 := cellK hB hb d3
          have g4 := cellK hB hb d4
          obtain ⟨x, hx⟩ : ∃ x, xs.getD k PrV.zero = x := ⟨_, rfl⟩
          rw [hx] at g0 g1 g2 g3 g4
          obtain ⟨⟨pid, te, de, pgs, told⟩, PA, Pc, TA, Tc⟩ := x
          dsimp only at g0 g1 g2 g3 g4
          have Hx := Lib.hid hx
          clear d0 d1 d2 d3 d4 hx
          by_cases hpo : pid = o
          · have hpo' : (pid == o) = true := by simp [hpo]
            clear hpo
            go_wp2_with fail
            go_ret2
            exact ⟨_, _, [], rfl, fun hE => (by cases hE), by (repeat' (first | (with_reducible exact Below.refl _ _) | (with_reducible assumption) | (with_reducible refine Below.alloc ?_ ?_ _) | (with_reducible refine Below.drew ?_) | (with_reducible refine below_drewN ?_ _) | (with_reducible refine Below.setCell ?_ ?_ _) | (with_reducible exact Nat.le_refl _) | omega | (simp <;> omega)))⟩
          · have hpo' : (pid == o) = false := by simp [hpo]
            have Hpo := Lib.hid hpo
            clear hpo
            go_wp2_with fail
            go_roundw
            case rel =>
              refine ⟨k + 1, by omega, by go_num, fun j hj => ?_, by (repeat' (first | (with_reducible exact Below.refl _ _) | (with_reducible assumption) | (with_reducible refine Below.alloc ?_ ?_ _) | (with_reducible refine Below.drew ?_) | (with_reducible refine below_drewN ?_ _) | (with_reducible refine Below.setCell ?_ ?_ _) | (with_reducible exact Nat.le_refl _) | omega | (simp <;> omega)))⟩
              by_cases hjk : j = k
              · rw [hjk, Hx.out]; exact Hpo.out
              · exact Hno.out j (by omega)
            case measure => simp [intOf]; omega
        · have hkn : k = n := by omega
          have HNO : Hid (∀ j, j < n → (xs.getD j PrV.zero).P.id ≠ o) := by rw [← hkn]; exact Hno
          have hge : ¬ k < n := hlt
          have hkn2 : decide ((k : Int) < (n : Int)) = false := by simp; omega
          clear hlt hkn
          by_cases hn8 : 8 ≤ n
          · go_wp2_with fail
            go_ret2
            exact ⟨_, _, [], rfl, fun hE => (by cases hE), hB⟩
          · go_wp2_with fail
            refine (rcopyprogs_any A n c xs _ (HI.out.below hB) HS.out).mono ?_
            rintro e w2 ⟨v, ys, rfl, hym, hO2, hA2, hb2⟩
            have hyl : ys.length = n := by have := congrArg List.length hym; simp at this; rw [this]; exact Hln.out
            obtain ⟨A2, c2, hv2⟩ := hO2.1
            rw [hyl] at hv2
            subst hv2
            have HO2 := Lib.hid (hO2.base hsz)
            have HA2 := Lib.hid hA2
            have HYM := Lib.hid hym
            have HYL := Lib.hid hyl
            have hB2 := hB.trans (hb2.mono hsz)
            obtain ⟨g, rfl, hg1, hg2⟩ := own_some (by have := hO2.2.1; rw [hyl] at this; exact this) (show 0 < n by omega)
            clear hym hO2 hA2 hb2 hyl
            obtain ⟨gg, oo, ee, -, z0, z1, z2, z3, z4, -, -⟩ := (HO2.out.is HYL.out).at_ hin
            injection ee with ee
            injection ee with ee1 ee2
            subst ee1 ee2
            simp only [Nat.zero_add] at z3
            have hyi : (ys.getD i PrV.zero).P = (xs.getD i PrV.zero).P := by
              rw [← map_getD (by rw [HYL.out]; exact hin), HYM.out, map_getD hixs]
            obtain ⟨p, hp⟩ : ∃ p, (xs.getD i PrV.zero).P = p := ⟨_, rfl⟩
            obtain ⟨y, hy⟩ : ∃ y, ys.getD i PrV.zero = y := ⟨_, rfl⟩
            obtain ⟨M, hM⟩ : ∃ M, p.pages.length = M := ⟨_, rfl⟩
            have hM16 : M ≤ 16 := by
              have := (HInv.out.2.1 _ (List.mem_of_getElem? Hpe.out)).2.2.2.1
              rw [hp, hM] at this; exact this
            rw [hp] at hyi
            rw [hy] at z3 hyi
            rw [hyi, hM] at z3
            obtain ⟨yP, yA, yc, yTA, yTc⟩ := y
            dsimp only at z3 hyi
            have HP := Lib.hid hp
            have HM := Lib.hid hM
            have HYi := Lib.hid hyi
            clear z0 z1 z2 z4 hp hy hM hyi
            go_wp2_with fail
            go_loopw [48] (fun ii wr => ∃ (k : Nat) (zs : List PrV), k ≤ M ∧ ii = .int .i64 k ∧ Hid (zs.length = n) ∧ Hid (zs.map PrV.P = (xs.map PrV.P).set i (shK k p)) ∧ Hid (OwnProgs wr w.heap.size (.slice (some ⟨g, 0, none⟩) n c2) zs) ∧ Hid (Apart zs) ∧ Below w.heap.size w wr) (fun ii _ => M - (intOf ii).toNat)
            case atStart =>
              refine ⟨0, ys, by omega, rfl, HYL.out, ?_, HO2.out, HA2.out, hB2⟩
              show _ = _
              rw [shK_zero, HYM.out, ← HP.out]
              refine (List.ext_getElem? fun j => ?_)
              rw [List.getElem?_set]
              split
              · rename_i e; subst e; simp [hixs, List.getD]
              · rfl
            case round =>
              obtain ⟨q, zs, hq, rfl, HZL, HZM, HZO, HZA, hBz⟩ := hrel
              have hszz := hBz.size
              by_cases hqM : q < M
              · have hqM' : (q : Int) < (M : Int) := by omega
                have hq0 : (0 : Int) ≤ (q : Int) := by omega
                have hiz : i < zs.length := by rw [HZL.out]; exact hin
                have hqp : q < p.pages.length := by rw [HM.out]; exact hqM
                obtain ⟨gg, oo, ee, hgw, -, -, -, y3, -, hPg, -⟩ := (HZO.out.is HZL.out).at_ hin
                injection ee with ee
                injection ee with ee1 ee2
                subst ee1 ee2
                simp only [Nat.zero_add] at y3
                have hrow := (HZO.out.2.2 _ (getD_mem zs PrV.zero hiz)).1
                have hzi : (zs.getD i PrV.zero).P = shK q p := by
                  rw [← map_getD hiz, HZM.out]
                  simp [List.getD, hixs]
                rw [hzi, shK_len, HM.out] at y3 hrow hPg
                obtain ⟨pb, hpA, hpb1, hpb2⟩ := own_some hrow (by omega)
                have HpA := Lib.hid hpA
                rw [hpA] at y3 hrow hPg
                obtain ⟨pb', po, pe, -, -, -, p2⟩ := hPg.page_at hqM
                injection pe with pe
                injection pe with pe1 pe2
                subst pe1 pe2
                simp only [Nat.zero_add] at p2
                have fp := own_frozen hrow (q * 3 + 2)
                have Hzi := Lib.hid hzi
                clear hrow hpA hzi hPg
                go_wp2_with fail
                go_roundw
                case rel =>
                  have hset := HZO.out.set_shared HZA.out hiz (k := q) (f := true) HpA.out
                  have hst := HZA.out.set i { (zs.getD i PrV.zero).P with pages := (zs.getD i PrV.zero).P.pages.set q { (zs.getD i PrV.zero).P.pages.getD q PgD.zero with sh := true } }
                  refine ⟨q + 1, _, by omega, by go_num, ?_, ?_, hset, hst, hBz.setCell (by show w.heap.size ≤ pb; omega) _⟩
                  · show _ = _; rw [List.length_set]; exact HZL.out
                  · show _ = _
                    rw [List.map_set, HZM.out, List.set_set, Hzi.out]
                    dsimp only
                    rw [shK_get hqp, shK_step hqp]
                    rfl
                case measure => simp [intOf]; omega
              · have hqM2 : q = M := by omega
                have hqM3 : M ≤ q := by omega
                have hSh : Hid (zs.map PrV.P = (xs.map PrV.P).set i (shareP p)) := by
                  show _ = _
                  rw [HZM.out, shK_all (by rw [HM.out]; omega)]
                clear hqM HZM hqM2
                obtain ⟨gg, oo, ee, hgw, -, -, -, y3, -, hPg, -⟩ := (HZO.out.is HZL.out).at_ hin
                injection ee with ee
                injection ee with ee1 ee2
                subst ee1 ee2
                simp only [Nat.zero_add] at y3
                have hiz : i < zs.length := by rw [HZL.out]; exact hin
                have hzi : (zs.getD i PrV.zero).P = shareP p := by
                  rw [← map_getD hiz, hSh.out]
                  simp [List.getD, hixs]
                have hsl : (shareP p).pages.length = M := by rw [← HM.out]; simp [shareP]
                rw [hzi, hsl] at y3 hPg
                obtain ⟨zA, hzA⟩ : ∃ z, (zs.getD i PrV.zero).A = z := ⟨_, rfl⟩
                obtain ⟨zc, hzc⟩ : ∃ z, (zs.getD i PrV.zero).c = z := ⟨_, rfl⟩
                rw [hzA] at y3 hPg
                rw [hzc] at y3
                have HPg := Lib.hid hPg
                obtain ⟨b, off, rfl, hb, -, d1, -, -, -, -, -⟩ := HI.out.at_ hin
                have g1 := cellK hBz hb d1
                rw [HP.out] at g1
                obtain ⟨te, hte⟩ : ∃ t, p.tells = t := ⟨_, rfl⟩
                rw [hte] at g1
                clear hPg hzi hzA hzc d1 hsl hte
                have lbz := Nat.lt_of_lt_of_le hb hszz
                have hgz : w.heap.size ≤ g := by omega
                go_upto_region 20 with fail
                go_cut [13] (fun s13 wx => ∃ (gx : Nat) (A5 : Option Addr) (c5 : Nat), s13 = .pointer (some ⟨gx, 0, none⟩) ∧ wr.heap.size ≤ gx ∧ gx < wx.heap.size ∧ wx.cell? ⟨gx, 0, none⟩ = some (.int .i64 o) ∧ wx.cell? ⟨gx, 1, none⟩ = some (.bool te) ∧ wx.cell? ⟨gx, 2, none⟩ = some (.bool false) ∧ wx.cell? ⟨gx, 3, none⟩ = some (.slice A5 M c5) ∧ wx.cell? ⟨gx, 4, none⟩ = some (.slice none 0 0) ∧ Hid (wx.ownsRow wr.heap.size 98 3 (.slice A5 M c5) M (pgVals (shareP p).pages)) ∧ Below wr.heap.size wr wx)
                case first =>
                  go_region_held3 (fun w' => w'.cell? ⟨b, off + i * 5 + 1, none⟩ = some (.bool te) ∧ w'.cell? ⟨g, i * 5 + 3, none⟩ = some (.slice zA M zc)) (simp [go_sem, *]) (first
                    | (refine step_copy_pages (by rfl) (.const (.slice none 0 0)) (.tmp 70) (by rfl) (by rfl) zA M zc (shareP p).pages (by rfl) (HPg.out.below (by (repeat' (first | (with_reducible exact Below.refl _ _) | (with_reducible assumption) | (with_reducible refine Below.alloc ?_ ?_ _) | (with_reducible refine Below.drew ?_) | (with_reducible refine below_drewN ?_ _) | (with_reducible refine Below.setCell ?_ ?_ _) | (with_reducible exact Nat.le_refl _) | omega | (simp <;> omega))))) (by omega) ?_; intro A5 c5 w5 hown5 hb5; have hB5 := (show Below wr.heap.size wr _ by (repeat' (first | (with_reducible exact Below.refl _ _) | (with_reducible assumption) | (with_reducible refine Below.alloc ?_ ?_ _) | (with_reducible refine Below.drew ?_) | (with_reducible refine below_drewN ?_ _) | (with_reducible refine Below.setCell ?_ ?_ _) | (with_reducible exact Nat.le_refl _) | omega | (simp <;> omega)))).trans (hb5.mono (show wr.heap.size ≤ _ by (first | (with_reducible exact Nat.le_refl _) | (with_reducible assumption) | omega | (simp <;> omega)))); have hs5 := hB5.size; have g15 := cellK hB5 (Nat.lt_of_lt_of_le hb hszz) g1; have y35 := cellK hB5 hgw y3; have hs5b := hb5.size; (try simp only [World.size_alloc, World.size_drew] at hs5b); have lb5 := Nat.lt_of_lt_of_le (Nat.lt_of_lt_of_le hb hszz) hs5; have lg5 := Nat.lt_of_lt_of_le hgw hs5; (try (obtain ⟨q58, r58⟩ := bkeep hb5 wr.heap.size (by (first | (with_reducible exact Nat.le_refl _) | (with_reducible assumption) | omega | (simp <;> omega))); have l58 : wr.heap.size < w5.heap.size := (by omega)))))
                  all_goals (go_wp2_with fail)
                  · go_meet
                    have ho5 : w5.ownsRow wr.heap.size 98 3 (.slice A5 M c5) M (pgVals (shareP p).pages) := hown5
                    exact ⟨_, A5, c5, rfl, by (first | (with_reducible exact Nat.le_refl _) | (with_reducible assumption) | omega | (simp <;> omega)), by (first | (with_reducible exact Nat.le_refl _) | (with_reducible assumption) | omega | (simp <;> omega)), by simp [go_sem, *], by simp [go_sem, *], by simp [go_sem, *], by simp [go_sem, *], by simp [go_sem, *], own_new ho5 _, by (repeat' (first | (with_reducible exact Below.refl _ _) | (with_reducible assumption) | (with_reducible refine Below.alloc ?_ ?_ _) | (with_reducible refine Below.drew ?_) | (with_reducible refine below_drewN ?_ _) | (with_reducible refine Below.setCell ?_ ?_ _) | (with_reducible exact Nat.le_refl _) | omega | (simp <;> omega)))⟩
                  · go_meet
                    have ho5 : w5.ownsRow (wr.heap.size + 1) 98 3 (.slice A5 M c5) M (pgVals (shareP p).pages) := by simpa using hown5
                    exact ⟨_, A5, c5, rfl, by (first | (with_reducible exact Nat.le_refl _) | (with_reducible assumption) | omega | (simp <;> omega)), by (first | (with_reducible exact Nat.le_refl _) | (with_reducible assumption) | omega | (simp <;> omega)), by simp [go_sem, *], by simp [go_sem, *], by simp [go_sem, *], by simp [go_sem, *], by simp [go_sem, *], by show World.ownsRow _ _ _ _ _ _ _; refine ownsRow_base (B := wr.heap.size + 1) ?_ (by omega); (repeat' (first | (with_reducible assumption) | (with_reducible refine own_put ?_ ?_ _) | (with_reducible refine own_new ?_ _) | (with_reducible refine own_drew ?_) | (with_reducible refine own_drewN ?_ _) | omega)), by (repeat' (first | (with_reducible exact Below.refl _ _) | (with_reducible assumption) | (with_reducible refine Below.alloc ?_ ?_ _) | (with_reducible refine Below.drew ?_) | (with_reducible refine below_drewN ?_ _) | (with_reducible refine Below.setCell ?_ ?_ _) | (with_reducible exact Nat.le_refl _) | omega | (simp <;> omega)))⟩
                case rest =>
                  obtain ⟨gx, A5, c5, rfl, hgx, hgxw, x0, x1, x2, x3, x4, HO5, hB5⟩ := hcut
                  have HOx := Lib.hid (HZO.out.below hB5)
                  have HBx := Lib.hid (hBz.trans (hB5.mono hszz))
                  have hsx := HBx.out.size
                  have hs5 := hB5.size
                  have hHas := Has.of_own (show wc.ownsRow w.heap.size 96 5 (.slice (some ⟨g, 0, none⟩) n c2) n (progVals zs) by have := HOx.out.2.1; rw [HZL.out] at this; exact this)
                  have hc2 : n ≤ c2 := row_cap (show wc.ownsRow w.heap.size 96 5 (.slice (some ⟨g, 0, none⟩) n c2) n (progVals zs) by have := HOx.out.2.1; rw [HZL.out] at this; exact this)
                  have hc2' : (n : Int) ≤ (c2 : Int) := by omega
                  have HHas := Lib.hid hHas
                  have hsl : (shareP p).pages.length = M := by rw [← HM.out]; simp [shareP]
                  have Hsl := Lib.hid hsl
                  have Hch : Hid ([.int .i64 o, .bool te, .bool false, .slice A5 M c5, .slice none 0 0] = progVals [⟨⟨o, te, false, (shareP p).pages, []⟩, A5, c5, none, 0⟩]) := by
                    show _ = _
                    simp [progVals, hsl]
                  have Hx0 := Lib.hid x0
                  have Hx1 := Lib.hid x1
                  have Hx2 := Lib.hid x2
                  have Hx3 := Lib.hid x3
                  have Hx4 := Lib.hid x4
                  clear g1 y3 hHas hsl x0 x1 x2 x3 x4
                  obtain ⟨wb, rfl⟩ : ∃ wb : World, wb = wc := ⟨_, rfl⟩
                  go_upto_block 4 with fail
                  go_cut [14] (fun s14 wx => ∃ k2 : Nat, s14 = .int .i64 k2 ∧ k2 ≤ n ∧ Hid (∀ j, j < k2 → (zs.getD j PrV.zero).P.id < o) ∧ Hid (k2 < n → ¬ (zs.getD k2 PrV.zero).P.id < o) ∧ wx = wb)
                  case first =>
                    go_wp2_with fail
                    go_loop [14] (fun ii => ∃ k2 : Nat, k2 ≤ n ∧ ii = .int .i64 k2 ∧ Hid (∀ j, j < k2 → (zs.getD j PrV.zero).P.id < o)) (fun ii => n - (intOf ii).toNat)
                    case atStart => exact ⟨0, by omega, rfl, fun j hj => absurd hj (by omega)⟩
                    case round =>
                      obtain ⟨k2, hk2, rfl, Hlo⟩ := hrel
                      have hk20 : (0 : Int) ≤ (k2 : Int) := by omega
                      by_cases hlt2 : k2 < n
                      · have hlt2' : (k2 : Int) < (n : Int) := by omega
                        obtain ⟨gg, oo, ee, -, y0, -, -, -, -, -, -⟩ := (HOx.out.is HZL.out).at_ hlt2
                        injection ee with ee
                        injection ee with ee1 ee2
                        subst ee1 ee2
                        simp only [Nat.zero_add] at y0
                        obtain ⟨pid, hpid⟩ : ∃ z, (zs.getD k2 PrV.zero).P.id = z := ⟨_, rfl⟩
                        rw [hpid] at y0
                        have Hpid := Lib.hid hpid
                        clear hpid
                        by_cases hpo : pid < o
                        · go_wp2_with fail
                          go_round
                          case rel =>
                            refine ⟨k2 + 1, by omega, by go_num, fun j hj => ?_⟩
                            by_cases hjk : j = k2
                            · rw [hjk, Hpid.out]; exact hpo
                            · exact Hlo.out j (by omega)
                          case measure => simp [intOf]; omega
                        · go_wp2_with fail
                          go_meet
                          exact ⟨k2, rfl, by omega, Hlo.out, fun _ => (by rw [Hpid.out]; exact hpo), rfl⟩
                      · have hkn2' : decide ((k2 : Int) < (n : Int)) = false := by simp; omega
                        go_wp2_with fail
                        go_meet
                        exact ⟨k2, rfl, by omega, Hlo.out, fun h => absurd h hlt2, rfl⟩
                  case rest =>
                    obtain ⟨k2, rfl, hk2, Hlo, Hhi, rfl⟩ := hcut
                    have hk20 : (0 : Int) ≤ (k2 : Int) := by omega
                    have hk2n : (k2 : Int) ≤ (n : Int) := by omega
                    have hk2c : (k2 : Int) ≤ (c2 : Int) := by omega
                    have Hpf := Lib.hid (progs_from HHas.out hk2 hc2)
                    have Hpt := Lib.hid (progs_take HHas.out hk2)
                    have x0 := Hx0.out
                    have x1 := Hx1.out
                    have x2 := Hx2.out
                    have x3 := Hx3.out
                    have x4 := Hx4.out
                    go_wp2_with fail
                    go_region_held3 (fun w' => w'.cell? ⟨gx, 0, none⟩ = some (.int .i64 o) ∧ w'.cell? ⟨gx, 1, none⟩ = some (.bool te) ∧ w'.cell? ⟨gx, 2, none⟩ = some (.bool false) ∧ w'.cell? ⟨gx, 3, none⟩ = some (.slice A5 M c5) ∧ w'.cell? ⟨gx, 4, none⟩ = some (.slice none 0 0)) (simp [go_sem, *]) (first
                      | (refine step_copy_progs (by rfl) (.const (.slice none 0 0)) (.tmp 90) (by rfl) (by rfl) _ _ _ (zs.take k2) (by rfl) (Hpt.out.below (by (repeat' (first | (with_reducible exact Below.refl _ _) | (with_reducible assumption) | (with_reducible refine Below.alloc ?_ ?_ _) | (with_reducible refine Below.drew ?_) | (with_reducible refine below_drewN ?_ _) | (with_reducible refine Below.setCell ?_ ?_ _) | (with_reducible exact Nat.le_refl _) | omega | (simp <;> omega))))) (by omega) ?_; intro A8 c8 w8 hown8 hb8; have hB8 := (show Below wc.heap.size wc _ by (repeat' (first | (with_reducible exact Below.refl _ _) | (with_reducible assumption) | (with_reducible refine Below.alloc ?_ ?_ _) | (with_reducible refine Below.drew ?_) | (with_reducible refine below_drewN ?_ _) | (with_reducible refine Below.setCell ?_ ?_ _) | (with_reducible exact Nat.le_refl _) | omega | (simp <;> omega)))).trans (hb8.mono (show wc.heap.size ≤ _ by (first | (with_reducible exact Nat.le_refl _) | (with_reducible assumption) | omega | (simp <;> omega)))); have hs8 := hB8.size; have lx8 := Nat.lt_of_lt_of_le hgxw hs8; have x08 := cellK hB8 hgxw x0; have x18 := cellK hB8 hgxw x1; have x28 := cellK hB8 hgxw x2; have x38 := cellK hB8 hgxw x3; have x48 := cellK hB8 hgxw x4; have hown8' := ownsRow_base hown8 (show wc.heap.size ≤ _ by (first | (with_reducible exact Nat.le_refl _) | (with_reducible assumption) | omega | (simp <;> omega))); (try (have hx8 := (Has.lit_at wc.drew #[.int .i64 o, .bool te, .bool false, .slice A5 M c5, .slice none 0 0] 96 1 5 wc.heap.size (progVals [⟨⟨o, te, false, (shareP p).pages, []⟩, A5, c5, none, 0⟩]) rfl rfl Hch.out).below hb8)))
                      | (refine step_add_progs (by rfl) (.tmp 91) (.tmp 93) (by rfl) wc.heap.size _ k2 _ (zs.take k2) (by rfl) (by have ho := hown8'; (repeat' (first | (with_reducible assumption) | (with_reducible refine own_put ?_ ?_ _) | (with_reducible refine own_new ?_ _) | (with_reducible refine own_drew ?_) | (with_reducible refine own_drewN ?_ _) | omega))) _ 1 1 [⟨⟨o, te, false, (shareP p).pages, []⟩, A5, c5, none, 0⟩] (by rfl) (by first | exact hx8 | exact Has.lit_at _ _ _ 1 5 _ _ rfl (by (first | (with_reducible exact Nat.le_refl _) | (with_reducible assumption) | omega | (simp <;> omega))) Hch.out) (by omega) (by omega) (by (first | (with_reducible exact Nat.le_refl _) | (with_reducible assumption) | omega | (simp <;> omega))) ?_; intro A9 c9 w9 hown9 hg9 hb9; have hB9 := (show Below wc.heap.size wc _ by (repeat' (first | (with_reducible exact Below.refl _ _) | (with_reducible assumption) | (with_reducible refine Below.alloc ?_ ?_ _) | (with_reducible refine Below.drew ?_) | (with_reducible refine below_drewN ?_ _) | (with_reducible refine Below.setCell ?_ ?_ _) | (with_reducible exact Nat.le_refl _) | omega | (simp <;> omega)))).trans hb9; have hs9 := hB9.size; have lx9 := Nat.lt_of_lt_of_le hgxw hs9; have x09 := cellK hB9 hgxw x0; have x19 := cellK hB9 hgxw x1; have x29 := cellK hB9 hgxw x2; have x39 := cellK hB9 hgxw x3; have x49 := cellK hB9 hgxw x4)
                      | (refine step_add_progs (by rfl) (.tmp 94) (.tmp 97) (by rfl) wc.heap.size _ (k2 + 1) _ _ (by rfl) hown9 _ _ _ (zs.drop k2) (by rfl) (by have hpf := Hpf.out.below hB9; simpa [addr_add] using hpf) (by omega) (by omega) (by (first | (with_reducible exact Nat.le_refl _) | (with_reducible assumption) | omega | (simp <;> omega))) ?_; intro A10 c10 w10 hown10 hg10 hb10; have hB10 := (show Below wc.heap.size wc _ by (repeat' (first | (with_reducible exact Below.refl _ _) | (with_reducible assumption) | (with_reducible refine Below.alloc ?_ ?_ _) | (with_reducible refine Below.drew ?_) | (with_reducible refine below_drewN ?_ _) | (with_reducible refine Below.setCell ?_ ?_ _) | (with_reducible exact Nat.le_refl _) | omega | (simp <;> omega)))).trans hb10; have hs10 := hB10.size; have lx10 := Nat.lt_of_lt_of_le hgxw hs10; have x010 := cellK hB10 hgxw x0; have x110 := cellK hB10 hgxw x1; have x210 := cellK hB10 hgxw x2; have x310 := cellK hB10 hgxw x3; have x410 := cellK hB10 hgxw x4))
                    all_goals (go_wp2_with fail)
                    all_goals
                      have hL : (zs.take k2 ++ [(⟨⟨o, te, false, (shareP p).pages, []⟩, A5, c5, none, 0⟩ : PrV)] ++ zs.drop k2).length = k2 + 1 + (n - k2) := by
                        have := HZL.out
                        simp
                        omega
                      have hPe : (xs.map PrV.P)[i]? = some p := by rw [← HP.out]; exact Hpe.out
                      have hid : ∀ j, j < n → (zs.getD j PrV.zero).P.id = ((xs.map PrV.P).getD j PrD.zero).id := by
                        intro j hj
                        rw [← map_getD (by rw [HZL.out]; exact hj), hSh.out, id_set hPe]
                      refine bodyPost_ret (v := .tuple #[.slice A10 (k2 + 1 + (n - k2)) c10, .int .i64 0]) (by simp [results, Try.results90, go_sem]) rfl ⟨_, _, rfl, ⟨zs.take k2 ++ [(⟨⟨o, te, false, (shareP p).pages, []⟩, A5, c5, none, 0⟩ : PrV)] ++ zs.drop k2, fun _ => ⟨⟨⟨A10, c10, by rw [hL]⟩, ?_, fun x hx => ?_⟩, i, k2, p, te, hPe, ?_, o1, o9, ?_, ?_, ?_, fun j hj => ?_, fun hk => ?_, ?_⟩⟩, HBx.out.trans (hB10.mono hsx)⟩
                      · rw [hL]
                        exact ownsRow_base hown10 hsx
                      · have hold : ∀ x ∈ zs, w10.ownsRow w.heap.size 98 3 (.slice x.A x.P.pages.length x.c) x.P.pages.length (pgVals x.P.pages) ∧ w10.ownsRow w.heap.size 3 1 (.slice x.TA x.P.told.length x.Tc) x.P.told.length (numVals x.P.told) := fun x hx =>
                          ⟨ownsRow_below (HOx.out.2.2 x hx).1 hB10, ownsRow_below (HOx.out.2.2 x hx).2 hB10⟩
                        simp only [List.mem_append, List.mem_singleton] at hx
                        rcases hx with (hx | rfl) | hx
                        · exact hold x (List.mem_of_mem_take hx)
                        · refine ⟨?_, World.ownsRow_nil _ _ _ _⟩
                          dsimp only
                          rw [Hsl.out]
                          exact ownsRow_base (ownsRow_below HO5.out hB10) hszz
                        · exact hold x (List.mem_of_mem_drop hx)
                      · rw [← HP.out]; exact Hdd.out
                      · intro x hx
                        obtain ⟨y, hy, rfl⟩ := List.mem_map.1 hx
                        obtain ⟨j, hj, rfl⟩ := List.getElem_of_mem hy
                        have := HNO.out j (by rw [← Hln.out]; exact hj)
                        simpa [List.getD, List.getElem?_eq_getElem hj] using this
                      · rw [List.length_map, Hln.out]; omega
                      · rw [List.length_map, Hln.out]; omega
                      · rw [← hid j (by omega)]
                        exact Hlo.out j hj
                      · rw [List.length_map, Hln.out] at hk
                        rw [← hid k2 hk]
                        have := Hhi.out hk
                        omega
                      · rw [List.map_append, List.map_append, List.map_take, List.map_drop, hSh.out]
                        rfl
    · have hrr : o < 1 ∨ (1 ≤ o ∧ 999 < o) := by omega
      rcases hrr with r1 | ⟨r1, r2⟩
      all_goals
        go_enter Try.func90, Try.ntmps90
        go_wp2_with fail
        refine (at_any A n c id xs _ HI.out (by omega)).mono ?_
        rewrite [Hat.out]
        rintro e w1 ⟨rfl, hb1⟩
        go_wp2_with fail
        go_ret2
        exact ⟨_, _, [], rfl, fun hE => (by cases hE), hb1⟩
end Go.Proofs.Ytjlmgjpnfppkoaa
