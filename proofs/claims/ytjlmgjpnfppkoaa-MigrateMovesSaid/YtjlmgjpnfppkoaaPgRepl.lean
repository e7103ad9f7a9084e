/-
  Programs, walked: all pages with a frame get another one.
-/
import Derived.LoopTactic
import Derived.Test.YtjlmgjpnfppkoaaOwCopy
namespace Go.Proofs.Ytjlmgjpnfppkoaa
open Go.RowKit
attribute [local go_sem ↓] Go.wp_at_zero Go.wp_at_succ

def repP (a b : Int) (x : PgD) : PgD := if x.fr = a then { x with fr := b } else x
def repK (a b : Int) (k : Nat) (p : PrD) : PrD := { p with pages := (p.pages.take k).map (repP a b) ++ p.pages.drop k }
def repD (a b : Int) (p : PrD) : PrD := { p with pages := p.pages.map (repP a b) }
def replE (ps : List PrD) (a b : Int) : Int := if 0 ≤ a ∧ a < 64 ∧ 0 ≤ b ∧ b < 64 then (if a ≠ b ∧ usersN ps b ≠ 0 then 43 else 0) else 2
def replL (ps : List PrD) (a b : Int) : List PrD := if replE ps a b = 0 then ps.map (repD a b) else []
theorem repK_zero (a b : Int) (p : PrD) : repK a b 0 p = p := by simp [repK]
theorem repK_all {a b : Int} {p : PrD} {k : Nat} (h : p.pages.length ≤ k) : repK a b k p = repD a b p := by
  simp [repK, repD, List.take_of_length_le h, List.drop_of_length_le h]
theorem repK_len (a b : Int) (k : Nat) (p : PrD) : (repK a b k p).pages.length = p.pages.length := by
  simp [repK]; omega
theorem repK_get {a b : Int} {p : PrD} {k : Nat} (h : k < p.pages.length) : (repK a b k p).pages.getD k PgD.zero = p.pages.getD k PgD.zero := by
  have hl : ((p.pages.take k).map (repP a b)).length = k := by simp; omega
  simp only [repK, List.getD]
  rw [List.getElem?_append_right (by rw [hl]; exact Nat.le_refl _), hl, Nat.sub_self, List.getElem?_drop]
  simp
theorem repK_step {a b : Int} {p : PrD} {k : Nat} (h : k < p.pages.length) : repK a b (k + 1) p = { p with pages := (repK a b k p).pages.set k (repP a b (p.pages.getD k PgD.zero)) } := by
  have hl : ((p.pages.take k).map (repP a b)).length = k := by simp; omega
  have hd : p.pages.drop k = p.pages[k] :: p.pages.drop (k + 1) := List.drop_eq_getElem_cons h
  have hg : p.pages.getD k PgD.zero = p.pages[k] := by simp [List.getD, List.getElem?_eq_getElem h]
  have ht : p.pages.take (k + 1) = p.pages.take k ++ [p.pages[k]] := by rw [List.take_add_one, List.getElem?_eq_getElem h]; rfl
  simp only [repK, hg]
  rw [List.set_append_right _ _ (by rw [hl]; exact Nat.le_refl _), hl, Nat.sub_self, hd, List.set_cons_zero, ht, List.map_append, List.append_assoc]
  rfl
theorem repK_same {a b : Int} {p : PrD} {k : Nat} (h : k < p.pages.length) (hf : (p.pages.getD k PgD.zero).fr ≠ a) : repK a b (k + 1) p = repK a b k p := by
  rw [repK_step h, show repP a b (p.pages.getD k PgD.zero) = p.pages.getD k PgD.zero from if_neg hf, ← repK_get (a := a) (b := b) h]
  have hk : k < (repK a b k p).pages.length := by rw [repK_len]; exact h
  have hg : (repK a b k p).pages.getD k PgD.zero = (repK a b k p).pages[k] := by simp [List.getD, List.getElem?_eq_getElem hk]
  rw [hg, List.set_getElem_self]
  rfl
theorem pgVals_setfr (xs : List PgD) : ∀ (k : Nat) (f : Int), (pgVals xs).set (k * 3 + 1) (.int .i64 f) = pgVals (xs.set k { xs.getD k PgD.zero with fr := f }) := by
  induction xs with
  | nil => intro k f; simp [pgVals]
  | cons x r ih =>
    intro k f
    cases k with
    | zero => simp [pgVals]
    | succ k =>
      have e : (k + 1) * 3 + 1 = (k * 3 + 1) + 3 := by omega
      rw [e]
      simp only [pgVals, List.set_cons_succ, List.getD_cons_succ]
      rw [ih]
theorem progVals_same (xs : List PrV) : ∀ (i : Nat) (pgs : List PgD), pgs.length = (xs.getD i PrV.zero).P.pages.length → progVals (xs.set i { xs.getD i PrV.zero with P := { (xs.getD i PrV.zero).P with pages := pgs } }) = progVals xs := by
  induction xs with
  | nil => intro i pgs h; simp
  | cons x r ih =>
    intro i pgs h
    cases i with
    | zero => simp only [List.getD_cons_zero] at h; simp [progVals, h]
    | succ i =>
      simp only [List.getD_cons_succ] at h
      simp only [progVals, List.set_cons_succ, List.getD_cons_succ]
      rw [ih i pgs h]
theorem Apart.get {ys : List PrV} (h : Apart ys) {i j : Nat} (hi : i < ys.length) (hj : j < ys.length) (hne : i ≠ j) : ApartA (ys.getD i PrV.zero).A (ys.getD j PrV.zero).A := by
  have hp := List.pairwise_iff_getElem.1 h
  simp only [List.getD, List.getElem?_eq_getElem hi, List.getElem?_eq_getElem hj, Option.getD_some]
  rcases Nat.lt_or_gt_of_ne hne with hl | hl
  · exact hp i j hi hj hl
  · intro p q h1 h2 e
    exact hp j i hj hi hl q p h2 h1 e.symm
theorem Apart.set {ys : List PrV} (h : Apart ys) (i : Nat) (P : PrD) : Apart (ys.set i { ys.getD i PrV.zero with P := P }) := by
  have hp := List.pairwise_iff_getElem.1 h
  refine List.pairwise_iff_getElem.2 fun a b ha hb hab => ?_
  have key : ∀ c (hc : c < (ys.set i { ys.getD i PrV.zero with P := P }).length), ((ys.set i { ys.getD i PrV.zero with P := P })[c]).A = (ys[c]'(by simpa using hc)).A := by
    intro c hc
    have hc' : c < ys.length := by simpa using hc
    rw [List.getElem_set]
    split
    · rename_i e; subst e; simp [List.getD, List.getElem?_eq_getElem hc']
    · rfl
  rw [key a ha, key b hb]
  exact hp a b (by simpa using ha) (by simpa using hb) hab
theorem row_cases' {w : World} {B e sz n c : Nat} {A : Option Addr} {xs : List Value} (h : w.ownsRow B e sz (.slice A n c) n xs) : A = none ∨ ∃ g, A = some ⟨g, 0, none⟩ := by
  rcases h.2 with ⟨hv, _⟩ | ⟨g, cap, cur, hv, _⟩
  · injection hv with h1
    exact .inl h1
  · injection hv with h1
    exact .inr ⟨g, h1⟩
/-- The frame of one page of the call's own is written. -/
theorem OwnProgs.set_frame {w : World} {B pb i k : Nat} {v : Value} {zs : List PrV} {f : Int} (h : OwnProgs w B v zs) (ha : Apart zs) (hi : i < zs.length) (hA : (zs.getD i PrV.zero).A = some ⟨pb, 0, none⟩) :
    OwnProgs (w.setCell ⟨pb, k * 3 + 1, none⟩ (.int .i64 f)) B v (zs.set i { zs.getD i PrV.zero with P := { (zs.getD i PrV.zero).P with pages := (zs.getD i PrV.zero).P.pages.set k { (zs.getD i PrV.zero).P.pages.getD k PgD.zero with fr := f } } }) := by
  have hrow := (h.2.2 _ (getD_mem zs PrV.zero hi)).1
  rw [hA] at hrow
  obtain ⟨A0, c0, hv⟩ := h.1
  refine ⟨⟨A0, c0, by rw [hv, List.length_set]⟩, ?_, ?_⟩
  · rw [progVals_same zs i _ (by simp), List.length_set]
    refine ownsRow_setCell_far h.2.1 ?_ _
    have h21 := h.2.1
    rw [hv] at h21 ⊢
    exact far_of' h21 hrow (by decide)
  · intro x hx
    obtain ⟨j, hj, rfl⟩ := List.getElem_of_mem hx
    have hj' : j < zs.length := by simpa using hj
    rw [List.getElem_set]
    split
    · rename_i e
      subst e
      refine ⟨?_, ?_⟩
      · dsimp only
        rw [List.length_set, ← pgVals_setfr]
        rw [hA]
        exact own_set hrow _ _
      · exact ownsRow_setCell_far (h.2.2 _ (getD_mem zs PrV.zero hi)).2 (far_of' (h.2.2 _ (getD_mem zs PrV.zero hi)).2 hrow (by decide)) _
    · rename_i hne
      have hm := h.2.2 _ (List.getElem_mem hj')
      refine ⟨ownsRow_setCell_far hm.1 ?_ _, ownsRow_setCell_far hm.2 (far_of' hm.2 hrow (by decide)) _⟩
      have hap := ha.get hi hj' hne
      rw [hA, show zs.getD j PrV.zero = zs[j] from by simp [List.getD, List.getElem?_eq_getElem hj']] at hap
      rcases row_cases' hm.1 with hn | ⟨g, hg⟩
      · rw [hn]; simp [Value.ownBlock]
      · rw [hg]
        simp only [Value.ownBlock, ne_eq, Option.some.injEq]
        intro e
        exact hap _ _ rfl hg e.symm


set_option maxRecDepth 100000 in
set_option maxHeartbeats 16000000 in
theorem rrepl_any (A : Option Addr) (n c : Nat) (a b : Int) (xs : List PrV) (w : World) (h : IsProgs w A n xs) (hs : Small xs) :
    Calls Try.prog 97 #[.slice A n c, .int .i64 a, .int .i64 b] w fun e w' => ∃ v ys, e = .returned (.tuple #[v, .int .i64 (replE (xs.map PrV.P) a b)]) ∧ ys.map PrV.P = replL (xs.map PrV.P) a b ∧ OwnProgs w' w.heap.size v ys ∧ Below w.heap.size w w' := by
  have Hl := Lib.hid h.len
  have HI := Lib.hid h
  have HS := Lib.hid hs
  have hn : n ≤ 1000 := by have := h.len; have := hs.1; omega
  clear h hs
  by_cases hr : 0 ≤ a ∧ a < 64 ∧ 0 ≤ b ∧ b < 64
  · obtain ⟨a0, a6, b0, b6⟩ := hr
    by_cases hab : a ≠ b ∧ usersN (xs.map PrV.P) b ≠ 0
    · have hE : replE (xs.map PrV.P) a b = 43 := by rw [replE, if_pos ⟨a0, a6, b0, b6⟩, if_pos hab]
      have hL : replL (xs.map PrV.P) a b = [] := by rw [replL, hE]; rfl
      rewrite [hE, hL]
      obtain ⟨hne, hu⟩ := hab
      have hne' : (a != b) = true := by simp [hne]
      obtain ⟨U, hU⟩ : ∃ U, usersN (xs.map PrV.P) b = U := ⟨_, rfl⟩
      rw [hU] at hu
      have HU := Lib.hid hU
      clear hE hL hU
      go_enter Try.func97, Try.ntmps97
      go_wp2_with fail
      refine (runused_any A n c b xs _ HI.out HS.out).mono ?_
      rewrite [HU.out, if_pos (by omega)]
      rintro e w1 ⟨rfl, hb1⟩
      go_wp2_with fail
      go_ret2
      exact ⟨_, [], rfl, rfl, OwnProgs.nil_ _ _, hb1⟩
    · have hE : replE (xs.map PrV.P) a b = 0 := by rw [replE, if_pos ⟨a0, a6, b0, b6⟩, if_neg hab]
      have hL : replL (xs.map PrV.P) a b = (xs.map PrV.P).map (repD a b) := by rw [replL, if_pos hE]
      rewrite [hE, hL]
      clear hE hL
      by_cases hne : a = b
      · subst hne
        have hne' : (a != a) = false := by simp
        go_enter Try.func97, Try.ntmps97
        have hb1 : Below w.heap.size w w := Below.refl _ _
        have HB1 := Lib.hid hb1
        have hs1 := hb1.size
        clear hb1
        go_wp2_with fail
        refine (rcopyprogs_any A n c xs _ (HI.out.below HB1.out) HS.out).mono ?_
        rintro e w2 ⟨v, ys, rfl, hym, hO2, hA2, hb2⟩
        have hyl : ys.length = n := by have := congrArg List.length hym; simp at this; rw [this]; exact Hl.out
        obtain ⟨A2, c2, hv2⟩ := hO2.1
        rw [hyl] at hv2
        subst hv2
        have HO2 := Lib.hid (hO2.base hs1)
        have HA2 := Lib.hid hA2
        have HYM := Lib.hid hym
        have HYL := Lib.hid hyl
        have HB2 := Lib.hid (HB1.out.trans (hb2.mono hs1))
        clear hym hO2 hA2 hb2 hyl
        go_wp2_with fail
        go_loopw [40] (fun ii wr => ∃ (i : Nat) (zs : List PrV), i ≤ n ∧ ii = .int .i64 i ∧ Hid (zs.length = n) ∧ Hid (∀ j, j < n → (zs.getD j PrV.zero).P = if j < i then repD a a (xs.getD j PrV.zero).P else (xs.getD j PrV.zero).P) ∧ Hid (OwnProgs wr w.heap.size (.slice A2 n c2) zs) ∧ Hid (Apart zs) ∧ Hid (Below w.heap.size w wr)) (fun ii _ => n - (intOf ii).toNat)
        case atStart =>
          refine ⟨0, ys, by omega, rfl, HYL.out, fun j hj => ?_, HO2.out, HA2.out, HB2.out⟩
          rw [if_neg (by omega)]
          rw [← map_getD (by rw [HYL.out]; exact hj), HYM.out, map_getD (by rw [Hl.out]; exact hj)]
        case round =>
          obtain ⟨i, zs, hi, rfl, Hzl, HZ, HO, HA, HBr⟩ := hrel
          obtain ⟨wo, rfl⟩ : ∃ wo : World, wo = wr := ⟨_, rfl⟩
          have hsz := HBr.out.size
          by_cases hlt : i < n
          · have hlt' : (i : Int) < (n : Int) := by omega
            have hi0 : (0 : Int) ≤ (i : Int) := by omega
            have hiz : i < zs.length := by rw [Hzl.out]; exact hlt
            have hixs : i < xs.length := by rw [Hl.out]; exact hlt
            obtain ⟨g, hgA, hg1, hg2⟩ := own_some (by have := HO.out.2.1; rw [Hzl.out] at this; exact this) (show 0 < n by omega)
            subst hgA
            obtain ⟨gg, oo, ee, -, z0, z1, z2, z3, z4, -, -⟩ := (HO.out.is Hzl.out).at_ hlt
            injection ee with ee
            injection ee with ee1 ee2
            subst ee1 ee2
            simp only [Nat.zero_add] at z0 z1 z2 z3 z4
            obtain ⟨hpl, -⟩ := HS.out.at_ hixs
            have hzi := HZ.out i hlt
            rw [if_neg (Nat.lt_irrefl _)] at hzi
            obtain ⟨y, hy⟩ : ∃ y, zs.getD i PrV.zero = y := ⟨_, rfl⟩
            obtain ⟨p, hp⟩ : ∃ p, (xs.getD i PrV.zero).P = p := ⟨_, rfl⟩
            rw [hy] at z0 z1 z2 z3 z4 hzi
            rw [hp] at hzi hpl
            obtain ⟨yP, yA, yc, yTA, yTc⟩ := y
            dsimp only at z0 z1 z2 z3 z4 hzi
            subst hzi
            obtain ⟨M, hM⟩ : ∃ M, yP.pages.length = M := ⟨_, rfl⟩
            obtain ⟨TN, hTN⟩ : ∃ TN, yP.told.length = TN := ⟨_, rfl⟩
            rw [hM] at z3 hpl
            rw [hTN] at z4
            have HM := Lib.hid hM
            have Hy := Lib.hid hy
            have Hp := Lib.hid hp
            obtain ⟨zid, hzid⟩ : ∃ q, yP.id = q := ⟨_, rfl⟩
            obtain ⟨zte, hzte⟩ : ∃ q, yP.tells = q := ⟨_, rfl⟩
            obtain ⟨zde, hzde⟩ : ∃ q, yP.dead = q := ⟨_, rfl⟩
            rw [hzid] at z0
            rw [hzte] at z1
            rw [hzde] at z2
            clear hM hTN hy hp hzid hzte hzde
            go_wp2_with fail
            go_loopw [49] (fun ii wr => ∃ (k : Nat) (zs : List PrV), k ≤ M ∧ ii = .int .i64 k ∧ Hid (zs.length = n) ∧ Hid (∀ j, j < n → j ≠ i → (zs.getD j PrV.zero).P = if j < i then repD a a (xs.getD j PrV.zero).P else (xs.getD j PrV.zero).P) ∧ Hid (zs.getD i PrV.zero = ⟨repK a a k yP, yA, yc, yTA, yTc⟩) ∧ Hid (OwnProgs wr w.heap.size (.slice (some ⟨g, 0, none⟩) n c2) zs) ∧ Hid (Apart zs) ∧ Hid (Below w.heap.size w wr)) (fun ii _ => M - (intOf ii).toNat)
            case atStart => exact ⟨0, zs, by omega, rfl, Hzl.out, fun j hj _ => HZ.out j hj, by rw [repK_zero]; exact Hy.out, HO.out, HA.out, HBr.out⟩
            case round =>
              obtain ⟨k, zs', hk, rfl, Hzl', HZ', Hzi, HO', HA', HBr'⟩ := hrel
              have hsz' := HBr'.out.size
              by_cases hkM : k < M
              · have hkM' : (k : Int) < (M : Int) := by omega
                have hk0 : (0 : Int) ≤ (k : Int) := by omega
                have hiz' : i < zs'.length := by rw [Hzl'.out]; exact hlt
                have hkp : k < yP.pages.length := by rw [HM.out]; exact hkM
                obtain ⟨gg, oo, ee, hgw, -, -, -, y3, -, hPg, -⟩ := (HO'.out.is Hzl'.out).at_ hlt
                injection ee with ee
                injection ee with ee1 ee2
                subst ee1 ee2
                simp only [Nat.zero_add] at y3
                have hrow := (HO'.out.2.2 _ (getD_mem zs' PrV.zero hiz')).1
                rw [Hzi.out] at y3 hPg hrow
                dsimp only at y3 hPg hrow
                rw [repK_len, HM.out] at y3 hPg hrow
                obtain ⟨pb, hpA, hpb1, hpb2⟩ := own_some hrow (by omega)
                subst hpA
                obtain ⟨pb', po, pe, -, p0, p1, p2⟩ := hPg.page_at hkM
                injection pe with pe
                injection pe with pe1 pe2
                subst pe1 pe2
                simp only [Nat.zero_add] at p0 p1 p2
                rw [repK_get hkp] at p0 p1 p2
                have fp := own_frozen hrow (k * 3 + 1)
                obtain ⟨⟨nu, fr, sh⟩, hq⟩ : ∃ q, yP.pages.getD k PgD.zero = q := ⟨_, rfl⟩
                rw [hq] at p0 p1 p2
                dsimp only at p0 p1 p2
                have Hq := Lib.hid hq
                clear hPg hrow hq
                by_cases hf : fr = a
                · subst hf
                  go_wp2_with fail
                  go_roundw
                  case rel =>
                    have hset := HO'.out.set_frame HA'.out hiz' (k := k) (f := fr) (by rw [Hzi.out])
                    have hst := HA'.out.set i { (zs'.getD i PrV.zero).P with pages := (zs'.getD i PrV.zero).P.pages.set k { (zs'.getD i PrV.zero).P.pages.getD k PgD.zero with fr := fr } }
                    refine ⟨k + 1, _, by omega, by go_num, ?_, ?_, ?_, hset, hst, HBr'.out.setCell (by show w.heap.size ≤ pb; omega) _⟩
                    · show _ = _; rw [List.length_set]; exact Hzl'.out
                    · intro j hj hji
                      rw [getD_set_ne _ _ _ (fun e => hji e.symm)]
                      exact HZ'.out j hj hji
                    · show _ = _
                      have e1 : ∀ y : PrV, (zs'.set i y).getD i PrV.zero = y := fun y => by simp [List.getD, hiz']
                      rw [e1, Hzi.out]
                      dsimp only
                      rw [repK_get hkp, repK_step hkp, Hq.out]
                      simp [repP, repK]
                  case measure => simp [intOf]; omega
                · have hf' : (fr == a) = false := by simp [hf]
                  go_wp2_with fail
                  go_roundw
                  case rel =>
                    refine ⟨k + 1, zs', by omega, by go_num, Hzl'.out, HZ'.out, ?_, HO'.out, HA'.out, HBr'.out⟩
                    show _ = _
                    rw [Hzi.out, repK_same hkp (by rw [Hq.out]; exact hf)]
                  case measure => simp [intOf]; omega
              · have hkk : k = M := by omega
                go_wp2_with fail
                go_roundw
                case rel =>
                  refine ⟨i + 1, zs', by omega, by go_num, Hzl'.out, fun j hj => ?_, HO'.out, HA'.out, HBr'.out⟩
                  by_cases hji : j = i
                  · subst hji
                    rw [Hzi.out, if_pos (by omega), Hp.out]
                    exact repK_all (by rw [HM.out]; omega)
                  · rw [HZ'.out j hj hji]
                    by_cases hlt2 : j < i
                    · rw [if_pos hlt2, if_pos (by omega)]
                    · rw [if_neg hlt2, if_neg (by omega)]
                case measure => simp [intOf]; omega
          · have hin : i = n := by omega
            subst hin
            go_wp2_with fail
            go_ret2
            refine ⟨_, zs, rfl, ?_, HO.out, HBr.out⟩
            apply List.ext_getElem
            · simp [Hzl.out, Hl.out]
            · intro j h1 h2
              have hj : j < i := by simpa [Hzl.out] using h1
              have h3 := HZ.out j hj
              rw [if_pos hj] at h3
              have e1 : zs.getD j PrV.zero = zs[j]'(by rw [Hzl.out]; exact hj) := by simp [List.getD, List.getElem?_eq_getElem (show j < zs.length by rw [Hzl.out]; exact hj)]
              have e2 : xs.getD j PrV.zero = xs[j]'(by rw [Hl.out]; exact hj) := by simp [List.getD, List.getElem?_eq_getElem (show j < xs.length by rw [Hl.out]; exact hj)]
              rw [e1, e2] at h3
              simpa using h3
      · have hne' : (a != b) = true := by simp [hne]
        have hu : usersN (xs.map PrV.P) b = 0 := by
          cases hu : usersN (xs.map PrV.P) b with
          | zero => rfl
          | succ k => exact absurd ⟨hne, by omega⟩ hab
        have HU := Lib.hid hu
        clear hu
        go_enter Try.func97, Try.ntmps97
        go_wp2_with fail
        refine (runused_any A n c b xs _ HI.out HS.out).mono ?_
        rewrite [HU.out, if_neg (by omega)]
        rintro e w1 ⟨rfl, hb1⟩
        have HB1 := Lib.hid hb1
        have hs1 := hb1.size
        clear hb1
        go_wp2_with fail
        refine (rcopyprogs_any A n c xs _ (HI.out.below HB1.out) HS.out).mono ?_
        rintro e w2 ⟨v, ys, rfl, hym, hO2, hA2, hb2⟩
        have hyl : ys.length = n := by have := congrArg List.length hym; simp at this; rw [this]; exact Hl.out
        obtain ⟨A2, c2, hv2⟩ := hO2.1
        rw [hyl] at hv2
        subst hv2
        have HO2 := Lib.hid (hO2.base hs1)
        have HA2 := Lib.hid hA2
        have HYM := Lib.hid hym
        have HYL := Lib.hid hyl
        have HB2 := Lib.hid (HB1.out.trans (hb2.mono hs1))
        clear hym hO2 hA2 hb2 hyl
        go_wp2_with fail
        go_loopw [40] (fun ii wr => ∃ (i : Nat) (zs : List PrV), i ≤ n ∧ ii = .int .i64 i ∧ Hid (zs.length = n) ∧ Hid (∀ j, j < n → (zs.getD j PrV.zero).P = if j < i then repD a b (xs.getD j PrV.zero).P else (xs.getD j PrV.zero).P) ∧ Hid (OwnProgs wr w.heap.size (.slice A2 n c2) zs) ∧ Hid (Apart zs) ∧ Hid (Below w.heap.size w wr)) (fun ii _ => n - (intOf ii).toNat)
        case atStart =>
          refine ⟨0, ys, by omega, rfl, HYL.out, fun j hj => ?_, HO2.out, HA2.out, HB2.out⟩
          rw [if_neg (by omega)]
          rw [← map_getD (by rw [HYL.out]; exact hj), HYM.out, map_getD (by rw [Hl.out]; exact hj)]
        case round =>
          obtain ⟨i, zs, hi, rfl, Hzl, HZ, HO, HA, HBr⟩ := hrel
          obtain ⟨wo, rfl⟩ : ∃ wo : World, wo = wr := ⟨_, rfl⟩
          have hsz := HBr.out.size
          by_cases hlt : i < n
          · have hlt' : (i : Int) < (n : Int) := by omega
            have hi0 : (0 : Int) ≤ (i : Int) := by omega
            have hiz : i < zs.length := by rw [Hzl.out]; exact hlt
            have hixs : i < xs.length := by rw [Hl.out]; exact hlt
            obtain ⟨g, hgA, hg1, hg2⟩ := own_some (by have := HO.out.2.1; rw [Hzl.out] at this; exact this) (show 0 < n by omega)
            subst hgA
            obtain ⟨gg, oo, ee, -, z0, z1, z2, z3, z4, -, -⟩ := (HO.out.is Hzl.out).at_ hlt
            injection ee with ee
            injection ee with ee1 ee2
            subst ee1 ee2
            simp only [Nat.zero_add] at z0 z1 z2 z3 z4
            obtain ⟨hpl, -⟩ := HS.out.at_ hixs
            have hzi := HZ.out i hlt
            rw [if_neg (Nat.lt_irrefl _)] at hzi
            obtain ⟨y, hy⟩ : ∃ y, zs.getD i PrV.zero = y := ⟨_, rfl⟩
            obtain ⟨p, hp⟩ : ∃ p, (xs.getD i PrV.zero).P = p := ⟨_, rfl⟩
            rw [hy] at z0 z1 z2 z3 z4 hzi
            rw [hp] at hzi hpl
            obtain ⟨yP, yA, yc, yTA, yTc⟩ := y
            dsimp only at z0 z1 z2 z3 z4 hzi
            subst hzi
            obtain ⟨M, hM⟩ : ∃ M, yP.pages.length = M := ⟨_, rfl⟩
            obtain ⟨TN, hTN⟩ : ∃ TN, yP.told.length = TN := ⟨_, rfl⟩
            rw [hM] at z3 hpl
            rw [hTN] at z4
            have HM := Lib.hid hM
            have Hy := Lib.hid hy
            have Hp := Lib.hid hp
            obtain ⟨zid, hzid⟩ : ∃ q, yP.id = q := ⟨_, rfl⟩
            obtain ⟨zte, hzte⟩ : ∃ q, yP.tells = q := ⟨_, rfl⟩
            obtain ⟨zde, hzde⟩ : ∃ q, yP.dead = q := ⟨_, rfl⟩
            rw [hzid] at z0
            rw [hzte] at z1
            rw [hzde] at z2
            clear hM hTN hy hp hzid hzte hzde
            go_wp2_with fail
            go_loopw [49] (fun ii wr => ∃ (k : Nat) (zs : List PrV), k ≤ M ∧ ii = .int .i64 k ∧ Hid (zs.length = n) ∧ Hid (∀ j, j < n → j ≠ i → (zs.getD j PrV.zero).P = if j < i then repD a b (xs.getD j PrV.zero).P else (xs.getD j PrV.zero).P) ∧ Hid (zs.getD i PrV.zero = ⟨repK a b k yP, yA, yc, yTA, yTc⟩) ∧ Hid (OwnProgs wr w.heap.size (.slice (some ⟨g, 0, none⟩) n c2) zs) ∧ Hid (Apart zs) ∧ Hid (Below w.heap.size w wr)) (fun ii _ => M - (intOf ii).toNat)
            case atStart => exact ⟨0, zs, by omega, rfl, Hzl.out, fun j hj _ => HZ.out j hj, by rw [repK_zero]; exact Hy.out, HO.out, HA.out, HBr.out⟩
            case round =>
              obtain ⟨k, zs', hk, rfl, Hzl', HZ', Hzi, HO', HA', HBr'⟩ := hrel
              have hsz' := HBr'.out.size
              by_cases hkM : k < M
              · have hkM' : (k : Int) < (M : Int) := by omega
                have hk0 : (0 : Int) ≤ (k : Int) := by omega
                have hiz' : i < zs'.length := by rw [Hzl'.out]; exact hlt
                have hkp : k < yP.pages.length := by rw [HM.out]; exact hkM
                obtain ⟨gg, oo, ee, hgw, -, -, -, y3, -, hPg, -⟩ := (HO'.out.is Hzl'.out).at_ hlt
                injection ee with ee
                injection ee with ee1 ee2
                subst ee1 ee2
                simp only [Nat.zero_add] at y3
                have hrow := (HO'.out.2.2 _ (getD_mem zs' PrV.zero hiz')).1
                rw [Hzi.out] at y3 hPg hrow
                dsimp only at y3 hPg hrow
                rw [repK_len, HM.out] at y3 hPg hrow
                obtain ⟨pb, hpA, hpb1, hpb2⟩ := own_some hrow (by omega)
                subst hpA
                obtain ⟨pb', po, pe, -, p0, p1, p2⟩ := hPg.page_at hkM
                injection pe with pe
                injection pe with pe1 pe2
                subst pe1 pe2
                simp only [Nat.zero_add] at p0 p1 p2
                rw [repK_get hkp] at p0 p1 p2
                have fp := own_frozen hrow (k * 3 + 1)
                obtain ⟨⟨nu, fr, sh⟩, hq⟩ : ∃ q, yP.pages.getD k PgD.zero = q := ⟨_, rfl⟩
                rw [hq] at p0 p1 p2
                dsimp only at p0 p1 p2
                have Hq := Lib.hid hq
                clear hPg hrow hq
                by_cases hf : fr = a
                · subst hf
                  go_wp2_with fail
                  go_roundw
                  case rel =>
                    have hset := HO'.out.set_frame HA'.out hiz' (k := k) (f := b) (by rw [Hzi.out])
                    have hst := HA'.out.set i { (zs'.getD i PrV.zero).P with pages := (zs'.getD i PrV.zero).P.pages.set k { (zs'.getD i PrV.zero).P.pages.getD k PgD.zero with fr := b } }
                    refine ⟨k + 1, _, by omega, by go_num, ?_, ?_, ?_, hset, hst, HBr'.out.setCell (by show w.heap.size ≤ pb; omega) _⟩
                    · show _ = _; rw [List.length_set]; exact Hzl'.out
                    · intro j hj hji
                      rw [getD_set_ne _ _ _ (fun e => hji e.symm)]
                      exact HZ'.out j hj hji
                    · show _ = _
                      have e1 : ∀ y : PrV, (zs'.set i y).getD i PrV.zero = y := fun y => by simp [List.getD, hiz']
                      rw [e1, Hzi.out]
                      dsimp only
                      rw [repK_get hkp, repK_step hkp, Hq.out]
                      simp [repP, repK]
                  case measure => simp [intOf]; omega
                · have hf' : (fr == a) = false := by simp [hf]
                  go_wp2_with fail
                  go_roundw
                  case rel =>
                    refine ⟨k + 1, zs', by omega, by go_num, Hzl'.out, HZ'.out, ?_, HO'.out, HA'.out, HBr'.out⟩
                    show _ = _
                    rw [Hzi.out, repK_same hkp (by rw [Hq.out]; exact hf)]
                  case measure => simp [intOf]; omega
              · have hkk : k = M := by omega
                go_wp2_with fail
                go_roundw
                case rel =>
                  refine ⟨i + 1, zs', by omega, by go_num, Hzl'.out, fun j hj => ?_, HO'.out, HA'.out, HBr'.out⟩
                  by_cases hji : j = i
                  · subst hji
                    rw [Hzi.out, if_pos (by omega), Hp.out]
                    exact repK_all (by rw [HM.out]; omega)
                  · rw [HZ'.out j hj hji]
                    by_cases hlt2 : j < i
                    · rw [if_pos hlt2, if_pos (by omega)]
                    · rw [if_neg hlt2, if_neg (by omega)]
                case measure => simp [intOf]; omega
          · have hin : i = n := by omega
            subst hin
            go_wp2_with fail
            go_ret2
            refine ⟨_, zs, rfl, ?_, HO.out, HBr.out⟩
            apply List.ext_getElem
            · simp [Hzl.out, Hl.out]
            · intro j h1 h2
              have hj : j < i := by simpa [Hzl.out] using h1
              have h3 := HZ.out j hj
              rw [if_pos hj] at h3
              have e1 : zs.getD j PrV.zero = zs[j]'(by rw [Hzl.out]; exact hj) := by simp [List.getD, List.getElem?_eq_getElem (show j < zs.length by rw [Hzl.out]; exact hj)]
              have e2 : xs.getD j PrV.zero = xs[j]'(by rw [Hl.out]; exact hj) := by simp [List.getD, List.getElem?_eq_getElem (show j < xs.length by rw [Hl.out]; exact hj)]
              rw [e1, e2] at h3
              simpa using h3
  · have hE : replE (xs.map PrV.P) a b = 2 := by rw [replE, if_neg hr]
    have hL : replL (xs.map PrV.P) a b = [] := by rw [replL, hE]; rfl
    rewrite [hE, hL]
    clear hE hL
    have hrr : a < 0 ∨ (0 ≤ a ∧ 64 ≤ a) ∨ (0 ≤ a ∧ a < 64 ∧ b < 0) ∨ (0 ≤ a ∧ a < 64 ∧ 0 ≤ b ∧ 64 ≤ b) := by omega
    rcases hrr with r1 | ⟨r1, r2⟩ | ⟨r1, r2, r3⟩ | ⟨r1, r2, r3, r4⟩
    all_goals
      go_enter Try.func97, Try.ntmps97
      go_wp2_with fail
      go_ret2
      exact ⟨_, [], rfl, rfl, OwnProgs.nil_ _ _, Below.refl _ _⟩


set_option maxRecDepth 100000 in
set_option maxHeartbeats 16000000 in
theorem drepl_any (A : Option Addr) (n c : Nat) (a b : Int) (xs : List PrV) (w : World) (h : IsProgs w A n xs) (hs : Small xs) :
    Calls Try.prog 95 #[.slice A n c, .int .i64 a, .int .i64 b] w fun e w' => ∃ v ys, e = .returned (.tuple #[v, .int .i64 (replE (xs.map PrV.P) a b)]) ∧ ys.map PrV.P = replL (xs.map PrV.P) a b ∧ OwnProgs w' w.heap.size v ys ∧ Below w.heap.size w w' := by
  have Hl := Lib.hid h.len
  have HI := Lib.hid h
  have HS := Lib.hid hs
  have hn : n ≤ 1000 := by have := h.len; have := hs.1; omega
  clear h hs
  by_cases hr : 0 ≤ a ∧ a < 64 ∧ 0 ≤ b ∧ b < 64
  · obtain ⟨a0, a6, b0, b6⟩ := hr
    by_cases hab : a ≠ b ∧ usersN (xs.map PrV.P) b ≠ 0
    · have hE : replE (xs.map PrV.P) a b = 43 := by rw [replE, if_pos ⟨a0, a6, b0, b6⟩, if_pos hab]
      have hL : replL (xs.map PrV.P) a b = [] := by rw [replL, hE]; rfl
      rewrite [hE, hL]
      obtain ⟨hne, hu⟩ := hab
      have hne' : (a != b) = true := by simp [hne]
      obtain ⟨U, hU⟩ : ∃ U, usersN (xs.map PrV.P) b = U := ⟨_, rfl⟩
      rw [hU] at hu
      have HU := Lib.hid hU
      clear hE hL hU
      go_enter Try.func95, Try.ntmps95
      go_wp2_with fail
      refine (within_any a 0 63 _).mono ?_
      rewrite [show decide ((0 : Int) ≤ a ∧ a ≤ 63) = true from by simp; omega]
      rintro e w' ⟨rfl, rfl⟩
      go_wp2_with fail
      refine (within_any b 0 63 _).mono ?_
      rewrite [show decide ((0 : Int) ≤ b ∧ b ≤ 63) = true from by simp; omega]
      rintro e w' ⟨rfl, rfl⟩
      go_wp2_with fail
      refine (dunused_any A n c b xs _ HI.out HS.out).mono ?_
      rewrite [HU.out, show (U == 0) = false from by simp [hu]]
      rintro e w1 ⟨rfl, hb1⟩
      go_wp2_with fail
      go_ret2
      exact ⟨_, [], rfl, rfl, OwnProgs.nil_ _ _, hb1⟩
    · have hE : replE (xs.map PrV.P) a b = 0 := by rw [replE, if_pos ⟨a0, a6, b0, b6⟩, if_neg hab]
      have hL : replL (xs.map PrV.P) a b = (xs.map PrV.P).map (repD a b) := by rw [replL, if_pos hE]
      rewrite [hE, hL]
      clear hE hL
      by_cases hne : a = b
      · subst hne
        have hne' : (a != a) = false := by simp
        go_enter Try.func95, Try.ntmps95
        go_wp2_with fail
        refine (within_any a 0 63 _).mono ?_
        rewrite [show decide ((0 : Int) ≤ a ∧ a ≤ 63) = true from by simp; omega]
        rintro e w' ⟨rfl, rfl⟩
        go_wp2_with fail
        refine (within_any a 0 63 _).mono ?_
        rewrite [show decide ((0 : Int) ≤ a ∧ a ≤ 63) = true from by simp; omega]
        rintro e w' ⟨rfl, rfl⟩
        have hb1 : Below w.heap.size w w := Below.refl _ _
        have HB1 := Lib.hid hb1
        have hs1 := hb1.size
        clear hb1
        go_wp2_with fail
        refine (ocopy_any A n c xs _ (HI.out.below HB1.out) HS.out).mono ?_
        rintro e w2 ⟨v, ys, rfl, hym, hO2, hA2, hb2⟩
        have hyl : ys.length = n := by have := congrArg List.length hym; simp at this; rw [this]; exact Hl.out
        obtain ⟨A2, c2, hv2⟩ := hO2.1
        rw [hyl] at hv2
        subst hv2
        have HO2 := Lib.hid (hO2.base hs1)
        have HA2 := Lib.hid hA2
        have HYM := Lib.hid hym
        have HYL := Lib.hid hyl
        have HB2 := Lib.hid (HB1.out.trans (hb2.mono hs1))
        clear hym hO2 hA2 hb2 hyl
        go_wp2_with fail
        go_loopw [35] (fun ii wr => ∃ (i : Nat) (zs : List PrV), i ≤ n ∧ ii = .int .i64 i ∧ Hid (zs.length = n) ∧ Hid (∀ j, j < n → (zs.getD j PrV.zero).P = if j < i then repD a a (xs.getD j PrV.zero).P else (xs.getD j PrV.zero).P) ∧ Hid (OwnProgs wr w.heap.size (.slice A2 n c2) zs) ∧ Hid (Apart zs) ∧ Hid (Below w.heap.size w wr)) (fun ii _ => n - (intOf ii).toNat)
        case atStart =>
          refine ⟨0, ys, by omega, rfl, HYL.out, fun j hj => ?_, HO2.out, HA2.out, HB2.out⟩
          rw [if_neg (by omega)]
          rw [← map_getD (by rw [HYL.out]; exact hj), HYM.out, map_getD (by rw [Hl.out]; exact hj)]
        case round =>
          obtain ⟨i, zs, hi, rfl, Hzl, HZ, HO, HA, HBr⟩ := hrel
          obtain ⟨wo, rfl⟩ : ∃ wo : World, wo = wr := ⟨_, rfl⟩
          have hsz := HBr.out.size
          by_cases hlt : i < n
          · have hlt' : (i : Int) < (n : Int) := by omega
            have hi0 : (0 : Int) ≤ (i : Int) := by omega
            have hiz : i < zs.length := by rw [Hzl.out]; exact hlt
            have hixs : i < xs.length := by rw [Hl.out]; exact hlt
            obtain ⟨g, hgA, hg1, hg2⟩ := own_some (by have := HO.out.2.1; rw [Hzl.out] at this; exact this) (show 0 < n by omega)
            subst hgA
            obtain ⟨gg, oo, ee, -, z0, z1, z2, z3, z4, -, -⟩ := (HO.out.is Hzl.out).at_ hlt
            injection ee with ee
            injection ee with ee1 ee2
            subst ee1 ee2
            simp only [Nat.zero_add] at z0 z1 z2 z3 z4
            obtain ⟨hpl, -⟩ := HS.out.at_ hixs
            have hzi := HZ.out i hlt
            rw [if_neg (Nat.lt_irrefl _)] at hzi
            obtain ⟨y, hy⟩ : ∃ y, zs.getD i PrV.zero = y := ⟨_, rfl⟩
            obtain ⟨p, hp⟩ : ∃ p, (xs.getD i PrV.zero).P = p := ⟨_, rfl⟩
            rw [hy] at z0 z1 z2 z3 z4 hzi
            rw [hp] at hzi hpl
            obtain ⟨yP, yA, yc, yTA, yTc⟩ := y
            dsimp only at z0 z1 z2 z3 z4 hzi
            subst hzi
            obtain ⟨M, hM⟩ : ∃ M, yP.pages.length = M := ⟨_, rfl⟩
            obtain ⟨TN, hTN⟩ : ∃ TN, yP.told.length = TN := ⟨_, rfl⟩
            rw [hM] at z3 hpl
            rw [hTN] at z4
            have HM := Lib.hid hM
            have Hy := Lib.hid hy
            have Hp := Lib.hid hp
            obtain ⟨zid, hzid⟩ : ∃ q, yP.id = q := ⟨_, rfl⟩
            obtain ⟨zte, hzte⟩ : ∃ q, yP.tells = q := ⟨_, rfl⟩
            obtain ⟨zde, hzde⟩ : ∃ q, yP.dead = q := ⟨_, rfl⟩
            rw [hzid] at z0
            rw [hzte] at z1
            rw [hzde] at z2
            clear hM hTN hy hp hzid hzte hzde
            go_wp2_with fail
            go_loopw [42] (fun ii wr => ∃ (k : Nat) (zs : List PrV), k ≤ M ∧ ii = .int .i64 k ∧ Hid (zs.length = n) ∧ Hid (∀ j, j < n → j ≠ i → (zs.getD j PrV.zero).P = if j < i then repD a a (xs.getD j PrV.zero).P else (xs.getD j PrV.zero).P) ∧ Hid (zs.getD i PrV.zero = ⟨repK a a k yP, yA, yc, yTA, yTc⟩) ∧ Hid (OwnProgs wr w.heap.size (.slice (some ⟨g, 0, none⟩) n c2) zs) ∧ Hid (Apart zs) ∧ Hid (Below w.heap.size w wr) ∧ wo.heap.size < wr.heap.size ∧ Hid (wr.heap[wo.heap.size]? = some (.cells #[.int .i64 zid, .bool zte, .bool zde, .slice yA M yc, .slice yTA TN yTc] 96))) (fun ii _ => M - (intOf ii).toNat)
            case atStart => exact ⟨0, zs, by omega, rfl, Hzl.out, fun j hj _ => HZ.out j hj, by rw [repK_zero]; exact Hy.out, HO.out.alloc _, HA.out, HBr.out.alloc (by (first | (with_reducible exact Nat.le_refl _) | (with_reducible assumption) | omega | (simp <;> omega))) _, by simp, heap_new _ _⟩
            case round =>
              obtain ⟨k, zs', hk, rfl, Hzl', HZ', Hzi, HO', HA', HBr', hbx, Hbx⟩ := hrel
              have hsz' := HBr'.out.size
              by_cases hkM : k < M
              · have hkM' : (k : Int) < (M : Int) := by omega
                have hk0 : (0 : Int) ≤ (k : Int) := by omega
                have hiz' : i < zs'.length := by rw [Hzl'.out]; exact hlt
                have hkp : k < yP.pages.length := by rw [HM.out]; exact hkM
                obtain ⟨gg, oo, ee, hgw, -, -, -, y3, -, hPg, -⟩ := (HO'.out.is Hzl'.out).at_ hlt
                injection ee with ee
                injection ee with ee1 ee2
                subst ee1 ee2
                simp only [Nat.zero_add] at y3
                have hrow := (HO'.out.2.2 _ (getD_mem zs' PrV.zero hiz')).1
                rw [Hzi.out] at y3 hPg hrow
                dsimp only at y3 hPg hrow
                rw [repK_len, HM.out] at y3 hPg hrow
                obtain ⟨pb, hpA, hpb1, hpb2⟩ := own_some hrow (by omega)
                subst hpA
                obtain ⟨pb', po, pe, -, p0, p1, p2⟩ := hPg.page_at hkM
                injection pe with pe
                injection pe with pe1 pe2
                subst pe1 pe2
                simp only [Nat.zero_add] at p0 p1 p2
                rw [repK_get hkp] at p0 p1 p2
                have fp := own_frozen hrow (k * 3 + 1)
                have hbx3 := cell_of_heap Hbx.out (i := 3) rfl
                have hbne : pb ≠ wo.heap.size := by
                  have := row_ne_box hrow Hbx.out (by decide)
                  simpa [Value.ownBlock] using this
                obtain ⟨⟨nu, fr, sh⟩, hq⟩ : ∃ q, yP.pages.getD k PgD.zero = q := ⟨_, rfl⟩
                rw [hq] at p0 p1 p2
                dsimp only at p0 p1 p2
                have Hq := Lib.hid hq
                clear hPg hrow hq
                by_cases hf : fr = a
                · subst hf
                  go_wp2_with fail
                  go_roundw
                  case rel =>
                    have hset := HO'.out.set_frame HA'.out hiz' (k := k) (f := fr) (by rw [Hzi.out])
                    have hst := HA'.out.set i { (zs'.getD i PrV.zero).P with pages := (zs'.getD i PrV.zero).P.pages.set k { (zs'.getD i PrV.zero).P.pages.getD k PgD.zero with fr := fr } }
                    refine ⟨k + 1, _, by omega, by go_num, ?_, ?_, ?_, hset, hst, HBr'.out.setCell (by show w.heap.size ≤ pb; omega) _, by simpa using hbx, ?_⟩
                    · show _ = _; rw [List.length_set]; exact Hzl'.out
                    · intro j hj hji
                      rw [getD_set_ne _ _ _ (fun e => hji e.symm)]
                      exact HZ'.out j hj hji
                    · show _ = _
                      have e1 : ∀ y : PrV, (zs'.set i y).getD i PrV.zero = y := fun y => by simp [List.getD, hiz']
                      rw [e1, Hzi.out]
                      dsimp only
                      rw [repK_get hkp, repK_step hkp, Hq.out]
                      simp [repP, repK]
                    · show _ = _
                      rw [Below.heap_setCell _ _ _ _ (fun e => hbne e.symm)]; exact Hbx.out
                  case measure => simp [intOf]; omega
                · have hf' : (fr == a) = false := by simp [hf]
                  go_wp2_with fail
                  go_roundw
                  case rel =>
                    refine ⟨k + 1, zs', by omega, by go_num, Hzl'.out, HZ'.out, ?_, HO'.out, HA'.out, HBr'.out, hbx, Hbx.out⟩
                    show _ = _
                    rw [Hzi.out, repK_same hkp (by rw [Hq.out]; exact hf)]
                  case measure => simp [intOf]; omega
              · have hkk : k = M := by omega
                go_wp2_with fail
                go_roundw
                case rel =>
                  refine ⟨i + 1, zs', by omega, by go_num, Hzl'.out, fun j hj => ?_, HO'.out, HA'.out, HBr'.out⟩
                  by_cases hji : j = i
                  · subst hji
                    rw [Hzi.out, if_pos (by omega), Hp.out]
                    exact repK_all (by rw [HM.out]; omega)
                  · rw [HZ'.out j hj hji]
                    by_cases hlt2 : j < i
                    · rw [if_pos hlt2, if_pos (by omega)]
                    · rw [if_neg hlt2, if_neg (by omega)]
                case measure => simp [intOf]; omega
          · have hin : i = n := by omega
            subst hin
            go_wp2_with fail
            go_ret2
            refine ⟨_, zs, rfl, ?_, HO.out, HBr.out⟩
            apply List.ext_getElem
            · simp [Hzl.out, Hl.out]
            · intro j h1 h2
              have hj : j < i := by simpa [Hzl.out] using h1
              have h3 := HZ.out j hj
              rw [if_pos hj] at h3
              have e1 : zs.getD j PrV.zero = zs[j]'(by rw [Hzl.out]; exact hj) := by simp [List.getD, List.getElem?_eq_getElem (show j < zs.length by rw [Hzl.out]; exact hj)]
              have e2 : xs.getD j PrV.zero = xs[j]'(by rw [Hl.out]; exact hj) := by simp [List.getD, List.getElem?_eq_getElem (show j < xs.length by rw [Hl.out]; exact hj)]
              rw [e1, e2] at h3
              simpa using h3
      · have hne' : (a != b) = true := by simp [hne]
        have hu : usersN (xs.map PrV.P) b = 0 := by
          cases hu : usersN (xs.map PrV.P) b with
          | zero => rfl
          | succ k => exact absurd ⟨hne, by omega⟩ hab
        have HU := Lib.hid hu
        clear hu
        go_enter Try.func95, Try.ntmps95
        go_wp2_with fail
        refine (within_any a 0 63 _).mono ?_
        rewrite [show decide ((0 : Int) ≤ a ∧ a ≤ 63) = true from by simp; omega]
        rintro e w' ⟨rfl, rfl⟩
        go_wp2_with fail
        refine (within_any b 0 63 _).mono ?_
        rewrite [show decide ((0 : Int) ≤ b ∧ b ≤ 63) = true from by simp; omega]
        rintro e w' ⟨rfl, rfl⟩
        go_wp2_with fail
        refine (dunused_any A n c b xs _ HI.out HS.out).mono ?_
        rewrite [HU.out, show ((0 : Nat) == 0) = true from rfl]
        rintro e w1 ⟨rfl, hb1⟩
        have HB1 := Lib.hid hb1
        have hs1 := hb1.size
        clear hb1
        go_wp2_with fail
        refine (ocopy_any A n c xs _ (HI.out.below HB1.out) HS.out).mono ?_
        rintro e w2 ⟨v, ys, rfl, hym, hO2, hA2, hb2⟩
        have hyl : ys.length = n := by have := congrArg List.length hym; simp at this; rw [this]; exact Hl.out
        obtain ⟨A2, c2, hv2⟩ := hO2.1
        rw [hyl] at hv2
        subst hv2
        have HO2 := Lib.hid (hO2.base hs1)
        have HA2 := Lib.hid hA2
        have HYM := Lib.hid hym
        have HYL := Lib.hid hyl
        have HB2 := Lib.hid (HB1.out.trans (hb2.mono hs1))
        clear hym hO2 hA2 hb2 hyl
        go_wp2_with fail
        go_loopw [35] (fun ii wr => ∃ (i : Nat) (zs : List PrV), i ≤ n ∧ ii = .int .i64 i ∧ Hid (zs.length = n) ∧ Hid (∀ j, j < n → (zs.getD j PrV.zero).P = if j < i then repD a b (xs.getD j PrV.zero).P else (xs.getD j PrV.zero).P) ∧ Hid (OwnProgs wr w.heap.size (.slice A2 n c2) zs) ∧ Hid (Apart zs) ∧ Hid (Below w.heap.size w wr)) (fun ii _ => n - (intOf ii).toNat)
        case atStart =>
          refine ⟨0, ys, by omega, rfl, HYL.out, fun j hj => ?_, HO2.out, HA2.out, HB2.out⟩
          rw [if_neg (by omega)]
          rw [← map_getD (by rw [HYL.out]; exact hj), HYM.out, map_getD (by rw [Hl.out]; exact hj)]
        case round =>
          obtain ⟨i, zs, hi, rfl, Hzl, HZ, HO, HA, HBr⟩ := hrel
          obtain ⟨wo, rfl⟩ : ∃ wo : World, wo = wr := ⟨_, rfl⟩
          have hsz := HBr.out.size
          by_cases hlt : i < n
          · have hlt' : (i : Int) < (n : Int) := by omega
            have hi0 : (0 : Int) ≤ (i : Int) := by omega
            have hiz : i < zs.length := by rw [Hzl.out]; exact hlt
            have hixs : i < xs.length := by rw [Hl.out]; exact hlt
            obtain ⟨g, hgA, hg1, hg2⟩ := own_some (by have := HO.out.2.1; rw [Hzl.out] at this; exact this) (show 0 < n by omega)
            subst hgA
            obtain ⟨gg, oo, ee, -, z0, z1, z2, z3, z4, -, -⟩ := (HO.out.is Hzl.out).at_ hlt
            injection ee with ee
            injection ee with ee1 ee2
            subst ee1 ee2
            simp only [Nat.zero_add] at z0 z1 z2 z3 z4
            obtain ⟨hpl, -⟩ := HS.out.at_ hixs
            have hzi := HZ.out i hlt
            rw [if_neg (Nat.lt_irrefl _)] at hzi
            obtain ⟨y, hy⟩ : ∃ y, zs.getD i PrV.zero = y := ⟨_, rfl⟩
            obtain ⟨p, hp⟩ : ∃ p, (xs.getD i PrV.zero).P = p := ⟨_, rfl⟩
            rw [hy] at z0 z1 z2 z3 z4 hzi
            rw [hp] at hzi hpl
            obtain ⟨yP, yA, yc, yTA, yTc⟩ := y
            dsimp only at z0 z1 z2 z3 z4 hzi
            subst hzi
            obtain ⟨M, hM⟩ : ∃ M, yP.pages.length = M := ⟨_, rfl⟩
            obtain ⟨TN, hTN⟩ : ∃ TN, yP.told.length = TN := ⟨_, rfl⟩
            rw [hM] at z3 hpl
            rw [hTN] at z4
            have HM := Lib.hid hM
            have Hy := Lib.hid hy
            have Hp := Lib.hid hp
            obtain ⟨zid, hzid⟩ : ∃ q, yP.id = q := ⟨_, rfl⟩
            obtain ⟨zte, hzte⟩ : ∃ q, yP.tells = q := ⟨_, rfl⟩
            obtain ⟨zde, hzde⟩ : ∃ q, yP.dead = q := ⟨_, rfl⟩
            rw [hzid] at z0
            rw [hzte] at z1
            rw [hzde] at z2
            clear hM hTN hy hp hzid hzte hzde
            go_wp2_with fail
            go_loopw [42] (fun ii wr => ∃ (k : Nat) (zs : List PrV), k ≤ M ∧ ii = .int .i64 k ∧ Hid (zs.length = n) ∧ Hid (∀ j, j < n → j ≠ i → (zs.getD j PrV.zero).P = if j < i then repD a b (xs.getD j PrV.zero).P else (xs.getD j PrV.zero).P) ∧ Hid (zs.getD i PrV.zero = ⟨repK a b k yP, yA, yc, yTA, yTc⟩) ∧ Hid (OwnProgs wr w.heap.size (.slice (some ⟨g, 0, none⟩) n c2) zs) ∧ Hid (Apart zs) ∧ Hid (Below w.heap.size w wr) ∧ wo.heap.size < wr.heap.size ∧ Hid (wr.heap[wo.heap.size]? = some (.cells #[.int .i64 zid, .bool zte, .bool zde, .slice yA M yc, .slice yTA TN yTc] 96))) (fun ii _ => M - (intOf ii).toNat)
            case atStart => exact ⟨0, zs, by omega, rfl, Hzl.out, fun j hj _ => HZ.out j hj, by rw [repK_zero]; exact Hy.out, HO.out.alloc _, HA.out, HBr.out.alloc (by (first | (with_reducible exact Nat.le_refl _) | (with_reducible assumption) | omega | (simp <;> omega))) _, by simp, heap_new _ _⟩
            case round =>
              obtain ⟨k, zs', hk, rfl, Hzl', HZ', Hzi, HO', HA', HBr', hbx, Hbx⟩ := hrel
              have hsz' := HBr'.out.size
              by_cases hkM : k < M
              · have hkM' : (k : Int) < (M : Int) := by omega
                have hk0 : (0 : Int) ≤ (k : Int) := by omega
                have hiz' : i < zs'.length := by rw [Hzl'.out]; exact hlt
                have hkp : k < yP.pages.length := by rw [HM.out]; exact hkM
                obtain ⟨gg, oo, ee, hgw, -, -, -, y3, -, hPg, -⟩ := (HO'.out.is Hzl'.out).at_ hlt
                injection ee with ee
                injection ee with ee1 ee2
                subst ee1 ee2
                simp only [Nat.zero_add] at y3
                have hrow := (HO'.out.2.2 _ (getD_mem zs' PrV.zero hiz')).1
                rw [Hzi.out] at y3 hPg hrow
                dsimp only at y3 hPg hrow
                rw [repK_len, HM.out] at y3 hPg hrow
                obtain ⟨pb, hpA, hpb1, hpb2⟩ := own_some hrow (by omega)
                subst hpA
                obtain ⟨pb', po, pe, -, p0, p1, p2⟩ := hPg.page_at hkM
                injection pe with pe
                injection pe with pe1 pe2
                subst pe1 pe2
                simp only [Nat.zero_add] at p0 p1 p2
                rw [repK_get hkp] at p0 p1 p2
                have fp := own_frozen hrow (k * 3 + 1)
                have hbx3 := cell_of_heap Hbx.out (i := 3) rfl
                have hbne : pb ≠ wo.heap.size := by
                  have := row_ne_box hrow Hbx.out (by decide)
                  simpa [Value.ownBlock] using this
                obtain ⟨⟨nu, fr, sh⟩, hq⟩ : ∃ q, yP.pages.getD k PgD.zero = q := ⟨_, rfl⟩
                rw [hq] at p0 p1 p2
                dsimp only at p0 p1 p2
                have Hq := Lib.hid hq
                clear hPg hrow hq
                by_cases hf : fr = a
                · subst hf
                  go_wp2_with fail
                  go_roundw
                  case rel =>
                    have hset := HO'.out.set_frame HA'.out hiz' (k := k) (f := b) (by rw [Hzi.out])
                    have hst := HA'.out.set i { (zs'.getD i PrV.zero).P with pages := (zs'.getD i PrV.zero).P.pages.set k { (zs'.getD i PrV.zero).P.pages.getD k PgD.zero with fr := b } }
                    refine ⟨k + 1, _, by omega, by go_num, ?_, ?_, ?_, hset, hst, HBr'.out.setCell (by show w.heap.size ≤ pb; omega) _, by simpa using hbx, ?_⟩
                    · show _ = _; rw [List.length_set]; exact Hzl'.out
                    · intro j hj hji
                      rw [getD_set_ne _ _ _ (fun e => hji e.symm)]
                      exact HZ'.out j hj hji
                    · show _ = _
                      have e1 : ∀ y : PrV, (zs'.set i y).getD i PrV.zero = y := fun y => by simp [List.getD, hiz']
                      rw [e1, Hzi.out]
                      dsimp only
                      rw [repK_get hkp, repK_step hkp, Hq.out]
                      simp [repP, repK]
                    · show _ = _
                      rw [Below.heap_setCell _ _ _ _ (fun e => hbne e.symm)]; exact Hbx.out
                  case measure => simp [intOf]; omega
                · have hf' : (fr == a) = false := by simp [hf]
                  go_wp2_with fail
                  go_roundw
                  case rel =>
                    refine ⟨k + 1, zs', by omega, by go_num, Hzl'.out, HZ'.out, ?_, HO'.out, HA'.out, HBr'.out, hbx, Hbx.out⟩
                    show _ = _
                    rw [Hzi.out, repK_same hkp (by rw [Hq.out]; exact hf)]
                  case measure => simp [intOf]; omega
              · have hkk : k = M := by omega
                go_wp2_with fail
                go_roundw
                case rel =>
                  refine ⟨i + 1, zs', by omega, by go_num, Hzl'.out, fun j hj => ?_, HO'.out, HA'.out, HBr'.out⟩
                  by_cases hji : j = i
                  · subst hji
                    rw [Hzi.out, if_pos (by omega), Hp.out]
                    exact repK_all (by rw [HM.out]; omega)
                  · rw [HZ'.out j hj hji]
                    by_cases hlt2 : j < i
                    · rw [if_pos hlt2, if_pos (by omega)]
                    · rw [if_neg hlt2, if_neg (by omega)]
                case measure => simp [intOf]; omega
          · have hin : i = n := by omega
            subst hin
            go_wp2_with fail
            go_ret2
            refine ⟨_, zs, rfl, ?_, HO.out, HBr.out⟩
            apply List.ext_getElem
            · simp [Hzl.out, Hl.out]
            · intro j h1 h2
              have hj : j < i := by simpa [Hzl.out] using h1
              have h3 := HZ.out j hj
              rw [if_pos hj] at h3
              have e1 : zs.getD j PrV.zero = zs[j]'(by rw [Hzl.out]; exact hj) := by simp [List.getD, List.getElem?_eq_getElem (show j < zs.length by rw [Hzl.out]; exact hj)]
              have e2 : xs.getD j PrV.zero = xs[j]'(by rw [Hl.out]; exact hj) := by simp [List.getD, List.getElem?_eq_getElem (show j < xs.length by rw [Hl.out]; exact hj)]
              rw [e1, e2] at h3
              simpa using h3
  · have hE : replE (xs.map PrV.P) a b = 2 := by rw [replE, if_neg hr]
    have hL : replL (xs.map PrV.P) a b = [] := by rw [replL, hE]; rfl
    rewrite [hE, hL]
    clear hE hL
    by_cases ha : 0 ≤ a ∧ a ≤ 63
    · obtain ⟨r1, r2⟩ := ha
      go_enter Try.func95, Try.ntmps95
      go_wp2_with fail
      refine (within_any a 0 63 _).mono ?_
      rewrite [show decide ((0 : Int) ≤ a ∧ a ≤ 63) = true from by simp; omega]
      rintro e w' ⟨rfl, rfl⟩
      go_wp2_with fail
      refine (within_any b 0 63 _).mono ?_
      rewrite [show decide ((0 : Int) ≤ b ∧ b ≤ 63) = false from by simp; omega]
      rintro e w' ⟨rfl, rfl⟩
      go_wp2_with fail
      go_ret2
      exact ⟨_, [], rfl, rfl, OwnProgs.nil_ _ _, Below.refl _ _⟩
    · have hd : decide ((0 : Int) ≤ a ∧ a ≤ 63) = false := decide_eq_false ha
      go_enter Try.func95, Try.ntmps95
      go_wp2_with fail
      refine (within_any a 0 63 _).mono ?_
      rewrite [hd]
      rintro e w' ⟨rfl, rfl⟩
      go_wp2_with fail
      go_ret2
      exact ⟨_, [], rfl, rfl, OwnProgs.nil_ _ _, Below.refl _ _⟩

end Go.Proofs.Ytjlmgjpnfppkoaa
