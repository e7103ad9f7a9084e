/-
  Programs made of dice, walked: they are valid, whatever the dice give.
-/
import Derived.LoopTactic
import Derived.Test.YtjlmgjpnfppkoaaPgMap
import Derived.Test.YtjlmgjpnfppkoaaPgFork
import Derived.Test.YtjlmgjpnfppkoaaFrGen
namespace Go.Proofs.Ytjlmgjpnfppkoaa
open Go.RowKit
attribute [local go_sem ↓] Go.wp_at_zero Go.wp_at_succ

/-- The programs that the dice begin with. -/
def StartOk (m : Nat) (ps : List PrD) : Prop :=
  ps.length = m ∧ (∀ p ∈ ps, 1 ≤ p.id ∧ p.id ≤ 5 * (m : Int) ∧ p.told = [] ∧ p.pages = []) ∧ ps.Pairwise fun p q => p.id < q.id
theorem StartOk.snoc {m : Nat} {ps : List PrD} (h : StartOk m ps) (t : Bool) : StartOk (m + 1) (ps ++ [⟨((m : Int) + 1) * 5, t, false, [], []⟩]) := by
  obtain ⟨h1, h2, h3⟩ := h
  refine ⟨by simp [h1], fun p hp => ?_, List.pairwise_append.2 ⟨h3, List.pairwise_singleton _ _, fun p hp q hq => ?_⟩⟩
  · rcases List.mem_append.1 hp with hp | hp
    · obtain ⟨a1, a2, a3, a4⟩ := h2 p hp
      exact ⟨a1, by omega, a3, a4⟩
    · have : p = ⟨((m : Int) + 1) * 5, t, false, [], []⟩ := by simpa using hp
      subst this
      exact ⟨by dsimp only; omega, by dsimp only; omega, rfl, rfl⟩
  · have : q = ⟨((m : Int) + 1) * 5, t, false, [], []⟩ := by simpa using hq
    subst this
    obtain ⟨a1, a2, a3, a4⟩ := h2 p hp
    show p.id < ((m : Int) + 1) * 5
    omega
theorem StartOk.inv {m : Nat} {ps : List PrD} (h : StartOk m ps) (hm : m ≤ 3) (N : Int) : Inv N ps := by
  obtain ⟨h1, h2, h3⟩ := h
  refine ⟨by omega, fun p hp => ?_, List.Pairwise.imp_of_mem ?_ h3⟩
  · obtain ⟨a1, a2, a3, a4⟩ := h2 p hp
    exact ⟨a1, by omega, a3, by simp [a4], fun _ => a4, fun x hx => by simp [a4] at hx, by rw [a4]; exact List.Pairwise.nil⟩
  · intro p q hp hq hlt
    exact ⟨hlt, fun x hx => by simp [(h2 p hp).2.2.2] at hx⟩

set_option maxRecDepth 100000 in
set_option maxHeartbeats 16000000 in
theorem programs_any (g N : Nat) (w : World) (hD : DiceOk w g) (hN : N ≤ 64) :
    Calls Try.prog 69 #[.pointer (some ⟨g, 0, none⟩), .int .i64 N] w fun e w' => ∃ v xs, e = .returned v ∧ OwnProgs w' w.heap.size v xs ∧ Inv N (xs.map PrV.P) ∧ DiceOk w' g ∧ But g w.heap.size w w' := by
  have HD := Lib.hid hD
  have hg := hD.lt
  clear hD
  go_enter Try.func69, Try.ntmps69
  go_wp2_with fail
  go_loopw [5, 6] (fun v i wr => ∃ (k : Nat) (j : Int) (xs : List PrV), k ≤ 3 ∧ i = .int .i64 j ∧ j = (k : Int) + 1 ∧ xs.length = k ∧ Hid (StartOk k (xs.map PrV.P)) ∧ Hid (OwnProgs wr w.heap.size v xs) ∧ Hid (DiceOk wr g) ∧ Hid (But g w.heap.size w wr)) (fun _ i _ => 4 - (intOf i).toNat)
  case atStart => exact ⟨0, 1, [], by omega, rfl, by omega, rfl, ⟨rfl, fun p hp => by simp at hp, List.Pairwise.nil⟩, OwnProgs.nil_ _ _, HD.out, But.refl _ _ _⟩
  case round =>
    obtain ⟨k, j, xs, hk, rfl, hj, hxl, HS, HO, HD, HB⟩ := hrel
    have hs := HB.out.size
    have hk0 : (0 : Int) ≤ (k : Int) := by omega
    have hk3 : (k : Int) ≤ 3 := by omega
    by_cases hlt : k < 3
    · have hlt' : j ≤ 3 := by omega
      have hj1 : 1 ≤ j := by omega
      have Hj := Lib.hid hj
      clear hj
      go_wp2_with fail
      refine (next_any g 2 _ HD.out (by omega) (by omega)).mono ?_
      rintro e wa ⟨z, rfl, z1, z2, hDa, hba⟩
      have HOa := Lib.hid (HO.out.but hba hg)
      have HBa := Lib.hid (HB.out.trans (hba.mono hs))
      have HDa := Lib.hid hDa
      have hsa := HBa.out.size
      clear hba hDa
      go_wp2_with (first
        | (at_builtin; refine wpList_append_prog rfl (.tmp 19) (.tmp 26) rfl w.heap.size _ xs rfl (HOa.out.alloc _) _ _ ⟨⟨j * 5, z == 0, false, [], []⟩, none, 0, none, 0⟩ rfl (Has.lit_at _ _ _ 1 5 _ _ rfl (by (first | (with_reducible exact Nat.le_refl _) | (with_reducible assumption) | omega | (simp <;> omega))) rfl) (own_new (World.ownsRow_nil _ _ _ _) _) (own_new (World.ownsRow_nil _ _ _ _) _) (by omega) (by (first | (with_reducible exact Nat.le_refl _) | (with_reducible assumption) | omega | (simp <;> omega))) ?_; intro v7 w7 hO7 hb7))
      go_roundw
      case rel =>
        have hj := Hj.out
        refine ⟨k + 1, j + 1, xs ++ [_], by omega, by go_num, by omega, by simp [hxl], ?_, hO7, ?_, ?_⟩
        · show StartOk _ _
          rw [List.map_append, hj]
          exact HS.out.snoc (z == 0)
        · have hd := HDa.out
          exact DiceOk.lies (by (repeat' (first | (with_reducible assumption) | (with_reducible refine DiceOk.put ?_ ?_ _) | (with_reducible refine DiceOk.alloc ?_ _) | (with_reducible refine DiceOk.drew ?_) | (with_reducible refine DiceOk.drewN ?_ _) | omega | (simp <;> omega)))) hb7 hg
        · have hb := HBa.out
          exact But.and_below (by (repeat' (first | (with_reducible exact But.refl _ _ _) | (with_reducible assumption) | (with_reducible refine But.alloc ?_ ?_ _) | (with_reducible refine But.drew ?_) | (with_reducible refine But.drewN ?_ _) | (with_reducible refine But.setCell ?_ ?_ _) | (with_reducible exact Nat.le_refl _) | omega | (simp <;> omega) | (left; first | omega | (simp <;> omega))))) hb7
      case measure => simp [intOf]; omega
    · have hk33 : k = 3 := by omega
      subst hk33
      obtain rfl : j = 4 := by omega
      clear hj
      have HI := Lib.hid (HS.out.inv (by omega) (N : Int))
      clear HS hk0 hk3 hlt hxl hk
      go_wp2_with fail
      go_loopw [5, 7] (fun v i wr => ∃ (k : Nat) (xs : List PrV), k ≤ N ∧ i = .int .i64 k ∧ Hid (Inv N (xs.map PrV.P)) ∧ Hid (OwnProgs wr w.heap.size v xs) ∧ Hid (DiceOk wr g) ∧ Hid (But g w.heap.size w wr)) (fun _ i _ => N - (intOf i).toNat)
      case atStart => exact ⟨0, xs, by omega, rfl, HI.out, HO.out, HD.out, HB.out⟩
      case round =>
        clear HI HO HD HB hs
        obtain ⟨k, xs, hk, rfl, HI, HO, HD, HB⟩ := hrel
        have hs := HB.out.size
        obtain ⟨A, c, hv⟩ := HO.out.1
        obtain ⟨n, hn⟩ : ∃ n, xs.length = n := ⟨_, rfl⟩
        rw [hn] at hv
        subst hv
        have Hn := Lib.hid hn
        clear hn
        by_cases hlt : k < N
        · have hlt' : (k : Int) < (N : Int) := by omega
          go_wp2_with fail
          refine (next_any g 3 _ HD.out (by omega) (by omega)).mono ?_
          rintro e wa ⟨x, rfl, x1, x2, hD', hb'⟩
          have HOa := Lib.hid (HO.out.but hb' hg)
          have HBa := Lib.hid (HB.out.trans (hb'.mono hs))
          have HDa := Lib.hid hD'
          have hsa := HBa.out.size
          clear hb' hD'
          by_cases hx : 0 < x
          · go_wp2_with fail
            refine (next_any g 3 _ HDa.out (by omega) (by omega)).mono ?_
            rintro e wb ⟨y, rfl, y1, y2, hD', hb'⟩
            have HOb := Lib.hid (HOa.out.but hb' hg)
            have HBb := Lib.hid (HBa.out.trans (hb'.mono hsa))
            have HDb := Lib.hid hD'
            have hsb := HBb.out.size
            clear hb' hD'
            go_wp2_with fail
            refine (next_any g 8 _ HDb.out (by omega) (by omega)).mono ?_
            rintro e wc ⟨z, rfl, z1, z2, hD', hb'⟩
            have HOc := Lib.hid (HOb.out.but hb' hg)
            have HBc := Lib.hid (HBb.out.trans (hb'.mono hsb))
            have HDc := Lib.hid hD'
            have hsc := HBc.out.size
            clear hb' hD'
            go_wp2_with fail
            refine (rmap_any w.heap.size A n c _ _ (k : Int) (N : Int) xs _ HOc.out Hn.out HI.out).mono ?_
            rintro e wd ⟨vd, Ed, yd, rfl, hok, hbd⟩
            have HDd := Lib.hid (HDc.out.below hbd)
            have HBd := Lib.hid (HBc.out.and_below (hbd.mono hsc))
            have hsd := HBd.out.size
            by_cases hEd : Ed = 0
            · subst hEd
              obtain ⟨hOd, hst⟩ := hok rfl
              have HOd := Lib.hid (hOd.base hsc)
              have HId := Lib.hid (hst.inv HI.out hlt')
              clear hok hOd hst hbd
              obtain ⟨A2, c2, hv2⟩ := HOd.out.1
              obtain ⟨n2, hn2⟩ : ∃ n, yd.length = n := ⟨_, rfl⟩
              rw [hn2] at hv2
              subst hv2
              have Hn2 := Lib.hid hn2
              clear hn2
              go_wp2_with fail
              refine (next_any g 8 _ HDd.out (by omega) (by omega)).mono ?_
              rintro e wf ⟨y, rfl, y1, y2, hD', hb'⟩
              have HOf := Lib.hid (HOd.out.but hb' hg)
              have HBf := Lib.hid (HBd.out.trans (hb'.mono hsd))
              have HDf := Lib.hid hD'
              have hsf := HBf.out.size
              clear hb' hD'
              by_cases hy : y = 1
              · subst hy
                go_wp2_with fail
                refine (next_any g 3 _ HDf.out (by omega) (by omega)).mono ?_
                rintro e wg ⟨p, rfl, p1, p2, hD', hb'⟩
                have HOg := Lib.hid (HOf.out.but hb' hg)
                have HBg := Lib.hid (HBf.out.trans (hb'.mono hsf))
                have HDg := Lib.hid hD'
                have hsg := HBg.out.size
                clear hb' hD'
                go_wp2_with fail
                refine (next_any g 20 _ HDg.out (by omega) (by omega)).mono ?_
                rintro e wh ⟨q, rfl, q1, q2, hD', hb'⟩
                have HOh := Lib.hid (HOg.out.but hb' hg)
                have HBh := Lib.hid (HBg.out.trans (hb'.mono hsg))
                have HDh := Lib.hid hD'
                have hsh := HBh.out.size
                clear hb' hD'
                go_wp2_with fail
                refine (rfork_any w.heap.size A2 n2 c2 _ _ (N : Int) yd _ HOh.out Hn2.out HId.out).mono ?_
                rintro e wi ⟨vi, Ei, yi, rfl, hok, hbi⟩
                have HDi := Lib.hid (HDh.out.below hbi)
                have HBi := Lib.hid (HBh.out.and_below (hbi.mono hsh))
                by_cases hEi : Ei = 0
                · subst hEi
                  obtain ⟨hOi, hst⟩ := hok rfl
                  have HOi := Lib.hid (hOi.base hsh)
                  have HIi := Lib.hid (hst.inv HId.out)
                  clear hok hOi hst hbi
                  go_wp2_with fail
                  go_roundw
                  case rel => exact ⟨k + 1, yi, by omega, by go_num, HIi.out, HOi.out, HDi.out, HBi.out⟩
                  case measure => simp [intOf]; omega
                · have hEi' : (Ei == 0) = false := by simp [hEi]
                  have HOi := Lib.hid (HOh.out.below hbi)
                  clear hok hbi
                  go_wp2_with fail
                  go_roundw
                  case rel => exact ⟨k + 1, yd, by omega, by go_num, HId.out, HOi.out, HDi.out, HBi.out⟩
                  case measure => simp [intOf]; omega
              · have hy' : (y == 1) = false := by simp [hy]
                go_wp2_with fail
                go_roundw
                case rel => exact ⟨k + 1, yd, by omega, by go_num, HId.out, HOf.out, HDf.out, HBf.out⟩
                case measure => simp [intOf]; omega
            · have hEd' : (Ed == 0) = false := by simp [hEd]
              have HOd := Lib.hid (HOc.out.below hbd)
              clear hok hbd
              go_wp2_with fail
              refine (next_any g 8 _ HDd.out (by omega) (by omega)).mono ?_
              rintro e wf ⟨y, rfl, y1, y2, hD', hb'⟩
              have HOf := Lib.hid (HOd.out.but hb' hg)
              have HBf := Lib.hid (HBd.out.trans (hb'.mono hsd))
              have HDf := Lib.hid hD'
              have hsf := HBf.out.size
              clear hb' hD'
              by_cases hy : y = 1
              · subst hy
                go_wp2_with fail
                refine (next_any g 3 _ HDf.out (by omega) (by omega)).mono ?_
                rintro e wg ⟨p, rfl, p1, p2, hD', hb'⟩
                have HOg := Lib.hid (HOf.out.but hb' hg)
                have HBg := Lib.hid (HBf.out.trans (hb'.mono hsf))
                have HDg := Lib.hid hD'
                have hsg := HBg.out.size
                clear hb' hD'
                go_wp2_with fail
                refine (next_any g 20 _ HDg.out (by omega) (by omega)).mono ?_
                rintro e wh ⟨q, rfl, q1, q2, hD', hb'⟩
                have HOh := Lib.hid (HOg.out.but hb' hg)
                have HBh := Lib.hid (HBg.out.trans (hb'.mono hsg))
                have HDh := Lib.hid hD'
                have hsh := HBh.out.size
                clear hb' hD'
                go_wp2_with fail
                refine (rfork_any w.heap.size A n c _ _ (N : Int) xs _ HOh.out Hn.out HI.out).mono ?_
                rintro e wi ⟨vi, Ei, yi, rfl, hok, hbi⟩
                have HDi := Lib.hid (HDh.out.below hbi)
                have HBi := Lib.hid (HBh.out.and_below (hbi.mono hsh))
                by_cases hEi : Ei = 0
                · subst hEi
                  obtain ⟨hOi, hst⟩ := hok rfl
                  have HOi := Lib.hid (hOi.base hsh)
                  have HIi := Lib.hid (hst.inv HI.out)
                  clear hok hOi hst hbi
                  go_wp2_with fail
                  go_roundw
                  case rel => exact ⟨k + 1, yi, by omega, by go_num, HIi.out, HOi.out, HDi.out, HBi.out⟩
                  case measure => simp [intOf]; omega
                · have hEi' : (Ei == 0) = false := by simp [hEi]
                  have HOi := Lib.hid (HOh.out.below hbi)
                  clear hok hbi
                  go_wp2_with fail
                  go_roundw
                  case rel => exact ⟨k + 1, xs, by omega, by go_num, HI.out, HOi.out, HDi.out, HBi.out⟩
                  case measure => simp [intOf]; omega
              · have hy' : (y == 1) = false := by simp [hy]
                go_wp2_with fail
                go_roundw
                case rel => exact ⟨k + 1, xs, by omega, by go_num, HI.out, HOf.out, HDf.out, HBf.out⟩
                case measure => simp [intOf]; omega
          · have hx0 : x = 0 := by omega
            subst hx0
            go_wp2_with fail
            refine (next_any g 8 _ HDa.out (by omega) (by omega)).mono ?_
            rintro e wf ⟨y, rfl, y1, y2, hD', hb'⟩
            have HOf := Lib.hid (HOa.out.but hb' hg)
            have HBf := Lib.hid (HBa.out.trans (hb'.mono hsa))
            have HDf := Lib.hid hD'
            have hsf := HBf.out.size
            clear hb' hD'
            by_cases hy : y = 1
            · subst hy
              go_wp2_with fail
              refine (next_any g 3 _ HDf.out (by omega) (by omega)).mono ?_
              rintro e wg ⟨p, rfl, p1, p2, hD', hb'⟩
              have HOg := Lib.hid (HOf.out.but hb' hg)
              have HBg := Lib.hid (HBf.out.trans (hb'.mono hsf))
              have HDg := Lib.hid hD'
              have hsg := HBg.out.size
              clear hb' hD'
              go_wp2_with fail
              refine (next_any g 20 _ HDg.out (by omega) (by omega)).mono ?_
              rintro e wh ⟨q, rfl, q1, q2, hD', hb'⟩
              have HOh := Lib.hid (HOg.out.but hb' hg)
              have HBh := Lib.hid (HBg.out.trans (hb'.mono hsg))
              have HDh := Lib.hid hD'
              have hsh := HBh.out.size
              clear hb' hD'
              go_wp2_with fail
              refine (rfork_any w.heap.size A n c _ _ (N : Int) xs _ HOh.out Hn.out HI.out).mono ?_
              rintro e wi ⟨vi, Ei, yi, rfl, hok, hbi⟩
              have HDi := Lib.hid (HDh.out.below hbi)
              have HBi := Lib.hid (HBh.out.and_below (hbi.mono hsh))
              by_cases hEi : Ei = 0
              · subst hEi
                obtain ⟨hOi, hst⟩ := hok rfl
                have HOi := Lib.hid (hOi.base hsh)
                have HIi := Lib.hid (hst.inv HI.out)
                clear hok hOi hst hbi
                go_wp2_with fail
                go_roundw
                case rel => exact ⟨k + 1, yi, by omega, by go_num, HIi.out, HOi.out, HDi.out, HBi.out⟩
                case measure => simp [intOf]; omega
              · have hEi' : (Ei == 0) = false := by simp [hEi]
                have HOi := Lib.hid (HOh.out.below hbi)
                clear hok hbi
                go_wp2_with fail
                go_roundw
                case rel => exact ⟨k + 1, xs, by omega, by go_num, HI.out, HOi.out, HDi.out, HBi.out⟩
                case measure => simp [intOf]; omega
            · have hy' : (y == 1) = false := by simp [hy]
              go_wp2_with fail
              go_roundw
              case rel => exact ⟨k + 1, xs, by omega, by go_num, HI.out, HOf.out, HDf.out, HBf.out⟩
              case measure => simp [intOf]; omega
        · have hge : N ≤ k := by omega
          have hge' : (N : Int) ≤ (k : Int) := by omega
          clear hlt hk
          go_wp2_with fail
          refine (next_any g 6 _ HD.out (by omega) (by omega)).mono ?_
          rintro e wa ⟨x, rfl, x1, x2, hD', hb'⟩
          have HOa := Lib.hid (HO.out.but hb' hg)
          have HBa := Lib.hid (HB.out.trans (hb'.mono hs))
          have HDa := Lib.hid hD'
          have hsa := HBa.out.size
          clear hb' hD'
          by_cases hx : x = 1
          · subst hx
            go_wp2_with fail
            refine (next_any g 3 _ HDa.out (by omega) (by omega)).mono ?_
            rintro e wb ⟨y, rfl, y1, y2, hD', hb'⟩
            have HOb := Lib.hid (HOa.out.but hb' hg)
            have HBb := Lib.hid (HBa.out.trans (hb'.mono hsa))
            have HDb := Lib.hid hD'
            have hsb := HBb.out.size
            clear hb' hD'
            go_wp2_with fail
            refine (rend_any w.heap.size A n c _ (N : Int) xs _ HOb.out Hn.out HI.out).mono ?_
            rintro e wd ⟨vd, ud, Ed, yd, rfl, hok, hbd⟩
            have HDd := Lib.hid (HDb.out.below hbd)
            have HBd := Lib.hid (HBb.out.and_below (hbd.mono hsb))
            by_cases hEd : Ed = 0
            · subst hEd
              obtain ⟨hOd, hst⟩ := hok rfl
              have HOd := Lib.hid (hOd.base hsb)
              have HId := Lib.hid (hst.inv HI.out)
              clear hok hOd hst hbd
              go_wp2_with fail
              go_ret
              exact ⟨_, yd, rfl, HOd.out, HId.out, HDd.out, HBd.out⟩
            · have hEd' : (Ed == 0) = false := by simp [hEd]
              have HOd := Lib.hid (HOb.out.below hbd)
              clear hok hbd
              go_wp2_with fail
              go_ret
              exact ⟨_, xs, rfl, HOd.out, HI.out, HDd.out, HBd.out⟩
          · have hx' : (x == 1) = false := by simp [hx]
            go_wp2_with fail
            go_ret
            exact ⟨_, xs, rfl, HOa.out, HI.out, HDa.out, HBa.out⟩
end Go.Proofs.Ytjlmgjpnfppkoaa
