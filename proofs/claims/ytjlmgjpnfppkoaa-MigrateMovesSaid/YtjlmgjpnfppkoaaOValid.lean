/-
  Programs, walked: valid programs are found valid (the given code).
-/
import Derived.LoopTactic
import Derived.IntWalk
import Derived.Test.YtjlmgjpnfppkoaaOVal
namespace Go.Proofs.Ytjlmgjpnfppkoaa
open Go.RowKit Go.Maps
attribute [local go_sem ↓] Go.wp_at_zero Go.wp_at_succ

/-- What stands at a frame when all is done: few pages, or shared ones. -/
def GoodRow (w : World) (v : Value) : Prop := ∃ A c zs, v = .slice A (List.length zs) c ∧ Has w A zs.length 3 (pgVals zs) ∧ zs.length ≤ 1000 ∧ (1 < zs.length → ∀ z ∈ zs, z.sh = true)
theorem GoodRow.slice {w : World} {v : Value} (h : GoodRow w v) : ∃ p : Option Addr × Nat × Nat, v = .slice p.1 p.2.1 p.2.2 := by
  obtain ⟨A, c, zs, hv, _⟩ := h
  exact ⟨(A, zs.length, c), hv⟩
theorem GoodRow.of {w : World} {B : Nat} {N : Int} {ps : List PrD} {k : Nat} {f : Int} {v : Value} (hI : Inv N ps) (hk : k = ps.length) (h : Grp w B ps k 0 f v) : GoodRow w v := by
  obtain ⟨A, c, zs, hv, ho, h1, h2, h3, h4⟩ := h
  subst hv
  have h8 := hI.1
  refine ⟨A, c, zs, rfl, Has.of_own ho, by omega, fun hl => pair_all ?_ h2 hl⟩
  refine List.Pairwise.sublist h4 ?_
  have := flat_pair hI
  simpa [flatN, hk] using this
theorem grown_of_below {w w' : World} (h : Below w.heap.size w w') : w.grownBy w' none := ⟨h.os, h.tape, h.output, h.size, fun i hi _ => h.block i hi⟩

set_option maxRecDepth 100000 in
set_option maxHeartbeats 16000000 in
theorem ovalid_any (A : Option Addr) (n c : Nat) (N : Int) (xs : List PrV) (w : World) (h : IsProgs w A n xs) (hI : Inv N (xs.map PrV.P)) (hN : N ≤ 1000000) :
    Calls Try.prog 70 #[.slice A n c, .int .i64 N] w fun e w' => e = .returned (.bool true) ∧ Below w.heap.size w w' := by
  have HI := Lib.hid h
  have Hl := Lib.hid h.len
  have HInv := Lib.hid hI
  have hn : n ≤ 8 := by have := hI.1; rw [List.length_map, h.len] at this; exact this
  have hn' : (n : Int) ≤ 8 := by omega
  have hcell : ∀ i, i < n → ProgOk N (xs.getD i PrV.zero).P := fun i hi => by
    refine hI.2.1 _ (List.mem_map_of_mem (getD_mem xs PrV.zero (by rw [h.len]; exact hi)))
  have Hok := Lib.hid hcell
  have hord : ∀ i j, i < j → j < n → (xs.getD i PrV.zero).P.id < (xs.getD j PrV.zero).P.id := fun i j hij hj => by
    have hj' : j < (xs.map PrV.P).length := by rw [List.length_map, h.len]; exact hj
    have := (List.pairwise_iff_getElem.1 hI.2.2 i j (by omega) hj' hij).1
    have hjx : j < xs.length := by rw [h.len]; exact hj
    simpa [List.getD, List.getElem?_eq_getElem hjx, List.getElem?_eq_getElem (show i < xs.length by omega)] using this
  have Hord := Lib.hid hord
  have hmap : ∀ i, i < n → (xs.map PrV.P).getD i PrD.zero = (xs.getD i PrV.zero).P := fun i hi => map_getD (by rw [h.len]; exact hi)
  have Hmap := Lib.hid hmap
  clear h hI hcell hord hmap
  have hmm := @run_makeMap Try.prog
  go_enter Try.func70, Try.ntmps70
  go_wp2_with fail
  go_loopw [15] (fun i wr => ∃ k : Nat, k ≤ n ∧ i = .int .i64 k ∧ Hid (MapAll wr w.heap.size (16 * k) (Grp wr (w.heap.size + 1) (xs.map PrV.P) k 0)) ∧ Hid (Below w.heap.size w wr) ∧ w.heap.size < wr.heap.size) (fun i _ => n - (intOf i).toNat)
  case atStart =>
    refine ⟨0, by omega, rfl, MapAll.made w _, ?_, by simp⟩
    show Below _ _ _
    (repeat' (first | (with_reducible exact Below.refl _ _) | (with_reducible assumption) | (with_reducible refine Below.alloc ?_ ?_ _) | (with_reducible refine Below.drew ?_) | (with_reducible refine below_drewN ?_ _) | (with_reducible refine Below.setCell ?_ ?_ _) | (with_reducible exact Nat.le_refl _) | omega | (simp <;> omega)))
  case round =>
    obtain ⟨k, hk, rfl, HMA, HB, hlt0⟩ := hrel
    have hs := HB.out.size
    by_cases hlt : k < n
    · have hlt' : (k : Int) < (n : Int) := by omega
      have hk0 : (0 : Int) ≤ (k : Int) := by omega
      obtain ⟨b, off, rfl, hb, d0, d1, d2, d3, d4, hP, hT⟩ := HI.out.at_ hlt
      have hok := Hok.out k hlt
      have hmp := Hmap.out k hlt
      obtain ⟨x, hx⟩ : ∃ x, xs.getD k PrV.zero = x := ⟨_, rfl⟩
      rw [hx] at d0 d1 d2 d3 d4 hP hok hmp
      have Hx := Lib.hid hx
      obtain ⟨⟨id, te, de, pgs, told⟩, PA, Pc, TA, Tc⟩ := x
      dsimp only at d0 d1 d2 d3 d4 hP hok hmp
      obtain rfl : told = [] := hok.2.2.1
      obtain ⟨M, hM⟩ : ∃ M, pgs.length = M := ⟨_, rfl⟩
      rw [hM] at d3 hP
      simp only [List.length_nil] at d4
      have HM := Lib.hid hM
      have HP := Lib.hid hP
      have HK := Lib.hid hok
      have Hmp := Lib.hid hmp
      have hM16 : M ≤ 16 := by have := hok.2.2.2.1; dsimp only at this; rw [hM] at this; exact this
      have g0 := cellK HB.out hb d0
      have g1 := cellK HB.out hb d1
      have g2 := cellK HB.out hb d2
      have g3 := cellK HB.out hb d3
      have g4 := cellK HB.out hb d4
      have lbr := Nat.lt_of_lt_of_le hb hs
      clear d0 d1 d2 d3 d4 hx hM hP hT hok hmp
      rcases Nat.eq_zero_or_pos k with hkz | hkp
      · subst hkz
        simp only [show ((0 : Nat) : Int) = 0 from rfl]
        simp only [Nat.zero_mul, Nat.add_zero] at g0 g1 g2 g3 g4
        go_wp2_with fail
        refine wp_region_noPanic ?_
        refine wp_region_held_drew (S := fun w' => w'.cell? ⟨wr.heap.size, 0, none⟩ = some (.int .i64 id) ∧ w'.cell? ⟨wr.heap.size, 1, none⟩ = some (.bool te) ∧ w'.cell? ⟨wr.heap.size, 2, none⟩ = some (.bool de) ∧ w'.cell? ⟨wr.heap.size, 3, none⟩ = some (.slice PA M Pc) ∧ w'.cell? ⟨wr.heap.size, 4, none⟩ = some (.slice TA 0 Tc)) (by kernel_rfl) (by simp [go_sem, *]) (fun hHeld => ?_)
        refine wpAnyH_take (i := 0) (v := ?v0) rfl (by kernel_rfl) (by kernel_rfl) (by kernel_rfl) (fun _ _ _ h => h) (Or.inl ⟨by rfl, ?hy0⟩) (by assumption) ?rest0
        case hy0 =>
          intro w hSw
          try dsimp only at hSw
          go_simp
          try (with_reducible rfl)
        try simp only [List.getElem_toArray, List.getElem_cons_zero, Act.put, List.setIfInBounds_toArray, List.set_cons_zero, List.set_cons_succ]
        refine wpAnyH_take (i := 1) (v := ?v1) rfl (by kernel_rfl) (by kernel_rfl) (by kernel_rfl) (fun _ _ _ h => h) (Or.inl ⟨by rfl, ?hy1⟩) (by assumption) ?rest1
        case hy1 =>
          intro w hSw
          try dsimp only at hSw
          go_simp
          try (with_reducible rfl)
        try simp only [List.getElem_toArray, List.getElem_cons_zero, List.getElem_cons_succ, Act.put, List.setIfInBounds_toArray, List.set_cons_zero, List.set_cons_succ]
        refine wpAnyH_ready (rs := [2]) (by kernel_rfl) (by simp) ?_
        refine AllReadyH.cons rfl (fun K hK => ?_) AllReadyH.nil
        simp only [List.getElem_toArray, List.getElem_cons_zero, List.getElem_cons_succ]
        go_simp
        go_at_call 92
        refine (pvalid_any id te de PA M Pc pgs TA Tc N _ (HP.out.below (HB.out.trans (show Below w.heap.size wr _ by (repeat' (first | (with_reducible exact Below.refl _ _) | (with_reducible assumption) | (with_reducible refine Below.alloc ?_ ?_ _) | (with_reducible refine Below.drew ?_) | (with_reducible refine below_drewN ?_ _) | (with_reducible refine Below.setCell ?_ ?_ _) | (with_reducible exact Nat.le_refl _) | omega | (simp <;> omega)))))) HK.out hN).mono ?_
        rintro e w5 ⟨rfl, hb5⟩
        have hB5 := (show Below wr.heap.size wr _ by (repeat' (first | (with_reducible exact Below.refl _ _) | (with_reducible assumption) | (with_reducible refine Below.alloc ?_ ?_ _) | (with_reducible refine Below.drew ?_) | (with_reducible refine below_drewN ?_ _) | (with_reducible refine Below.setCell ?_ ?_ _) | (with_reducible exact Nat.le_refl _) | omega | (simp <;> omega)))).trans (hb5.mono (show wr.heap.size ≤ _ by (first | (with_reducible exact Nat.le_refl _) | (with_reducible assumption) | omega | (simp <;> omega))))
        have hs5 := hb5.size
        (try simp only [World.size_alloc, World.size_drew] at hs5)
        obtain ⟨q5, r5⟩ := bkeep hb5 wr.heap.size (by (first | (with_reducible exact Nat.le_refl _) | (with_reducible assumption) | omega | (simp <;> omega)))
        have l5 : wr.heap.size < w5.heap.size := (by omega)
        go_wp2_with fail
        refine hK.out _ _ ?_ (fun hHeld => ?_)
        · simp [go_sem, *]
        clear hK K
        try simp only [List.getElem_toArray, List.getElem_cons_zero, List.getElem_cons_succ, Act.put, List.setIfInBounds_toArray, List.set_cons_zero, List.set_cons_succ]
        refine wpAnyH_take (i := 3) (v := ?v3) rfl (by kernel_rfl) (by kernel_rfl) (by kernel_rfl) (fun _ _ _ h => h) (Or.inl ⟨by rfl, ?hy3⟩) (by assumption) ?rest3
        case hy3 =>
          intro w hSw
          try dsimp only at hSw
          go_simp
          try (with_reducible rfl)
        try simp only [List.getElem_toArray, List.getElem_cons_zero, List.getElem_cons_succ, Act.put, List.setIfInBounds_toArray, List.set_cons_zero, List.set_cons_succ]
        refine wpAnyH_take (i := 4) (v := ?v4) rfl (by kernel_rfl) (by kernel_rfl) (by kernel_rfl) (fun _ _ _ h => h) (Or.inl ⟨by rfl, ?hy4⟩) (by assumption) ?rest4
        case hy4 =>
          intro w hSw
          try dsimp only at hSw
          go_simp
          try (with_reducible rfl)
        try simp only [List.getElem_toArray, List.getElem_cons_zero, List.getElem_cons_succ, Act.put, List.setIfInBounds_toArray, List.set_cons_zero, List.set_cons_succ]
        refine wpAnyH_take (i := 5) (v := ?v5) rfl (by kernel_rfl) (by kernel_rfl) (by kernel_rfl) (fun _ _ _ h => h) (Or.inl ⟨by rfl, ?hy5⟩) (by assumption) ?rest5
        case hy5 =>
          intro w hSw
          try dsimp only at hSw
          go_simp
          try (with_reducible rfl)
        try simp only [List.getElem_toArray, List.getElem_cons_zero, List.getElem_cons_succ, Act.put, List.setIfInBounds_toArray, List.set_cons_zero, List.set_cons_succ]
        refine wpAnyH_take (i := 6) (v := ?v6) rfl (by kernel_rfl) (by kernel_rfl) (by kernel_rfl) (fun _ _ _ h => h) (Or.inl ⟨by rfl, ?hy6⟩) (by assumption) ?rest6
        case hy6 =>
          intro w hSw
          try dsimp only at hSw
          go_simp
          try (with_reducible rfl)
        try simp only [List.getElem_toArray, List.getElem_cons_zero, List.getElem_cons_succ, Act.put, List.setIfInBounds_toArray, List.set_cons_zero, List.set_cons_succ]
        refine wpAnyH_take (i := 7) (v := ?v7) rfl (by kernel_rfl) (by kernel_rfl) (by kernel_rfl) (fun _ _ _ h => h) (Or.inl ⟨by rfl, ?hy7⟩) (by assumption) ?rest7
        case hy7 =>
          intro w hSw
          try dsimp only at hSw
          go_simp
          try (with_reducible rfl)
        try simp only [List.getElem_toArray, List.getElem_cons_zero, List.getElem_cons_succ, Act.put, List.setIfInBounds_toArray, List.set_cons_zero, List.set_cons_succ]
        refine wpAnyH_take (i := 8) (v := undef) rfl (by kernel_rfl) (by kernel_rfl) (by kernel_rfl) (fun _ _ _ h => h) (Or.inr ⟨by rfl, rfl⟩) (by assumption) ?_
        try simp only [List.getElem_toArray, List.getElem_cons_zero, List.getElem_cons_succ, Act.put, List.setIfInBounds_toArray, List.set_cons_zero, List.set_cons_succ]
        refine wpAnyH_take (i := 9) (v := undef) rfl (by kernel_rfl) (by kernel_rfl) (by kernel_rfl) (fun _ _ _ h => h) (Or.inr ⟨by rfl, rfl⟩) (by assumption) ?_
        try simp only [List.getElem_toArray, List.getElem_cons_zero, List.getElem_cons_succ, Act.put, List.setIfInBounds_toArray, List.set_cons_zero, List.set_cons_succ]
        refine wpAnyH_take (i := 10) (v := undef) rfl (by kernel_rfl) (by kernel_rfl) (by kernel_rfl) (fun _ _ _ h => h) (Or.inr ⟨by rfl, rfl⟩) (by assumption) ?_
        try simp only [List.getElem_toArray, List.getElem_cons_zero, List.getElem_cons_succ, Act.put, List.setIfInBounds_toArray, List.set_cons_zero, List.set_cons_succ]
        refine wpAnyH_take (i := 11) (v := undef) rfl (by kernel_rfl) (by kernel_rfl) (by kernel_rfl) (fun _ _ _ h => h) (Or.inr ⟨by rfl, rfl⟩) (by assumption) ?_
        try simp only [List.getElem_toArray, List.getElem_cons_zero, List.getElem_cons_succ, Act.put, List.setIfInBounds_toArray, List.set_cons_zero, List.set_cons_succ]
        refine wpAnyH_take (i := 12) (v := undef) rfl (by kernel_rfl) (by kernel_rfl) (by kernel_rfl) (fun _ _ _ h => h) (Or.inr ⟨by rfl, rfl⟩) (by assumption) ?_
        try simp only [List.getElem_toArray, List.getElem_cons_zero, List.getElem_cons_succ, Act.put, List.setIfInBounds_toArray, List.set_cons_zero, List.set_cons_succ]
        refine wpAnyH_take (i := 13) (v := undef) rfl (by kernel_rfl) (by kernel_rfl) (by kernel_rfl) (fun _ _ _ h => h) (Or.inr ⟨by rfl, rfl⟩) (by assumption) ?_
        try simp only [List.getElem_toArray, List.getElem_cons_zero, List.getElem_cons_succ, Act.put, List.setIfInBounds_toArray, List.set_cons_zero, List.set_cons_succ]
        refine wpAnyH_take (i := 14) (v := undef) rfl (by kernel_rfl) (by kernel_rfl) (by kernel_rfl) (fun _ _ _ h => h) (Or.inr ⟨by rfl, rfl⟩) (by assumption) ?_
        try simp only [List.getElem_toArray, List.getElem_cons_zero, List.getElem_cons_succ, Act.put, List.setIfInBounds_toArray, List.set_cons_zero, List.set_cons_succ]
        refine wpAnyH_take (i := 15) (v := undef) rfl (by kernel_rfl) (by kernel_rfl) (by kernel_rfl) (fun _ _ _ h => h) (Or.inr ⟨by rfl, rfl⟩) (by assumption) ?_
        try simp only [List.getElem_toArray, List.getElem_cons_zero, List.getElem_cons_succ, Act.put, List.setIfInBounds_toArray, List.set_cons_zero, List.set_cons_succ]
        refine wpAnyH_take (i := 16) (v := undef) rfl (by kernel_rfl) (by kernel_rfl) (by kernel_rfl) (fun _ _ _ h => h) (Or.inr ⟨by rfl, rfl⟩) (by assumption) ?_
        try simp only [List.getElem_toArray, List.getElem_cons_zero, List.getElem_cons_succ, Act.put, List.setIfInBounds_toArray, List.set_cons_zero, List.set_cons_succ]
        refine wpAnyH_take (i := 17) (v := ?v17) rfl (by kernel_rfl) (by kernel_rfl) (by kernel_rfl) (fun _ _ _ h => h) (Or.inl ⟨by rfl, ?hy17⟩) (by assumption) ?rest17
        case hy17 =>
          intro w hSw
          try dsimp only at hSw
          go_simp
          try (with_reducible rfl)
        try simp only [List.getElem_toArray, List.getElem_cons_zero, List.getElem_cons_succ, Act.put, List.setIfInBounds_toArray, List.set_cons_zero, List.set_cons_succ]
        refine wpAnyH_take (i := 18) (v := ?v18) rfl (by kernel_rfl) (by kernel_rfl) (by kernel_rfl) (fun _ _ _ h => h) (Or.inl ⟨by rfl, ?hy18⟩) (by assumption) ?rest18
        case hy18 =>
          intro w hSw
          try dsimp only at hSw
          go_simp
          try (with_reducible rfl)
        try simp only [List.getElem_toArray, List.getElem_cons_zero, List.getElem_cons_succ, Act.put, List.setIfInBounds_toArray, List.set_cons_zero, List.set_cons_succ]
        refine wpAnyH_done (by kernel_rfl) ?_ _
        refine NoPanic.normal ?_
        have HM5 := Lib.hid ((HMA.out.below hB5 hlt0).imp fun f v hv => hv.keep (grown_of_below hB5) (by cases v.ownBlock <;> simp))
        have HB5 := Lib.hid (HB.out.trans (hB5.mono hs))
        have hlt5 : w.heap.size < w5.heap.size := Nat.lt_of_lt_of_le hlt0 hB5.size
        clear HMA hB5 q5 r5 hb5
        go_wp2_with fail
        obtain ⟨wo, rfl⟩ : ∃ wo : World, wo = wr := ⟨_, rfl⟩
        go_loopw [42] (fun i wr => ∃ q : Nat, q ≤ M ∧ i = .int .i64 q ∧ Hid (MapAll wr w.heap.size (16 * 0 + q) (Grp wr (w.heap.size + 1) (xs.map PrV.P) 0 q)) ∧ Hid (Below w.heap.size w wr) ∧ w.heap.size < wr.heap.size) (fun i _ => M - (intOf i).toNat)
        case atStart => exact ⟨0, by omega, rfl, HM5.out, HB5.out, hlt5⟩
        case round =>
          obtain ⟨q, hq, rfl, HMq, HBq, hltq⟩ := hrel
          have hsq := HBq.out.size
          by_cases hqM : q < M
          · have hqM' : (q : Int) < (M : Int) := by omega
            have hq0 : (0 : Int) ≤ (q : Int) := by omega
            have hql : q < pgs.length := by rw [HM.out]; exact hqM
            obtain ⟨-, -, f0, fN⟩ := pg_at HK.out (q := q) (by exact hql)
            dsimp only at f0 fN
            obtain ⟨pb, poff, hPA, hpb, p0, p1, p2⟩ := (HP.out.below HBq.out).page_at hqM
            obtain ⟨y, hy⟩ : ∃ y, pgs.getD q PgD.zero = y := ⟨_, rfl⟩
            rw [hy] at p0 p1 p2 f0 fN
            obtain ⟨A0, c0, zs, hrow, hnil, hzf, hzl, hzs, hlk⟩ := grp_look (f := y.fr) HMq.out f0 (by omega)
            have Hyq : Hid (((xs.map PrV.P).getD 0 PrD.zero).pages.getD q PgD.zero = y) := by
              show _ = _
              rw [Hmp.out]; exact hy
            have Hqp : Hid (q < ((xs.map PrV.P).getD 0 PrD.zero).pages.length) := by
              show _ < _
              rw [Hmp.out]; exact hql
            have e0 : ∀ o, (Instr.lookup 113 (.map (some w.heap.size)) (.int .i64 y.fr) false).run Try.prog ((wr.alloc o).drew) = .ok (.slice A0 zs.length c0) ((wr.alloc o).drew) := fun o => hlk _ ((MapKept.heap_alloc wr o).2 _ hltq)
            have e1 : ∀ o o', (Instr.lookup 113 (.map (some w.heap.size)) (.int .i64 y.fr) false).run Try.prog (((wr.alloc o).alloc o').drew) = .ok (.slice A0 zs.length c0) (((wr.alloc o).alloc o').drew) := fun o o' => hlk _ (((MapKept.heap_alloc (wr.alloc o) o').2 _ (by simp; omega)).trans ((MapKept.heap_alloc wr o).2 _ hltq))
            have Hne : Hid (some wr.heap.size ≠ (Value.slice A0 zs.length c0).ownBlock) := fun e => absurd (hrow.lt _ e.symm).2 (Nat.lt_irrefl _)
            have Hrow := Lib.hid hrow
            have Hnil := Lib.hid hnil
            have Hzf := Lib.hid hzf
            have Hzs := Lib.hid hzs
            have Hzl := Lib.hid hzl
            have hzl2 : zs.length ≤ 1000 := by omega
            have f9 : y.fr ≤ 1000000 := by omega
            obtain ⟨Z, hZ⟩ : ∃ Z, zs.length = Z := ⟨_, rfl⟩
            have HZ := Lib.hid hZ
            obtain ⟨num, fr, sh⟩ := y
            dsimp only at p0 p1 p2 e0 e1 f0 f9
            rw [hZ] at e0 e1 hzl2
            subst hPA
            clear hrow hnil hzf hzs hlk hy fN hZ
            go_wp2_with fail
            go_region_held3 (fun w' => w'.cell? ⟨wr.heap.size, 0, none⟩ = some (.int .i64 num) ∧ w'.cell? ⟨wr.heap.size, 1, none⟩ = some (.int .i64 fr) ∧ w'.cell? ⟨wr.heap.size, 2, none⟩ = some (.bool sh)) (simp [go_sem, *]) (first
              | (refine step_add_pages (by rfl) (.tmp 52) (.tmp 54) (by rfl) (w.heap.size + 1) A0 Z c0 zs (by rfl) (by have ho := Hrow.out; rw [HZ.out] at ho; (repeat' (first | (with_reducible assumption) | (with_reducible refine own_put ?_ ?_ _) | (with_reducible refine own_new ?_ _) | (with_reducible refine own_drew ?_) | (with_reducible refine own_drewN ?_ _) | omega))) _ 1 1 [⟨num, fr, sh⟩] (by rfl) (by first | exact Has.lit_at _ _ _ 1 3 _ _ rfl (by (first | (with_reducible exact Nat.le_refl _) | (with_reducible assumption) | omega | (simp <;> omega))) rfl | exact (Has.lit_at _ _ _ 1 3 _ _ rfl (by (first | (with_reducible exact Nat.le_refl _) | (with_reducible assumption) | omega | (simp <;> omega))) rfl).drew) (by omega) (by omega) (by (first | (with_reducible exact Nat.le_refl _) | (with_reducible assumption) | omega | (simp <;> omega))) ?_; intro A7 c7 w7 hown7 hg7 hb7; have hg7' := hg7; rw [← HZ.out] at hg7'; obtain ⟨w8, hrun, hM8, hg8⟩ := grp_store (y := ⟨num, fr, sh⟩) (n7 := Z + 1) HMq.out (grown_of_below (by (repeat' (first | (with_reducible exact Below.refl _ _) | (with_reducible assumption) | (with_reducible refine Below.alloc ?_ ?_ _) | (with_reducible refine Below.drew ?_) | (with_reducible refine below_drewN ?_ _) | (with_reducible refine Below.setCell ?_ ?_ _) | (with_reducible exact Nat.le_refl _) | omega | (simp <;> omega))))) Hrow.out Hnil.out Hzf.out Hzl.out Hzs.out hg7' (by rw [HZ.out]) hown7 Hqp.out Hyq.out f0 f9 (by omega) (by omega); have t7 := hg7.block wr.heap.size (by (first | (with_reducible exact Nat.le_refl _) | (with_reducible assumption) | omega | (simp <;> omega))) (by rw [← HZ.out]; exact Hne.out); have t8 := hg8.block wr.heap.size (by have h9 := hg7.size; simp at h9; omega) (by simp; omega); have k70 : w7.cell? ⟨wr.heap.size, 0, none⟩ = some (.int .i64 num) := (World.cell?_of_block t7).trans (by simp [go_sem]); have k71 : w7.cell? ⟨wr.heap.size, 1, none⟩ = some (.int .i64 fr) := (World.cell?_of_block t7).trans (by simp [go_sem]); have k72 : w7.cell? ⟨wr.heap.size, 2, none⟩ = some (.bool sh) := (World.cell?_of_block t7).trans (by simp [go_sem]); have k80 := (World.cell?_of_block (a := ⟨wr.heap.size, 0, none⟩) t8).trans k70; have k81 := (World.cell?_of_block (a := ⟨wr.heap.size, 1, none⟩) t8).trans k71; have k82 := (World.cell?_of_block (a := ⟨wr.heap.size, 2, none⟩) t8).trans k72))
            all_goals (go_wp2_with fail)
            all_goals
              go_roundw
              case rel =>
                refine ⟨q + 1, by omega, by go_num, hM8, ?_, ?_⟩
                · show Below _ _ _
                  have hbq := HBq.out
                  exact ((show Below w.heap.size w _ by (repeat' (first | (with_reducible exact Below.refl _ _) | (with_reducible assumption) | (with_reducible refine Below.alloc ?_ ?_ _) | (with_reducible refine Below.drew ?_) | (with_reducible refine below_drewN ?_ _) | (with_reducible refine Below.setCell ?_ ?_ _) | (with_reducible exact Nat.le_refl _) | omega | (simp <;> omega)))).trans (hb7.mono (by omega))).grown hg8 (by have h9 := hg7.size; simp at h9; omega) (fun j hj => by cases hj; omega)
                · have h9 := hg7.size
                  have h10 := hg8.size
                  simp at h9
                  omega
              case measure => simp [intOf]; omega
          · have hqq : q = M := by omega
            have hqq' : (M : Int) ≤ (q : Int) := by omega
            clear hqM
            go_wp2_with fail
            go_roundw
            case rel =>
              refine ⟨0 + 1, by omega, by go_num, ?_, HBq.out, hltq⟩
              show MapAll _ _ _ _
              subst hqq
              exact (HMq.out.imp fun f v hv => hv.prog (by rw [List.length_map, Hl.out]; exact hlt) (by rw [Hmp.out]; exact HM.out) hM16).more (by omega)
            case measure => simp [intOf]; omega
      · obtain ⟨r, rfl⟩ : ∃ r, k = r + 1 := ⟨k - 1, by omega⟩
        have hrn0 : r < n := by omega
        obtain ⟨b', off', e', -, t0, -⟩ := HI.out.at_ hrn0
        injection e' with e'
        injection e' with e1 e2
        subst e1 e2
        obtain ⟨pid, hpid⟩ : ∃ z, (xs.getD r PrV.zero).P.id = z := ⟨_, rfl⟩
        have hpl := Hord.out r (r + 1) (by omega) hlt
        rw [hpid, Hx.out] at hpl
        rw [hpid] at t0
        dsimp only at hpl
        have gp := cellK HB.out hb t0
        have d5 : decide (id ≤ pid) = false := by simp; omega
        have dk : decide ((0 : Int) < (r : Int) + 1) = true := by simp <;> omega
        have wr5 : IntKind.i64.wrap (r : Int) = r := IntWalk.i64_in _ (by omega)
        have hrn : (r : Int) < (n : Int) := by omega
        have hr0 : (0 : Int) ≤ (r : Int) := by omega
        clear hpid t0
        go_wp2_with fail
        go_region_held3 (fun w' => w'.cell? ⟨wr.heap.size, 0, none⟩ = some (.int .i64 id) ∧ w'.cell? ⟨wr.heap.size, 1, none⟩ = some (.bool te) ∧ w'.cell? ⟨wr.heap.size, 2, none⟩ = some (.bool de) ∧ w'.cell? ⟨wr.heap.size, 3, none⟩ = some (.slice PA M Pc) ∧ w'.cell? ⟨wr.heap.size, 4, none⟩ = some (.slice TA 0 Tc) ∧ w'.cell? ⟨b, off + r * 5, none⟩ = some (.int .i64 pid)) (simp [go_sem, *]) (first
          | (go_at_call 92; refine (pvalid_any id te de PA M Pc pgs TA Tc N _ (HP.out.below (HB.out.trans (show Below w.heap.size wr _ by (repeat' (first | (with_reducible exact Below.refl _ _) | (with_reducible assumption) | (with_reducible refine Below.alloc ?_ ?_ _) | (with_reducible refine Below.drew ?_) | (with_reducible refine below_drewN ?_ _) | (with_reducible refine Below.setCell ?_ ?_ _) | (with_reducible exact Nat.le_refl _) | omega | (simp <;> omega)))))) HK.out hN).mono ?_; rintro e w5 ⟨rfl, hb5⟩; have hB5 := (show Below wr.heap.size wr _ by (repeat' (first | (with_reducible exact Below.refl _ _) | (with_reducible assumption) | (with_reducible refine Below.alloc ?_ ?_ _) | (with_reducible refine Below.drew ?_) | (with_reducible refine below_drewN ?_ _) | (with_reducible refine Below.setCell ?_ ?_ _) | (with_reducible exact Nat.le_refl _) | omega | (simp <;> omega)))).trans (hb5.mono (show wr.heap.size ≤ _ by (first | (with_reducible exact Nat.le_refl _) | (with_reducible assumption) | omega | (simp <;> omega)))); have hs5 := hb5.size; (try simp only [World.size_alloc, World.size_drew] at hs5); obtain ⟨q5, r5⟩ := bkeep hb5 wr.heap.size (by (first | (with_reducible exact Nat.le_refl _) | (with_reducible assumption) | omega | (simp <;> omega))); have l5 : wr.heap.size < w5.heap.size := (by omega); have gp5 := cellK hB5 lbr gp))
        have HM5 := Lib.hid ((HMA.out.below hB5 hlt0).imp fun f v hv => hv.keep (grown_of_below hB5) (by cases v.ownBlock <;> simp))
        have HB5 := Lib.hid (HB.out.trans (hB5.mono hs))
        have hlt5 : w.heap.size < w5.heap.size := Nat.lt_of_lt_of_le hlt0 hB5.size
        clear HMA hB5 q5 r5 hb5
        go_wp2_with fail
        obtain ⟨wo, rfl⟩ : ∃ wo : World, wo = wr := ⟨_, rfl⟩
        go_loopw [42] (fun i wr => ∃ q : Nat, q ≤ M ∧ i = .int .i64 q ∧ Hid (MapAll wr w.heap.size (16 * (r + 1) + q) (Grp wr (w.heap.size + 1) (xs.map PrV.P) (r + 1) q)) ∧ Hid (Below w.heap.size w wr) ∧ w.heap.size < wr.heap.size) (fun i _ => M - (intOf i).toNat)
        case atStart => exact ⟨0, by omega, rfl, HM5.out, HB5.out, hlt5⟩
        case round =>
          obtain ⟨q, hq, rfl, HMq, HBq, hltq⟩ := hrel
          have hsq := HBq.out.size
          by_cases hqM : q < M
          · have hqM' : (q : Int) < (M : Int) := by omega
            have hq0 : (0 : Int) ≤ (q : Int) := by omega
            have hql : q < pgs.length := by rw [HM.out]; exact hqM
            obtain ⟨-, -, f0, fN⟩ := pg_at HK.out (q := q) (by exact hql)
            dsimp only at f0 fN
            obtain ⟨pb, poff, hPA, hpb, p0, p1, p2⟩ := (HP.out.below HBq.out).page_at hqM
            obtain ⟨y, hy⟩ : ∃ y, pgs.getD q PgD.zero = y := ⟨_, rfl⟩
            rw [hy] at p0 p1 p2 f0 fN
            obtain ⟨A0, c0, zs, hrow, hnil, hzf, hzl, hzs, hlk⟩ := grp_look (f := y.fr) HMq.out f0 (by omega)
            have Hyq : Hid (((xs.map PrV.P).getD (r + 1) PrD.zero).pages.getD q PgD.zero = y) := by
              show _ = _
              rw [Hmp.out]; exact hy
            have Hqp : Hid (q < ((xs.map PrV.P).getD (r + 1) PrD.zero).pages.length) := by
              show _ < _
              rw [Hmp.out]; exact hql
            have e0 : ∀ o, (Instr.lookup 113 (.map (some w.heap.size)) (.int .i64 y.fr) false).run Try.prog ((wr.alloc o).drew) = .ok (.slice A0 zs.length c0) ((wr.alloc o).drew) := fun o => hlk _ ((MapKept.heap_alloc wr o).2 _ hltq)
            have e1 : ∀ o o', (Instr.lookup 113 (.map (some w.heap.size)) (.int .i64 y.fr) false).run Try.prog (((wr.alloc o).alloc o').drew) = .ok (.slice A0 zs.length c0) (((wr.alloc o).alloc o').drew) := fun o o' => hlk _ (((MapKept.heap_alloc (wr.alloc o) o').2 _ (by simp; omega)).trans ((MapKept.heap_alloc wr o).2 _ hltq))
            have Hne : Hid (some wr.heap.size ≠ (Value.slice A0 zs.length c0).ownBlock) := fun e => absurd (hrow.lt _ e.symm).2 (Nat.lt_irrefl _)
            have Hrow := Lib.hid hrow
            have Hnil := Lib.hid hnil
            have Hzf := Lib.hid hzf
            have Hzs := Lib.hid hzs
            have Hzl := Lib.hid hzl
            have hzl2 : zs.length ≤ 1000 := by omega
            have f9 : y.fr ≤ 1000000 := by omega
            obtain ⟨Z, hZ⟩ : ∃ Z, zs.length = Z := ⟨_, rfl⟩
            have HZ := Lib.hid hZ
            obtain ⟨num, fr, sh⟩ := y
            dsimp only at p0 p1 p2 e0 e1 f0 f9
            rw [hZ] at e0 e1 hzl2
            subst hPA
            clear hrow hnil hzf hzs hlk hy fN hZ
            go_wp2_with fail
            go_region_held3 (fun w' => w'.cell? ⟨wr.heap.size, 0, none⟩ = some (.int .i64 num) ∧ w'.cell? ⟨wr.heap.size, 1, none⟩ = some (.int .i64 fr) ∧ w'.cell? ⟨wr.heap.size, 2, none⟩ = some (.bool sh)) (simp [go_sem, *]) (first
              | (refine step_add_pages (by rfl) (.tmp 52) (.tmp 54) (by rfl) (w.heap.size + 1) A0 Z c0 zs (by rfl) (by have ho := Hrow.out; rw [HZ.out] at ho; (repeat' (first | (with_reducible assumption) | (with_reducible refine own_put ?_ ?_ _) | (with_reducible refine own_new ?_ _) | (with_reducible refine own_drew ?_) | (with_reducible refine own_drewN ?_ _) | omega))) _ 1 1 [⟨num, fr, sh⟩] (by rfl) (by first | exact Has.lit_at _ _ _ 1 3 _ _ rfl (by (first | (with_reducible exact Nat.le_refl _) | (with_reducible assumption) | omega | (simp <;> omega))) rfl | exact (Has.lit_at _ _ _ 1 3 _ _ rfl (by (first | (with_reducible exact Nat.le_refl _) | (with_reducible assumption) | omega | (simp <;> omega))) rfl).drew) (by omega) (by omega) (by (first | (with_reducible exact Nat.le_refl _) | (with_reducible assumption) | omega | (simp <;> omega))) ?_; intro A7 c7 w7 hown7 hg7 hb7; have hg7' := hg7; rw [← HZ.out] at hg7'; obtain ⟨w8, hrun, hM8, hg8⟩ := grp_store (y := ⟨num, fr, sh⟩) (n7 := Z + 1) HMq.out (grown_of_below (by (repeat' (first | (with_reducible exact Below.refl _ _) | (with_reducible assumption) | (with_reducible refine Below.alloc ?_ ?_ _) | (with_reducible refine Below.drew ?_) | (with_reducible refine below_drewN ?_ _) | (with_reducible refine Below.setCell ?_ ?_ _) | (with_reducible exact Nat.le_refl _) | omega | (simp <;> omega))))) Hrow.out Hnil.out Hzf.out Hzl.out Hzs.out hg7' (by rw [HZ.out]) hown7 Hqp.out Hyq.out f0 f9 (by omega) (by omega); have t7 := hg7.block wr.heap.size (by (first | (with_reducible exact Nat.le_refl _) | (with_reducible assumption) | omega | (simp <;> omega))) (by rw [← HZ.out]; exact Hne.out); have t8 := hg8.block wr.heap.size (by have h9 := hg7.size; simp at h9; omega) (by simp; omega); have k70 : w7.cell? ⟨wr.heap.size, 0, none⟩ = some (.int .i64 num) := (World.cell?_of_block t7).trans (by simp [go_sem]); have k71 : w7.cell? ⟨wr.heap.size, 1, none⟩ = some (.int .i64 fr) := (World.cell?_of_block t7).trans (by simp [go_sem]); have k72 : w7.cell? ⟨wr.heap.size, 2, none⟩ = some (.bool sh) := (World.cell?_of_block t7).trans (by simp [go_sem]); have k80 := (World.cell?_of_block (a := ⟨wr.heap.size, 0, none⟩) t8).trans k70; have k81 := (World.cell?_of_block (a := ⟨wr.heap.size, 1, none⟩) t8).trans k71; have k82 := (World.cell?_of_block (a := ⟨wr.heap.size, 2, none⟩) t8).trans k72))
            all_goals (go_wp2_with fail)
            all_goals
              go_roundw
              case rel =>
                refine ⟨q + 1, by omega, by go_num, hM8, ?_, ?_⟩
                · show Below _ _ _
                  have hbq := HBq.out
                  exact ((show Below w.heap.size w _ by (repeat' (first | (with_reducible exact Below.refl _ _) | (with_reducible assumption) | (with_reducible refine Below.alloc ?_ ?_ _) | (with_reducible refine Below.drew ?_) | (with_reducible refine below_drewN ?_ _) | (with_reducible refine Below.setCell ?_ ?_ _) | (with_reducible exact Nat.le_refl _) | omega | (simp <;> omega)))).trans (hb7.mono (by omega))).grown hg8 (by have h9 := hg7.size; simp at h9; omega) (fun j hj => by cases hj; omega)
                · have h9 := hg7.size
                  have h10 := hg8.size
                  simp at h9
                  omega
              case measure => simp [intOf]; omega
          · have hqq : q = M := by omega
            have hqq' : (M : Int) ≤ (q : Int) := by omega
            clear hqM
            go_wp2_with fail
            go_roundw
            case rel =>
              refine ⟨(r + 1) + 1, by omega, by go_num, ?_, HBq.out, hltq⟩
              show MapAll _ _ _ _
              subst hqq
              exact (HMq.out.imp fun f v hv => hv.prog (by rw [List.length_map, Hl.out]; exact hlt) (by rw [Hmp.out]; exact HM.out) hM16).more (by omega)
            case measure => simp [intOf]; omega
    · have hkn : k = n := by omega
      have hkn' : (n : Int) ≤ (k : Int) := by omega
      have hdk : decide (k < n) = false := by simp; omega
      obtain ⟨D, hown⟩ := HMA.out.owns (G := GoodRow wr) fun f v hv => GoodRow.of HInv.out (by rw [List.length_map, Hl.out]; exact hkn) hv
      have Hown := Lib.hid hown
      clear hlt hown hkn
      obtain ⟨wz, rfl⟩ : ∃ wz : World, wz = wr := ⟨_, rfl⟩
      go_wp2_with (first
        | (at_range; refine wpList_range_own _ rfl _ 113 rfl 3 94 law3 Try.underlying113 _ w.heap.size _ D rfl Hown.out ?_; intro w0 hrg0 hg0 hs0))
      go_frame
      have hB0 : Below wz.heap.size wz w0 := ⟨hg0.os, hg0.tape, hg0.output, hg0.size, fun i hi => hg0.block i hi (by simp)⟩
      have HB0 := Lib.hid hB0
      go_loopw [11] (fun _ wr => ∃ (left : Lit → Bool) (cnt : Nat), Hid (wr.ranges Try.prog 3 (rdP (GoodRow wz)) w.heap.size wz.heap.size (16 * k) D left cnt) ∧ Hid (Below wz.heap.size wz wr)) (fun _ wr => wr.rangeLeft w.heap.size wz.heap.size)
      case atStart => exact ⟨_, _, hrg0, hB0⟩
      case round =>
        obtain ⟨left, cnt, HR, HBr⟩ := hrel
        have hsr := HBr.out.size
        go_wp2_with (first
          | (at_next; refine wpList_next_ranges _ rfl _ rfl 3 law3 (rdP (GoodRow wz)) (Value.int .i64) (fun p : Option Addr × Nat × Nat => Value.slice p.1 p.2.1 p.2.2) (fun key kl hkey => by obtain ⟨x, rfl, _⟩ := Go.Maps.keyOf_int_inv Try.underlying3 hkey; exact ⟨x, rfl⟩) (fun v y hv => (rdP_inv hv).slice) w.heap.size wz.heap.size _ D _ _ rfl HR.out ?_ ?_))
        · intro _ hl0
          go_wp2_with fail
          go_ret
          exact ⟨rfl, HB.out.trans (HBr.out.mono hs)⟩
        · intro x A' m' c' kl y1 y2 w1 cnt1 hkey hlk hR hat hrg1 hlt1 hg1 hs1 hen
          obtain ⟨A2, c2, zs, hv, hH, hl, hsh⟩ := rdP_inv hR
          injection hv with e1 e2 e3
          subst e1 e2 e3
          obtain ⟨L, hL⟩ : ∃ L, zs.length = L := ⟨_, rfl⟩
          rw [hL] at hH hl hsh hen
          have HH := Lib.hid hH
          have Hsh := Lib.hid hsh
          have Hrg1 := Lib.hid hrg1
          have hB1 : Below wz.heap.size wr w1 := ⟨hg1.os, hg1.tape, hg1.output, hg1.size, fun i hi => hg1.block i (by omega) (by simp; omega)⟩
          have HB1 := Lib.hid (HBr.out.trans hB1)
          have hw1 : wz.heap.size ≤ w1.heap.size := HB1.out.size
          clear hH hsh hL hB1 hR hat hrg1 hkey hlk
          by_cases hlen : 1 < L
          · have hlen' : (1 : Int) < (L : Int) := by omega
            go_wp2_with fail
            refine (pcontains_no _ L _ zs _ (HH.out.below HB1.out) (Hsh.out hlen) (by omega)).mono ?_
            rintro e w3 ⟨rfl, hb3⟩
            have Hrg3 := Lib.hid (Hrg1.out.kept (grown_of_below hb3) (by simp) (by simp))
            have HB3 := Lib.hid (HB1.out.trans (hb3.mono hw1))
            clear hb3
            go_wp2_with fail
            go_roundw
            case rel => exact ⟨_, cnt1, Hrg3.out, HB3.out⟩
            case measure => rw [Hrg3.out.left_eq, HR.out.left_eq]; omega
          · have hlen1 : L ≤ 1 := by omega
            have hlen2 : (L : Int) ≤ 1 := by omega
            have hlen3 : decide ((1 : Int) < (L : Int)) = false := by simp; omega
            clear hlen
            go_wp2_with fail
            go_roundw
            case rel => exact ⟨_, cnt1, Hrg1.out, HB1.out⟩
            case measure => rw [Hrg1.out.left_eq, HR.out.left_eq]; omega
end Go.Proofs.Ytjlmgjpnfppkoaa
