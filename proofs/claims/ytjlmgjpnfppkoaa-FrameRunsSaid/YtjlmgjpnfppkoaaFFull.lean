/-
  The walk of FrameFull: it returns true, and what was there before is as it was.
-/
import Derived.LoopTactic
import Derived.Test.YtjlmgjpnfppkoaaFrCount
import Derived.Test.YtjlmgjpnfppkoaaFAwake
namespace Go.Proofs.Ytjlmgjpnfppkoaa
open Go.RowKit
attribute [local go_sem ↓] Go.wp_at_zero Go.wp_at_succ

theorem cnt_set (s : Int) (x : FrD) : ∀ (fs : List FrD) (k : Nat), k < fs.length → cntF (fs.set k x) s + (if (fs.getD k FrD.zero).st = s then 1 else 0) = cntF fs s + (if x.st = s then 1 else 0) := by
  intro fs
  induction fs with
  | nil => intro k h; simp at h
  | cons f r ih =>
    intro k h
    cases k with
    | zero => simp only [List.set_cons_zero, cntF, List.filter_cons, List.getD_cons_zero, beq_iff_eq]; split <;> split <;> simp_all <;> omega
    | succ k =>
      have := ih k (by simpa using h)
      simp only [List.set_cons_succ, cntF, List.filter_cons, List.getD_cons_succ, beq_iff_eq] at this ⊢
      split <;> simp_all <;> omega
theorem cnt_none {fs : List FrD} (h : ∀ j, j < fs.length → ((fs.getD j FrD.zero).st == 0) = false) : cntF fs 0 = 0 := by
  unfold cntF
  rw [List.length_eq_zero_iff, List.filter_eq_nil_iff]
  intro x hx
  obtain ⟨j, hj, rfl⟩ := List.getElem_of_mem hx
  have := h j hj
  simpa [List.getD, List.getElem?_eq_getElem hj] using this
theorem cnt_some {fs : List FrD} {k : Nat} (hk : k < fs.length) (h : ((fs.getD k FrD.zero).st == 0) = true) : 1 ≤ cntF fs 0 := by
  unfold cntF
  have : fs[k] ∈ fs.filter fun f => f.st == 0 := List.mem_filter.2 ⟨List.getElem_mem hk, by simpa [List.getD, List.getElem?_eq_getElem hk] using h⟩
  exact List.length_pos_of_mem this
theorem AllFit.set {fs : List FrD} (h : AllFit fs) (k : Nat) {s b : Int} (hf : fitB s b = true) : AllFit (fs.set k ⟨s, b⟩) := by
  intro f hm
  rcases List.mem_or_eq_of_mem_set hm with hm | hm
  · exact h f hm
  · subst hm; exact hf
theorem validF_set {fs : List FrD} (h : validF fs = true) (k : Nat) {s b : Int} (hf : fitB s b = true) : validF (fs.set k ⟨s, b⟩) = true := by
  obtain ⟨h1, h2, h3⟩ := validF_get h
  exact validF_of (h1.set k hf) (by rw [List.length_set]; exact h2) (by rw [List.length_set]; exact h3)
theorem getD_set_same {fs : List FrD} {k : Nat} (hk : k < fs.length) (x : FrD) : (fs.set k x).getD k FrD.zero = x := by
  simp [List.getD, hk]
theorem getD_set_other {fs : List FrD} {k j : Nat} (hne : k ≠ j) (x : FrD) : (fs.set k x).getD j FrD.zero = fs.getD j FrD.zero := by
  simp [List.getD, hne]

set_option maxRecDepth 100000 in
set_option maxHeartbeats 8000000 in
theorem ffull_any (A : Option Addr) (n c : Nat) (zs : List Int) (w : World) (h : Has w A n 1 (zs.map (Value.int .i64))) :
    Calls Try.prog 11 #[.slice A n c] w fun e w' => e = .returned (.bool true) ∧ Below w.heap.size w w' := by
  have Hh := Lib.hid h
  clear h
  have hi0 := idx79_0
  by_cases hn : n ≤ 400
  · go_enter Try.func11, Try.ntmps11
    go_wp2_with fail
    refine (light_yes A n c _ hn).mono ?_
    rintro e w' ⟨rfl, rfl⟩
    go_wp2_with fail
    refine (roll_any A n c zs _ Hh.out hn).mono ?_
    rintro e w1 ⟨rfl, hD1, hb1⟩
    have hs1 := hb1.size
    have HB1 := Lib.hid hb1
    have HD1 := Lib.hid hD1
    clear hb1 hD1
    go_wp2_with fail
    refine (frames_any _ _ HD1.out).mono ?_
    rintro e w2 ⟨v, fs0, rfl, ⟨A2, c2, hv, hown⟩, hval, hlen, -, hb2⟩
    subst hv
    have HB2 := Lib.hid (HB1.out.trans (hb2.below hs1 (Nat.le_refl _)))
    have hs2 := HB2.out.size
    have HO := Lib.hid (ownsRow_base hown hs1)
    have Hval := Lib.hid hval
    have hc0 := cnt_le fs0 0
    clear hb2 hown hval
    go_wp2_with fail
    refine (count_any _ fs0.length c2 fs0 _ (Has.of_own HO.out) (validF_get Hval.out).1 (by omega)).mono ?_
    rintro e w3 ⟨rfl, hb3⟩
    have HB3 := Lib.hid (HB2.out.trans (hb3.mono hs2))
    have HO3 := Lib.hid (ownsRow_below HO.out hb3)
    clear hb3
    obtain ⟨N, hN⟩ : ∃ N, cntF fs0 0 = N := ⟨_, rfl⟩
    rw [hN] at hc0
    rw [hN]
    have HN := Lib.hid hN
    clear hN
    go_wp2_with fail
    go_loopw [3, 5, 23] (fun l last i wr => ∃ (j : Nat) (la : Int) (fs : List FrD), i = .int .i64 j ∧ last = .int .i64 la ∧ j ≤ N ∧ -1 ≤ la ∧ la ≤ 10 ∧ fs.length ≤ 10 ∧ Hid (j + cntF fs 0 = N) ∧ Hid (validF fs = true) ∧ Hid (∀ k, k < fs.length → ((fs.getD k FrD.zero).st == 0) = true → la < k) ∧ Hid (OwnFrs wr w.heap.size l fs) ∧ Below w.heap.size w wr) (fun _ _ i _ => N - (intOf i).toNat)
    case atStart => exact ⟨0, -1, fs0, rfl, rfl, by omega, by omega, by omega, hlen, by show _ = _; rw [HN.out]; omega, Hval.out, fun k _ _ => by omega, ⟨A2, c2, rfl, HO3.out⟩, HB3.out⟩
    case round =>
      obtain ⟨j, la, fs, rfl, rfl, hj, hla, hla2, hfl, Hc, Hv, Hlast, HOw, hB⟩ := hrel
      have hsz := hB.size
      obtain ⟨A4, c4, hu, hown⟩ := HOw.out
      subst hu
      obtain ⟨M, hM⟩ : ∃ M, fs.length = M := ⟨_, rfl⟩
      rw [hM] at hown hfl
      have HM := Lib.hid hM
      have H4 := Lib.hid (Has.of_own hown)
      rw [hM]
      rcases idxF_range (fun f => f.st == 0) fs with hi | ⟨k, hi, hk, hk0, hkl⟩
      · have hi' : freeF fs = -1 := hi
        have hz : cntF fs 0 = 0 := by
          refine cnt_none fun q hq => ?_
          cases hh : ((fs.getD q FrD.zero).st == 0)
          · rfl
          · exfalso
            have h1 : fs.findIdx? (fun f => f.st == 0) = none := by
              cases hf : fs.findIdx? (fun f => f.st == 0) with
              | none => rfl
              | some i => rw [idxF, hf] at hi; simp at hi <;> omega
            have := List.findIdx?_eq_none_iff.1 h1 _ (List.getElem_mem hq)
            simp [List.getD, List.getElem?_eq_getElem hq] at hh
            simp [hh] at this
        have hjN : j = N := by have := Hc.out; omega
        have hE : takeE fs 3 0 = 16 := by simp [takeE, Hv.out, hi', occB, fitB]
        have hI : takeI fs 3 0 = -1 := by simp [takeI, hE]
        have HE := Lib.hid hE
        have HI := Lib.hid hI
        have HF := Lib.hid hi'
        clear hi hi' hz hE hI hown hM
        subst hjN
        go_wp2_with fail
        refine (take_any A4 M c4 3 0 fs _ H4.out).mono ?_
        rewrite [HE.out, HI.out]
        rintro e w5 ⟨v5, rfl, -, hb5⟩
        have HB5 := Lib.hid (hB.trans (hb5.mono hsz))
        have H5 := Lib.hid (H4.out.below hb5)
        clear hb5
        go_wp2_with fail
        refine (dfree_any A4 M c4 fs _ H5.out (by omega)).mono ?_
        rewrite [HF.out]
        rintro e w6 ⟨rfl, hb6⟩
        have HB6 := Lib.hid (HB5.out.trans (hb6.mono HB5.out.size))
        clear hb6
        go_wp2_with fail
        refine (fawake_any _).mono ?_
        rintro e w7 ⟨rfl, hb7⟩
        have HB7 := Lib.hid (HB6.out.trans (hb7.mono HB6.out.size))
        clear hb7
        go_wp2_with fail
        go_ret
        exact ⟨rfl, HB7.out⟩
      · have hi' : freeF fs = k := hi
        have hpos := cnt_some hk hk0
        have hjN : j < N := by have := Hc.out; omega
        have hE : takeE fs 3 0 = 0 := by simp [takeE, Hv.out, hi', occB, fitB]
        have hI : takeI fs 3 0 = k := by simp [takeI, hE, hi']
        have hL : takeL fs 3 0 = fs.set k ⟨3, 0⟩ := by simp [takeL, hE, hi']
        have hlak := Hlast.out k hk hk0
        have HE := Lib.hid hE
        have HI := Lib.hid hI
        have HL := Lib.hid hL
        have Hkl := Lib.hid hkl
        have Hk0 := Lib.hid hk0
        have hkM : k < M := by omega
        obtain ⟨b, off, rfl, hbl, x0, x1⟩ := H4.out.frame_at hkM
        have hst : (fs.getD k FrD.zero).st = 0 := by simpa using hk0
        rw [hst] at x0
        have hcs := cnt_set 0 ⟨3, 0⟩ fs k hk
        rw [if_pos hst, if_neg (by decide)] at hcs
        have Hcs := Lib.hid hcs
        have hlen' : (fs.set k ⟨3, 0⟩).length = M := by rw [List.length_set]; exact hM
        have Hlen' := Lib.hid hlen'
        have hkM' : (k : Int) < (M : Int) := by omega
        have hjN' : (j : Int) < (N : Int) := by omega
        clear hi hi' hE hI hL hown hM hkl hk0 hst hcs hlen' hpos x1
        go_wp2_with fail
        refine (take_any _ M c4 3 0 fs _ H4.out).mono ?_
        rewrite [HE.out, HI.out, HL.out]
        rintro e w5 ⟨v5, rfl, ⟨A5, c5, hv5, hown5⟩, hb5⟩
        rw [Hlen'.out] at hv5 hown5
        subst hv5
        have HB5 := Lib.hid (hB.trans (hb5.mono hsz))
        have y0 := cellK hb5 hbl x0
        have HO5 := Lib.hid (ownsRow_base hown5 hsz)
        obtain ⟨b5, off5, rfl, hbl5, z0, z1⟩ := (Has.of_own hown5).frame_at hkM
        rw [getD_set_same hk] at z0
        dsimp only at z0
        clear hb5 hown5 z1
        go_wp2_with fail
        go_roundw
        case rel =>
          refine ⟨j + 1, k, fs.set k ⟨3, 0⟩, by go_num, rfl, by omega, by omega, by omega, by rw [Hlen'.out]; exact hfl, ?_, validF_set Hv.out k (by decide), ?_, ?_, HB5.out⟩
          · show _ = _
            have := Hc.out
            have := Hcs.out
            omega
          · intro q hq hq0
            rw [Hlen'.out] at hq
            by_cases hqk : k = q
            · subst hqk
              rw [getD_set_same hk] at hq0
              cases hq0
            · rw [getD_set_other hqk] at hq0
              rcases Nat.lt_or_ge q k with hlt | hge
              · rw [Hkl.out q hlt] at hq0; cases hq0
              · omega
          · exact ⟨_, c5, by rw [Hlen'.out], by rw [Hlen'.out]; exact HO5.out⟩
        case measure => simp [intOf]; omega
  · go_enter Try.func11, Try.ntmps11
    go_wp2_with fail
    refine (light_no A n c _ hn).mono ?_
    rintro e w' ⟨rfl, rfl⟩
    go_wp2_with fail
    refine (fawake_any _).mono ?_
    rintro e w7 ⟨rfl, hb7⟩
    go_wp2_with fail
    go_ret
    exact ⟨rfl, hb7⟩
end Go.Proofs.Ytjlmgjpnfppkoaa
