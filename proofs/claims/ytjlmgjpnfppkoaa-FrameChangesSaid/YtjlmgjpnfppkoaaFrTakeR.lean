/-
  Frames, walked: taking, the reference.
-/
import Derived.LoopTactic
import Derived.Test.YtjlmgjpnfppkoaaFrRef
namespace Go.Proofs.Ytjlmgjpnfppkoaa
open Go.RowKit
attribute [local go_sem ↓] Go.wp_at_zero Go.wp_at_succ

set_option maxHeartbeats 2000000 in
theorem rtake_any (A : Option Addr) (n c : Nat) (s b : Int) (fs : List FrD) (w : World) (h : Has w A n 2 (frVals fs)) (hn : n ≤ 1048576) :
    Calls Try.prog 61 #[.slice A n c, .int .i64 s, .int .i64 b] w fun e w' => ∃ v, e = .returned (.tuple #[v, .int .i64 (takeI fs s b), .int .i64 (takeE fs s b)]) ∧ OwnFrs w' w.heap.size v (takeL fs s b) ∧ Below w.heap.size w w' := by
  have Hh := Lib.hid h
  have Hl := Lib.hid h.frame
  clear h
  cases hv : validF fs
  · have hE : takeE fs s b = 1 := by simp [takeE, hv]
    have hI : takeI fs s b = -1 := by simp [takeI, hE]
    have hL : takeL fs s b = [] := by simp [takeL, hE]
    rewrite [hE, hI, hL]
    have Hv := Lib.hid hv
    clear hE hI hL hv
    go_enter Try.func61, Try.ntmps61
    go_wp2_with fail
    refine (rvalid28_any A n c fs _ Hh.out hn).mono ?_
    rewrite [Hv.out]
    rintro e w1 ⟨rfl, hb1⟩
    have H1 := Lib.hid (Hh.out.below hb1)
    go_wp2_with fail
    go_ret3
    exact ⟨_, rfl, OwnFrs.nil_ _ _, hb1⟩
  by_cases hob : occB s = true ∧ fitB s b = true
  · obtain ⟨ho, hf⟩ := hob
    rcases idxF_range (fun f => f.st == 0) fs with hi | ⟨k, hi, hk, -, -⟩
    · have hi' : freeF fs = -1 := hi
      have hE : takeE fs s b = 16 := by simp [takeE, hv, ho, hf, hi']
      have hI : takeI fs s b = -1 := by simp [takeI, hE]
      have hL : takeL fs s b = [] := by simp [takeL, hE]
      rewrite [hE, hI, hL]
      have Hv := Lib.hid hv
      have Ho := Lib.hid ho
      have Hf := Lib.hid hf
      have Hi := Lib.hid hi'
      clear hE hI hL hv ho hf hi hi'
      go_enter Try.func61, Try.ntmps61
      go_wp2_with fail
      refine (rvalid28_any A n c fs _ Hh.out hn).mono ?_
      rewrite [Hv.out]
      rintro e w1 ⟨rfl, hb1⟩
      have H1 := Lib.hid (Hh.out.below hb1)
      go_wp2_with fail
      refine (rocc_any s _).mono ?_
      rewrite [Ho.out]
      rintro e w2 ⟨rfl, rfl⟩
      go_wp2_with fail
      refine (rfits_any s b _).mono ?_
      rewrite [Hf.out]
      rintro e w2 ⟨rfl, rfl⟩
      go_wp2_with fail
      refine (rfree_any A n c fs _ H1.out hn).mono ?_
      rewrite [Hi.out]
      rintro e w3 ⟨rfl, hb3⟩
      have hB3 := hb1.trans (hb3.mono hb1.size)
      have H3 := Lib.hid (H1.out.below hb3)
      clear hb3
      go_wp2_with fail
      go_ret3
      exact ⟨_, rfl, OwnFrs.nil_ _ _, hB3⟩
    · have hi' : freeF fs = k := hi
      have hE : takeE fs s b = 0 := by simp [takeE, hv, ho, hf, hi']
      have hI : takeI fs s b = k := by simp [takeI, hE, hi']
      have hL : takeL fs s b = fs.set k ⟨s, b⟩ := by simp [takeL, hE, hi']
      rewrite [hE, hI, hL]
      rewrite [Hl.out] at hk
      have Hv := Lib.hid hv
      have Ho := Lib.hid ho
      have Hf := Lib.hid hf
      have Hi := Lib.hid hi'
      clear hE hI hL hv ho hf hi hi'
      go_enter Try.func61, Try.ntmps61
      go_wp2_with fail
      refine (rvalid28_any A n c fs _ Hh.out hn).mono ?_
      rewrite [Hv.out]
      rintro e w1 ⟨rfl, hb1⟩
      have H1 := Lib.hid (Hh.out.below hb1)
      go_wp2_with fail
      refine (rocc_any s _).mono ?_
      rewrite [Ho.out]
      rintro e w2 ⟨rfl, rfl⟩
      go_wp2_with fail
      refine (rfits_any s b _).mono ?_
      rewrite [Hf.out]
      rintro e w2 ⟨rfl, rfl⟩
      go_wp2_with fail
      refine (rfree_any A n c fs _ H1.out hn).mono ?_
      rewrite [Hi.out]
      rintro e w3 ⟨rfl, hb3⟩
      have hB3 := hb1.trans (hb3.mono hb1.size)
      have H3 := Lib.hid (H1.out.below hb3)
      clear hb3
      go_wp2_with fail
      refine (rfree_any A n c fs _ H3.out hn).mono ?_
      rewrite [Hi.out]
      rintro e w4 ⟨rfl, hb4⟩
      have hB4 := hB3.trans (hb4.mono hB3.size)
      have H4 := Lib.hid (H3.out.below hb4)
      clear hb4
      have hs4 := hB4.size
      go_wp2_with fail
      refine (rwith_any A n c k s b fs _ H4.out hn hk).mono ?_
      rintro e w5 ⟨A', c', rfl, hown, hb5⟩
      have hB5 := hB4.trans (hb5.mono hB4.size)
      have H5 := Lib.hid (H4.out.below hb5)
      have Hown := Lib.hid hown
      have hs5 := hb5.size
      clear hown hb5
      go_wp2_with fail
      refine (rfree_any A n c fs _ H5.out hn).mono ?_
      rewrite [Hi.out]
      rintro e w6 ⟨rfl, hb6⟩
      have hB6 := hB5.trans (hb6.mono hB5.size)
      have Hown6 := Lib.hid (ownsRow_below Hown.out hb6)
      clear hb6
      go_wp2_with fail
      go_ret3
      have hl : (fs.set k ⟨s, b⟩).length = n := by rw [List.length_set]; exact Hl.out
      exact ⟨_, rfl, ⟨A', c', by rw [hl]; rfl, by rw [hl]; exact ownsRow_base Hown6.out hs4⟩, hB6⟩
  · have hE : takeE fs s b = 2 := by simp only [takeE, hv, if_true, if_neg hob]
    have hI : takeI fs s b = -1 := by simp [takeI, hE]
    have hL : takeL fs s b = [] := by simp [takeL, hE]
    rewrite [hE, hI, hL]
    have Hv := Lib.hid hv
    clear hE hI hL hv
    cases ho : occB s
    · have Ho := Lib.hid ho
      clear hob ho
      go_enter Try.func61, Try.ntmps61
      go_wp2_with fail
      refine (rvalid28_any A n c fs _ Hh.out hn).mono ?_
      rewrite [Hv.out]
      rintro e w1 ⟨rfl, hb1⟩
      have H1 := Lib.hid (Hh.out.below hb1)
      go_wp2_with fail
      refine (rocc_any s _).mono ?_
      rewrite [Ho.out]
      rintro e w2 ⟨rfl, rfl⟩
      go_wp2_with fail
      go_ret3
      exact ⟨_, rfl, OwnFrs.nil_ _ _, hb1⟩
    · have hf : fitB s b = false := by
        cases hf : fitB s b
        · rfl
        · exact absurd ⟨ho, hf⟩ hob
      have Ho := Lib.hid ho
      have Hf := Lib.hid hf
      clear hob ho hf
      go_enter Try.func61, Try.ntmps61
      go_wp2_with fail
      refine (rvalid28_any A n c fs _ Hh.out hn).mono ?_
      rewrite [Hv.out]
      rintro e w1 ⟨rfl, hb1⟩
      have H1 := Lib.hid (Hh.out.below hb1)
      go_wp2_with fail
      refine (rocc_any s _).mono ?_
      rewrite [Ho.out]
      rintro e w2 ⟨rfl, rfl⟩
      go_wp2_with fail
      refine (rfits_any s b _).mono ?_
      rewrite [Hf.out]
      rintro e w2 ⟨rfl, rfl⟩
      go_wp2_with fail
      go_ret3
      exact ⟨_, rfl, OwnFrs.nil_ _ _, hb1⟩
end Go.Proofs.Ytjlmgjpnfppkoaa
