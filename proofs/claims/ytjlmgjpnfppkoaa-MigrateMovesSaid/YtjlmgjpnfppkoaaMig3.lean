/-
  Contracts of functions of the given program (layer 35), walked: the lines of a frame as those of another one.
-/
import Derived.LoopTactic
import Derived.Test.YtjlmgjpnfppkoaaMig2
namespace Go.Proofs.Ytjlmgjpnfppkoaa
open Go.RowKit
attribute [local go_sem ↓] Go.wp_at_zero Go.wp_at_succ

theorem info28 : (Try.prog.info? 28).map (fun i => (i.zero, i.size, i.bytes)) = some (some (.agg #[.int .i64 0, .slice none 0 0, .bool false, .bool false]), 4, 40) := by kernel_rfl

/-- One line more, in a drawn region: the new list is the call's own, and its lines' bytes are kept. -/
theorem step_append_line {w : World} {ops : Array Oper} {o : Oper} {a : Act} {K : Act → World → Prop} {Q : Exit → Act → World → Prop} {E : Prop} (hgd : o.guard = none) (s x : Operand)
    (ho : o.op = .call { callee := .builtin .append, args := #[s, x], argTypes := #[22, 22] })
    (base : Nat) (v : Value) (ys : List LineV) (hs : a.eval s = v) (hO : OwnLines w base v ys)
    (A : Option Addr) (c : Nat) (y : LineV) (hx : a.eval x = .slice A 1 c) (hr : Has w A 1 4 (lineVals [y]))
    (hy : w.ownsRow base 5 1 (.slice y.A y.L.data.length y.c) y.L.data.length (byteVals y.L.data)) (hn : ys.length ≤ 1048576) (hbase : base ≤ w.heap.size)
    (h : ∀ v' w', OwnLines w' base v' (ys ++ [y]) → Below base w w' → (∀ g, g < w.heap.size → v.ownBlock ≠ some g → ∀ o, w'.cell? ⟨g, o, none⟩ = w.cell? ⟨g, o, none⟩) → K (a.put o.dst v') w') :
    if Region.wanted o (yielded ops a.tmps) = true then Oper.wp Try.prog o a w K Q else E := by
  obtain ⟨i, hi, hz0, hz1, hz2⟩ := info_parts info28
  refine step_append_has w hgd s x 22 ho base 28 i _ 4 40 Try.underlying22 hi hz0 hz1 hz2 rfl (by decide) v ys.length (lineVals ys) hs hO.2.1 A 1 c (lineVals [y]) hx hr (lineVals_one _) (by unfold maxLen; omega) (by omega) hbase ?_
  intro v' w' h2 h3 _
  refine h v' w' ⟨?_, ?_, ?_⟩ ((Below.refl base w).grown h3 hbase fun k hk => (hO.2.1.lt k hk).1)
    (fun g hg hne o => World.cell?_of_block (h3.block g hg (fun e => hne e.symm)))
  · obtain ⟨A', c', hv, _⟩ := own_form h2
    exact ⟨A', c', by rw [hv]; simp⟩
  · rw [lineVals_append]; simpa using h2
  · intro z hz
    rcases List.mem_append.1 hz with hz | hz
    · exact (hO.2.2 z hz).kept h3 (rows_apart (hO.2.2 z hz) hO.2.1 (by decide))
    · have : z = y := by simpa using hz
      subst this
      exact hy.kept h3 (rows_apart hy hO.2.1 (by decide))

def okTo (to : Int) : Bool := decide (0 ≤ to ∧ to < 64)
def rebE (xs : List LineV) (to : Int) : Int := if xs.length = 4 then (if ordB xs = true then (if okTo to = true then 0 else 2) else 17) else 7
def rebL (xs : List LineV) (to : Int) : List LineD := if rebE xs to = 0 then xs.mapIdx fun i x => ⟨4 * to + i, x.L.data, true, x.L.poison⟩ else []

set_option maxRecDepth 100000 in
set_option maxHeartbeats 4000000 in
theorem rebase_any (A : Option Addr) (n c : Nat) (to : Int) (xs : List LineV) (w : World) (h : IsLines w A n xs) (hr : (xs.getD 0 LineV.zero).L.addr ≤ 9223372036854775807) (hd : ∀ x ∈ xs, x.L.data.length ≤ 1048576) :
    Calls Try.prog 21 #[.slice A n c, .int .i64 to] w fun e w' => ∃ v ys, e = .returned (.tuple #[v, .int .i64 (rebE xs to)]) ∧ ys.map LineV.L = rebL xs to ∧ OwnLines w' w.heap.size v ys ∧ Below w.heap.size w w' := by
  have Hl := Lib.hid h.len
  have HI := Lib.hid h
  clear h
  by_cases h4 : n = 4
  · subst h4
    cases ho : ordB xs
    · have hE : rebE xs to = 17 := by simp [rebE, Hl.out, ho]
      have hL : rebL xs to = [] := by simp [rebL, hE]
      rewrite [hE, hL]
      have Ho := Lib.hid ho
      clear hE hL ho
      go_enter Try.func21, Try.ntmps21
      go_wp2_with fail
      refine (ordered_any A 4 c xs _ HI.out (by omega) (by omega) hr).mono ?_
      rewrite [Ho.out]
      rintro e w1 ⟨rfl, hb1⟩
      go_wp2_with fail
      go_ret2
      exact ⟨_, [], rfl, rfl, OwnLines.nil_ _ _, hb1⟩
    · cases ht : okTo to
      · have hE : rebE xs to = 2 := by simp [rebE, Hl.out, ho, ht]
        have hL : rebL xs to = [] := by simp [rebL, hE]
        rewrite [hE, hL]
        have Ho := Lib.hid ho
        have Ht := Lib.hid ht
        clear hE hL ho ht
        go_enter Try.func21, Try.ntmps21
        go_wp2_with fail
        refine (ordered_any A 4 c xs _ HI.out (by omega) (by omega) hr).mono ?_
        rewrite [Ho.out]
        rintro e w1 ⟨rfl, hb1⟩
        go_wp2_with fail
        refine (framesB_any to _).mono ?_
        rewrite [show decide (0 ≤ to ∧ to < 64) = false from Ht.out]
        rintro e w2 ⟨rfl, rfl⟩
        go_wp2_with fail
        go_ret2
        exact ⟨_, [], rfl, rfl, OwnLines.nil_ _ _, hb1⟩
      · have hE : rebE xs to = 0 := by simp [rebE, Hl.out, ho, ht]
        have hL : rebL xs to = xs.mapIdx fun i x => ⟨4 * to + i, x.L.data, true, x.L.poison⟩ := by simp [rebL, hE]
        rewrite [hE, hL]
        have Ho := Lib.hid ho
        have Ht := Lib.hid ht
        clear hE hL ho ht
        go_enter Try.func21, Try.ntmps21
        go_wp2_with fail
        refine (ordered_any A 4 c xs _ HI.out (by omega) (by omega) hr).mono ?_
        rewrite [Ho.out]
        rintro e w1 ⟨rfl, hb1⟩
        go_wp2_with fail
        refine (framesB_any to _).mono ?_
        rewrite [show decide (0 ≤ to ∧ to < 64) = true from Ht.out]
        rintro e w2 ⟨rfl, rfl⟩
        go_wp2_with fail
        obtain ⟨t1, t2⟩ : 0 ≤ to ∧ to < 64 := by simpa [okTo] using Ht.out
        go_loopw [6, 23] (fun v i wr => ∃ (k : Nat) (ys : List LineV), k ≤ 4 ∧ i = .int .i64 k ∧ Hid (ys.map LineV.L = (xs.mapIdx fun i x => (⟨4 * to + i, x.L.data, true, x.L.poison⟩ : LineD)).take k) ∧ Hid (OwnLines wr w.heap.size v ys) ∧ Below w.heap.size w wr) (fun _ i _ => 4 - (intOf i).toNat)
        case atStart => exact ⟨0, [], by omega, rfl, by show _ = _; simp, OwnLines.nil_ _ _, hb1⟩
        case round =>
          obtain ⟨k, ys, hk, rfl, Hy, HO, hB⟩ := hrel
          have hsz := hB.size
          by_cases hlt : k < 4
          · obtain ⟨b, off, rfl, hb, d0, d1, d2, d3, d4⟩ := HI.out.at_ hlt
            have g0 := (hB.cell (p := ⟨b, off + k * 4, none⟩) hb).trans d0
            have g1 := (hB.cell (p := ⟨b, off + k * 4 + 1, none⟩) hb).trans d1
            have g2 := (hB.cell (p := ⟨b, off + k * 4 + 2, none⟩) hb).trans d2
            have g3 := (hB.cell (p := ⟨b, off + k * 4 + 3, none⟩) hb).trans d3
            have hdl : (xs.getD k LineV.zero).L.data.length ≤ 1048576 := by
              have hl : k < xs.length := by rw [Hl.out]; exact hlt
              have e : xs.getD k LineV.zero = xs[k] := by simp [List.getD, List.getElem?_eq_getElem hl]
              rw [e]
              exact hd _ (List.getElem_mem hl)
            obtain ⟨x, hx⟩ : ∃ x, xs.getD k LineV.zero = x := ⟨_, rfl⟩
            rw [hx] at g0 g1 g2 g3 d4 hdl
            have Hx := Lib.hid hx
            have H4 := Lib.hid (d4.below hB)
            obtain ⟨⟨a, bs, d, p⟩, A2, c2⟩ := x
            dsimp only at g0 g1 g2 g3 hdl
            have Hdl := Lib.hid hdl
            clear d0 d1 d2 d3 d4 hx hdl
            have hlt' : (k : Int) < 4 := by omega
            have hw : IntKind.i64.wrap (4 * to + k) = 4 * to + k := IntWalk.i64_in _ (by omega)
            have hyl : ys.length ≤ 1048576 := by
              have := congrArg List.length Hy.out
              simp at this
              omega
            have hyk : ys.length = k := by
              have := congrArg List.length Hy.out
              simp [Hl.out] at this
              omega
            have HYK := Lib.hid hyk
            clear hyk
            go_wp2_with fail
            go_region_held3 (fun w' => w'.cell? ⟨wr.heap.size, 1, none⟩ = some (.slice A2 bs.length c2) ∧ w'.cell? ⟨wr.heap.size, 3, none⟩ = some (.bool p)) (go_keep)
              (first | (go_at_call 29; refine (first_any _ _ (by omega)).mono ?_; rintro e w' ⟨rfl, rfl⟩) | (go_at_call 67; refine (clone_any A2 bs.length c2 bs _ ((H4.out.alloc _).drew) Hdl.out).mono ?_; rintro e w5 ⟨A5, c5, rfl, hown, hb5⟩; have hs5 := hb5.size; simp only [World.size_alloc, World.size_drew] at hs5; have hB5 := (show Below wr.heap.size wr _ by (repeat' (first | (with_reducible exact Below.refl _ _) | (with_reducible assumption) | (with_reducible refine Below.alloc ?_ ?_ _) | (with_reducible refine Below.drew ?_) | (with_reducible refine below_drewN ?_ _) | (with_reducible refine Below.setCell ?_ ?_ _) | (with_reducible exact Nat.le_refl _) | omega | (simp <;> omega)))).trans (hb5.mono (show wr.heap.size ≤ _ by (first | (with_reducible exact Nat.le_refl _) | (with_reducible assumption) | omega | (simp <;> omega)))); obtain ⟨q5, -⟩ := bkeep hb5 wr.heap.size (by (first | (with_reducible exact Nat.le_refl _) | (with_reducible assumption) | omega | (simp <;> omega))); have HO5 := Lib.hid (HO.out.below hB5); have Hown := Lib.hid hown; clear hb5 hown) | ((refine step_append_line (by rfl) (.tmp 28) (.tmp 39) (by rfl) w.heap.size _ ys (by rfl) (HO5.out.below (by (repeat' (first | (with_reducible exact Below.refl _ _) | (with_reducible assumption) | (with_reducible refine Below.alloc ?_ ?_ _) | (with_reducible refine Below.drew ?_) | (with_reducible refine below_drewN ?_ _) | (with_reducible refine Below.setCell ?_ ?_ _) | (with_reducible exact Nat.le_refl _) | omega | (simp <;> omega))))) _ _ ⟨⟨4 * to + k, bs, true, p⟩, A5, c5⟩ (by rfl) (Has.lit_at _ _ _ 1 4 _ _ rfl (by (first | (with_reducible exact Nat.le_refl _) | (with_reducible assumption) | omega | (simp <;> omega))) rfl) (own_new (ownsRow_base Hown.out (by (first | (with_reducible exact Nat.le_refl _) | (with_reducible assumption) | omega | (simp <;> omega)))) _) hyl (by (first | (with_reducible exact Nat.le_refl _) | (with_reducible assumption) | omega | (simp <;> omega))) ?_); intro v7 w7 hO7 hb7 hc7; have HO7 := Lib.hid hO7; have z1 : w7.cell? ⟨wr.heap.size, 1, none⟩ = some (.slice A2 bs.length c2) := (hc7 wr.heap.size (by (first | (with_reducible exact Nat.le_refl _) | (with_reducible assumption) | omega | (simp <;> omega))) (fun e => absurd (HO.out.2.1.lt _ e).2 (Nat.lt_irrefl _)) 1).trans (by rw [World.cell?_alloc_past _ _ _ (by (first | (with_reducible exact Nat.le_refl _) | (with_reducible assumption) | omega | (simp <;> omega))), q5]; simp [go_sem]); have z3 : w7.cell? ⟨wr.heap.size, 3, none⟩ = some (.bool p) := (hc7 wr.heap.size (by (first | (with_reducible exact Nat.le_refl _) | (with_reducible assumption) | omega | (simp <;> omega))) (fun e => absurd (HO.out.2.1.lt _ e).2 (Nat.lt_irrefl _)) 3).trans (by rw [World.cell?_alloc_past _ _ _ (by (first | (with_reducible exact Nat.le_refl _) | (with_reducible assumption) | omega | (simp <;> omega))), q5]; simp [go_sem]); have hB7 := (hB.trans ((show Below wr.heap.size wr _ by (repeat' (first | (with_reducible exact Below.refl _ _) | (with_reducible assumption) | (with_reducible refine Below.alloc ?_ ?_ _) | (with_reducible refine Below.drew ?_) | (with_reducible refine below_drewN ?_ _) | (with_reducible refine Below.setCell ?_ ?_ _) | (with_reducible exact Nat.le_refl _) | omega | (simp <;> omega)))).mono hsz)).trans hb7; clear hO7 hb7 hc7))
            go_wp2_with fail
            go_roundw
            case rel =>
              refine ⟨k + 1, ys ++ [⟨⟨4 * to + k, bs, true, p⟩, A5, c5⟩], by omega, by go_num, ?_, HO7, hB7⟩
              show _ = _
              have hl : k < xs.length := by rw [Hl.out]; exact hlt
              have e : xs[k]? = some ⟨⟨a, bs, d, p⟩, A2, c2⟩ := by
                have := Hx.out
                rw [List.getD, List.getElem?_eq_getElem hl] at this
                rw [List.getElem?_eq_getElem hl]
                simpa using this
              rw [List.map_append, Hy.out, List.take_add_one, List.getElem?_mapIdx, e]
              simp
            case measure => simp [intOf]; omega
          · have hge : 4 ≤ k := by omega
            clear hlt
            go_wp2_with fail
            go_ret2
            refine ⟨_, ys, rfl, ?_, HO.out, hB⟩
            rw [Hy.out, List.take_of_length_le (by simp [Hl.out]; omega)]
  · have hE : rebE xs to = 7 := by simp [rebE, Hl.out, h4]
    have hL : rebL xs to = [] := by simp [rebL, hE]
    rewrite [hE, hL]
    clear hE hL
    go_enter Try.func21, Try.ntmps21
    go_wp2_with fail
    go_ret2
    exact ⟨_, [], rfl, rfl, OwnLines.nil_ _ _, by (repeat' (first | (with_reducible exact Below.refl _ _) | (with_reducible assumption) | (with_reducible refine Below.alloc ?_ ?_ _) | (with_reducible refine Below.drew ?_) | (with_reducible refine below_drewN ?_ _) | (with_reducible refine Below.setCell ?_ ?_ _) | (with_reducible exact Nat.le_refl _) | omega | (simp <;> omega)))⟩
end Go.Proofs.Ytjlmgjpnfppkoaa
