/- Layer 15: the law SetShifts. -/
import Derived.Test.YtemfmdhgalmgnaaSetI
import Derived.Test.YtemfmdhgalmgnaaSetPlainB
namespace Go.Proofs.Ytemfmdhgalmgnaa
open Go.RowKit
set_option linter.unusedVariables false
/-- What a place of the moved row holds, and the place of the row that it comes from. -/
theorem shift_at {xs : List Int} (hr : rightB (-1) xs = true) {s : Int} (hs : 0 ≤ s) {i : Nat} (hi : i < (shiftL xs s).length) :
    (shiftL xs s).length ≤ xs.length ∧ xs.length - (shiftL xs s).length + i < xs.length ∧ (shiftL xs s).getD i 0 = xs.getD (xs.length - (shiftL xs s).length + i) 0 - s ∧ s ≤ xs.getD (xs.length - (shiftL xs s).length + i) 0 ∧ xs.getD (xs.length - (shiftL xs s).length + i) 0 ∈ xs := by
  obtain ⟨j, hj, e⟩ := shift_drop hr hs
  have hl : (shiftL xs s).length = xs.length - j := by rw [e]; simp
  have hix : xs.length - (shiftL xs s).length + i = j + i := by omega
  have hjl : j + i < xs.length := by omega
  have h1 : (shiftL xs s).getD i 0 = xs.getD (j + i) 0 - s := by
    rw [e]
    simp [hjl]
  have hmem : (shiftL xs s).getD i 0 ∈ shiftL xs s := by
    rw [show (shiftL xs s).getD i 0 = (shiftL xs s)[i] from by simp [hi]]; exact List.getElem_mem hi
  have hnn : 0 ≤ (shiftL xs s).getD i 0 := by have := (right_iff.1 (right_shift xs s)).1 _ hmem; omega
  rw [hix]
  refine ⟨by omega, hjl, h1, by omega, ?_⟩
  rw [show xs.getD (j + i) 0 = xs[j + i] from by simp [hjl]]
  exact List.getElem_mem hjl
theorem shiftL_len (xs : List Int) (s : Int) : (shiftL xs s).length ≤ xs.length := by
  unfold shiftL; split
  · simp
  · rw [List.length_map]; exact keptL_len
theorem shiftL_bad {xs : List Int} {s : Int} (h : rightB (-1) xs = false) : shiftL xs s = [] := by
  unfold shiftL keptL; rw [h]; simp

set_option maxHeartbeats 4000000 in
theorem SetShifts_walk (A : Option Addr) (n c : Nat) (xs : List Int) (m x : Int) (w : World) (hI : IntsAt (fun k => k < w.heap.size) w A n c xs) (hn : n * 8 ≤ 140737488351232) (hxs : ∀ x ∈ xs, -9223372036854775808 ≤ x ∧ x ≤ 9223372036854775807) (hm1 : -9223372036854775808 ≤ m) (hm2 : m ≤ 9223372036854775807) (hx1 : -9223372036854775808 ≤ x) (hx2 : x ≤ 9223372036854775807) :
    Calls Try.prog 8 #[.slice A n c, .int .i64 m, .int .i64 x] w fun e w' => e = .returned (.bool true) ∧ Chg Nothing w w' := by
  have hIl := hid hI.2.2.2.1
  have hA := hid (show IntsAt (Lt w.heap.size) w A n c xs from hI); clear hI
  have hZ := hid (fun z hz => (hxs z hz).2 : ∀ z ∈ xs, z ≤ 9223372036854775807)
  have hC := Chg.refl Nothing w
  clear hxs
  have hfa : ((n : Int) ≤ 200) ∨ (200 : Int) < n := by omega
  have hcase : (m < 0) ∨ (0 ≤ m ∧ x < 0) ∨ (0 ≤ m ∧ 0 ≤ x ∧ 1099511627776 < m) ∨ (0 ≤ m ∧ 0 ≤ x ∧ m ≤ 1099511627776 ∧ 1099511627776 < x) ∨ (0 ≤ m ∧ 0 ≤ x ∧ m ≤ 1099511627776 ∧ x ≤ 1099511627776) := by omega
  have hl1 : (shiftL xs m).length ≤ n := by have := shiftL_len xs m; rw [hIl.out] at this; exact this
  have hl2 : (shiftL xs (m + x)).length ≤ n := by have := shiftL_len xs (m + x); rw [hIl.out] at this; exact this
  rcases hfa with hf | hf
  rotate_left
  · go_enter Try.func8, Try.ntmps8
    go_wp2_with fail
    refine (fewS_no A n c w hf).mono ?_
    rintro e w' ⟨rfl, rfl⟩
    go_wp2_with fail
    refine (aliveS _).mono ?_
    rintro e wa ⟨rfl, hc1⟩
    go_wp2
    go_ret
    exact ⟨rfl, hC.trans hc1⟩
  rcases hcase with hq1 | ⟨hq1, hq2⟩ | ⟨hq1, hq2, hq3⟩ | ⟨hq1, hq2, hq3, hq4⟩ | ⟨hq1, hq2, hq3, hq4⟩
  · have hd_343 : decide (m < 0) = true := decide_eq_true (by omega)
    go_enter Try.func8, Try.ntmps8
    go_wp2_with fail
    refine (fewS_yes A n c w hf).mono ?_
    rintro e w' ⟨rfl, rfl⟩
    go_wp2_with fail
    refine (aliveS _).mono ?_
    rintro e wa ⟨rfl, hc1⟩
    go_wp2
    go_ret
    exact ⟨rfl, hC.trans hc1⟩
  · have hd_343 : decide (m < 0) = false := decide_eq_false (by omega)
    have hd_539 : decide (x < 0) = true := decide_eq_true (by omega)
    go_enter Try.func8, Try.ntmps8
    go_wp2_with fail
    refine (fewS_yes A n c w hf).mono ?_
    rintro e w' ⟨rfl, rfl⟩
    go_wp2_with fail
    refine (aliveS _).mono ?_
    rintro e wa ⟨rfl, hc1⟩
    go_wp2
    go_ret
    exact ⟨rfl, hC.trans hc1⟩
  · have hd_343 : decide (m < 0) = false := decide_eq_false (by omega)
    have hd_539 : decide (x < 0) = false := decide_eq_false (by omega)
    have hd_644 : decide (1099511627776 < m) = true := decide_eq_true (by omega)
    go_enter Try.func8, Try.ntmps8
    go_wp2_with fail
    refine (fewS_yes A n c w hf).mono ?_
    rintro e w' ⟨rfl, rfl⟩
    go_wp2_with fail
    refine (aliveS _).mono ?_
    rintro e wa ⟨rfl, hc1⟩
    go_wp2
    go_ret
    exact ⟨rfl, hC.trans hc1⟩
  · have hd_343 : decide (m < 0) = false := decide_eq_false (by omega)
    have hd_539 : decide (x < 0) = false := decide_eq_false (by omega)
    have hd_644 : decide (1099511627776 < m) = false := decide_eq_false (by omega)
    have hd_294 : decide (1099511627776 < x) = true := decide_eq_true (by omega)
    go_enter Try.func8, Try.ntmps8
    go_wp2_with fail
    refine (fewS_yes A n c w hf).mono ?_
    rintro e w' ⟨rfl, rfl⟩
    go_wp2_with fail
    refine (aliveS _).mono ?_
    rintro e wa ⟨rfl, hc1⟩
    go_wp2
    go_ret
    exact ⟨rfl, hC.trans hc1⟩
  have hd_343 : decide (m < 0) = false := decide_eq_false (by omega)
  have hd_539 : decide (x < 0) = false := decide_eq_false (by omega)
  have hd_644 : decide (1099511627776 < m) = false := decide_eq_false (by omega)
  have hd_294 : decide (1099511627776 < x) = false := decide_eq_false (by omega)

  have hZ2 := hid (fun z hz => by
    by_cases hr : rightB (-1) xs = true
    · obtain ⟨j, hj, e⟩ := shift_drop hr hq1
      rw [e] at hz
      obtain ⟨y, hy, rfl⟩ := List.mem_map.1 hz
      have := hZ.out y (List.mem_of_mem_drop hy); omega
    · rw [shiftL_bad (by simpa using hr)] at hz; simp at hz : ∀ z ∈ shiftL xs m, z ≤ 9223372036854775807)
  go_enter Try.func8, Try.ntmps8
  go_wp2_with fail
  refine (fewS_yes A n c w hf).mono ?_
  rintro e w' ⟨rfl, rfl⟩
  go_wp2_with fail
  refine (setShift_any _ _ _ _ xs m _ hA.out (ltF (by omega)) (by omega) (by omega) hZ.out).mono ?_
  rintro e w_1 ⟨hg, hc⟩
  obtain ⟨X_1, c_1, rfl, hS⟩ := hg.out
  replace hS := hS.mono (G := Lt w_1.heap.size) (fun k hk _ => hk)
  replace hA := hid (chgN hc hA.out)
  replace hC := hC.trans hc
  have hs_1 := hc.size
  clear hc hg 
  replace hS := hid hS
  go_wp2_with fail
  refine (setShift_any _ _ _ _ (shiftL xs m) x _ hS.out (ltF (by omega)) (by omega) (by omega) hZ2.out).mono ?_
  rintro e w_2 ⟨hg, hc⟩
  obtain ⟨X_2, c_2, rfl, hX⟩ := hg.out
  replace hX := hX.mono (G := Lt w_2.heap.size) (fun k hk _ => hk)
  replace hA := hid (chgN hc hA.out)
  replace hC := hC.trans hc
  have hs_2 := hc.size
  clear hc hg hS
  replace hX := hid hX
  have hsh := hid (shift_shift xs hq1 hq2)
  have hmx : 0 ≤ m + x := by omega
  go_wp2_with fail
  refine (setShift_any _ _ _ _ xs (m + x) _ hA.out (ltF (by omega)) (by omega) (by omega) hZ.out).mono ?_
  rintro e w_3 ⟨hg, hc⟩
  obtain ⟨X_3, c_3, rfl, hY⟩ := hg.out
  replace hY := hY.mono (G := Lt w_3.heap.size) (fun k hk _ => hk)
  replace hA := hid (chgN hc hA.out); replace hX := hid (chgN hc hX.out)
  replace hC := hC.trans hc
  have hs_3 := hc.size
  clear hc hg 
  replace hY := hid hY
  by_cases hr : rightB (-1) xs = true
  · have HR := hid hr; clear hr
    obtain ⟨p, hp⟩ : ∃ p, p = (shiftL xs (m + x)).length := ⟨_, rfl⟩
    rw [← hp] at hY hl2 ⊢
    have HP := hid hp; clear hp
    go_wp2_with fail
    go_loopw [9] (fun i wr => ∃ k : Nat, 1 ≤ k ∧ k ≤ p + 1 ∧ i = .int .i64 k ∧ Chg Nothing w_3 wr) (fun i _ => p + 1 - (intOf i).toNat)
    case atStart => exact ⟨1, Nat.le_refl _, by omega, rfl, Chg.refl _ _⟩
    case round =>
      obtain ⟨k, hk1, hk, rfl, hcr⟩ := hrel
      by_cases hlt : k < p
      · have t1 := shift_at HR.out hmx (i := k) (by rw [← HP.out]; exact hlt)
        have t0 := shift_at HR.out hmx (i := k - 1) (by rw [← HP.out]; omega)
        rw [← HP.out, hIl.out] at t1 t0
        obtain ⟨_, t11, t12, t13, t14⟩ := t1
        obtain ⟨_, t01, t02, t03, t04⟩ := t0
        have hix : n - p + (k - 1) = n - p + k - 1 := by omega
        rw [hix] at t01 t02 t03 t04
        clear hix
        have b1 := hZ.out _ t14
        have b0 := hZ.out _ t04
        have hAr := chgN hcr hA.out
        have hYr := chgN hcr hY.out
        obtain ⟨g, o, e1, _, _, a1⟩ := hAr.at_ t11
        obtain ⟨g', o', e2, _, _, a0⟩ := hAr.at_ t01
        obtain ⟨h, q, e3, _, _, y1⟩ := hYr.at_ hlt
        obtain ⟨h', q', e4, _, _, y0⟩ := hYr.at_ (show k - 1 < p by omega)
        subst e1
        injection e2 with e2; injection e2 with e5 e6; subst e5 e6
        rw [e3] at e4
        injection e4 with e4; injection e4 with e5 e6; subst e5 e6
        rw [t12] at y1
        rw [t02] at y0
        clear t12 t02 t14 t04 hAr hYr
        generalize xs.getD (n - p + k) 0 = v1 at *
        generalize xs.getD (n - p + k - 1) 0 = v0 at *
        subst e3
        clear hlt
        have hlt : k < p := by omega
        go_wp2_with fail
        refine (refRight_chg (xs := xs) (chgN hcr hA.out) HR.out).mono ?_
        rintro e w2 ⟨rfl, hc2⟩
        have hcr2 := hcr.trans hc2
        have y1' := (World.cell?_of_block (w := wr) (hc2.block h (World.block_lt_of_cell? wr _ y1) id)).trans y1
        have y0' := (World.cell?_of_block (w := wr) (hc2.block h (World.block_lt_of_cell? wr _ y1) id)).trans y0
        have a1' := (World.cell?_of_block (w := wr) (hc2.block g (World.block_lt_of_cell? wr _ a1) id)).trans a1
        have a0' := (World.cell?_of_block (w := wr) (hc2.block g (World.block_lt_of_cell? wr _ a1) id)).trans a0
        clear y1 y0 a1 a0 hc2 hcr
        go_wp2_with fail
        go_quiet (fail)
        go_wp2
        go_roundw
        case rel => exact ⟨k + 1, by omega, by omega, by go_num, hcr2.drewN _⟩
        case measure => simp [intOf]; omega
      · have hge : p ≤ k := by omega
        clear hlt
        go_wp2_with fail
        refine (aliveS _).mono ?_
        rintro e w2 ⟨rfl, hc2⟩
        have hcr2 := hcr.trans hc2
        go_wp2_with fail
        refine (places_yes (chgN hcr2 hX.out) (chgN hcr2 hY.out) hsh.out).mono ?_
        rintro e w3 ⟨rfl, hc3⟩
        go_wp2
        go_ret
        exact ⟨rfl, hC.trans (hcr2.trans hc3)⟩
  · have hrf : rightB (-1) xs = false := by simpa using hr
    have hb := shiftL_bad (s := m + x) hrf
    rw [hb] at hY hsh
    have hlen : (shiftL xs (m + x)).length = 0 := by rw [hb]; rfl
    rw [hb]
    simp only [List.length_nil] at hY ⊢
    clear hrf hr hb hl2 hlen
    go_wp2_with fail
    go_loop [9] (fun i => i = .int .i64 1) (fun _ => 0)
    case atStart => rfl
    case round =>
      subst hrel
      go_wp2_with fail
      refine (aliveS _).mono ?_
      rintro e w2 ⟨rfl, hc2⟩
      go_wp2_with fail
      refine (places_yes (chgN hc2 hX.out) (chgN hc2 hY.out) hsh.out).mono ?_
      rintro e w3 ⟨rfl, hc3⟩
      go_wp2
      go_ret
      exact ⟨rfl, hC.trans (hc2.trans hc3)⟩
end Go.Proofs.Ytemfmdhgalmgnaa
