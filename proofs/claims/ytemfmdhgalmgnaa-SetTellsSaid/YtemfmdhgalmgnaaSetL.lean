/- Layer 15: the law SetNots. -/
import Derived.Test.YtemfmdhgalmgnaaSetI
import Derived.Test.YtemfmdhgalmgnaaSetPlainB
namespace Go.Proofs.Ytemfmdhgalmgnaa
open Go.RowKit
set_option linter.unusedVariables false
theorem notL_len (a : List Int) (x : Int) : (notL a x).length ≤ 100000 := by
  have h1 : (notL a x).length ≤ (below_ (clip x)).length := by
    unfold notL; split
    · exact List.length_filter_le _ _
    · simp
  rw [below_len] at h1
  have : clip x ≤ 100000 := by unfold clip; omega
  omega
theorem andL_len (a b : List Int) : (andL a b).length ≤ a.length := by
  unfold andL; split
  · exact keptL_len
  · simp
theorem orL_len (a b : List Int) : (orL a b).length ≤ a.length + b.length := by
  unfold orL; split
  · exact mergeL_len _ _
  · simp
set_option maxHeartbeats 4000000 in
theorem SetNots_walk (A : Option Addr) (n c : Nat) (xs : List Int) (B : Option Addr) (m d : Nat) (ys : List Int) (x : Int) (w : World) (hI : IntsAt (fun k => k < w.heap.size) w A n c xs) (hn : n * 8 ≤ 140737488351232) (hxs : ∀ x ∈ xs, -9223372036854775808 ≤ x ∧ x ≤ 9223372036854775807) (hJ : IntsAt (fun k => k < w.heap.size) w B m d ys) (hm : m * 8 ≤ 140737488351232) (hys : ∀ x ∈ ys, -9223372036854775808 ≤ x ∧ x ≤ 9223372036854775807) (hx1 : -9223372036854775808 ≤ x) (hx2 : x ≤ 9223372036854775807) :
    Calls Try.prog 6 #[.slice A n c, .slice B m d, .int .i64 x] w fun e w' => e = .returned (.bool true) ∧ Chg Nothing w w' := by
  have hIl := hid hI.2.2.2.1
  have hJl := hid hJ.2.2.2.1
  have hA := hid (show IntsAt (Lt w.heap.size) w A n c xs from hI); clear hI
  have hB := hid (show IntsAt (Lt w.heap.size) w B m d ys from hJ); clear hJ
  have hC := Chg.refl Nothing w
  clear hxs hys
  have hfa : ((n : Int) ≤ 200) ∨ (200 : Int) < n := by omega
  have hfb : ((m : Int) ≤ 200) ∨ (200 : Int) < m := by omega
  have hxx : (x < 0) ∨ (1000 < x) ∨ (0 ≤ x ∧ x ≤ 1000) := by omega
  have hl1 := notL_len xs x
  have hl2 := notL_len ys x
  have hl3 : (andL xs ys).length ≤ n := by have := andL_len xs ys; rw [hIl.out] at this; exact this
  have hl4 : (orL xs ys).length ≤ n + m := by have := orL_len xs ys; rw [hIl.out, hJl.out] at this; exact this
  rcases hfa with hf | hf
  rotate_left
  · go_enter Try.func6, Try.ntmps6
    go_wp2_with fail
    refine (fewS_no A n c w hf).mono ?_
    rintro e w' ⟨rfl, rfl⟩
    go_wp2_with fail
    refine (aliveS _).mono ?_
    rintro e wa ⟨rfl, hc1⟩
    go_wp2
    go_ret
    exact ⟨rfl, hC.trans hc1⟩
  rcases hfb with hf2 | hf2
  rotate_left
  · go_enter Try.func6, Try.ntmps6
    go_wp2_with fail
    refine (fewS_yes A n c w hf).mono ?_
    rintro e w' ⟨rfl, rfl⟩
    go_wp2_with fail
    refine (fewS_no B m d w hf2).mono ?_
    rintro e w' ⟨rfl, rfl⟩
    go_wp2_with fail
    refine (aliveS _).mono ?_
    rintro e wa ⟨rfl, hc1⟩
    go_wp2
    go_ret
    exact ⟨rfl, hC.trans hc1⟩
  rcases hxx with hx | hx | ⟨hx3, hx4⟩
  · have hd1 : decide (x < 0) = true := decide_eq_true (by omega)
    go_enter Try.func6, Try.ntmps6
    go_wp2_with fail
    refine (fewS_yes A n c w hf).mono ?_
    rintro e w' ⟨rfl, rfl⟩
    go_wp2_with fail
    refine (fewS_yes B m d w hf2).mono ?_
    rintro e w' ⟨rfl, rfl⟩
    go_wp2_with fail
    refine (aliveS _).mono ?_
    rintro e wa ⟨rfl, hc1⟩
    go_wp2
    go_ret
    exact ⟨rfl, hC.trans hc1⟩
  · have hd1 : decide (x < 0) = false := decide_eq_false (by omega)
    have hd2 : decide (1000 < x) = true := decide_eq_true (by omega)
    go_enter Try.func6, Try.ntmps6
    go_wp2_with fail
    refine (fewS_yes A n c w hf).mono ?_
    rintro e w' ⟨rfl, rfl⟩
    go_wp2_with fail
    refine (fewS_yes B m d w hf2).mono ?_
    rintro e w' ⟨rfl, rfl⟩
    go_wp2_with fail
    refine (aliveS _).mono ?_
    rintro e wa ⟨rfl, hc1⟩
    go_wp2
    go_ret
    exact ⟨rfl, hC.trans hc1⟩
  have hd1 : decide (x < 0) = false := decide_eq_false (by omega)
  have hd2 : decide (1000 < x) = false := decide_eq_false (by omega)
  by_cases hra : rightB (-1) xs = true
  rotate_left
  · have hrf : rightB (-1) xs = false := by simpa using hra
    have HRA := hid hrf; clear hra hrf
    go_enter Try.func6, Try.ntmps6
    go_wp2_with fail
    refine (fewS_yes A n c w hf).mono ?_
    rintro e w' ⟨rfl, rfl⟩
    go_wp2_with fail
    refine (fewS_yes B m d w hf2).mono ?_
    rintro e w' ⟨rfl, rfl⟩
    go_wp2_with fail
    refine (refRight_chg hA.out (xs := xs) HRA.out).mono ?_
    rintro e wr1 ⟨rfl, hc⟩
    replace hA := hid (chgN hc hA.out); replace hB := hid (chgN hc hB.out)
    replace hC := hC.trans hc
    have hs_wr1 := hc.size
    clear hc
    go_wp2_with fail
    refine (aliveS _).mono ?_
    rintro e wa ⟨rfl, hc1⟩
    go_wp2
    go_ret
    exact ⟨rfl, hC.trans hc1⟩
  have HRA := hid hra; clear hra
  by_cases hrb : rightB (-1) ys = true
  rotate_left
  · have hrf : rightB (-1) ys = false := by simpa using hrb
    have HRB := hid hrf; clear hrb hrf
    go_enter Try.func6, Try.ntmps6
    go_wp2_with fail
    refine (fewS_yes A n c w hf).mono ?_
    rintro e w' ⟨rfl, rfl⟩
    go_wp2_with fail
    refine (fewS_yes B m d w hf2).mono ?_
    rintro e w' ⟨rfl, rfl⟩
    go_wp2_with fail
    refine (refRight_chg hA.out (xs := xs) HRA.out).mono ?_
    rintro e wr1 ⟨rfl, hc⟩
    replace hA := hid (chgN hc hA.out); replace hB := hid (chgN hc hB.out)
    replace hC := hC.trans hc
    have hs_wr1 := hc.size
    clear hc
    go_wp2_with fail
    refine (refRight_chg hB.out (xs := ys) HRB.out).mono ?_
    rintro e wr2 ⟨rfl, hc⟩
    replace hA := hid (chgN hc hA.out); replace hB := hid (chgN hc hB.out)
    replace hC := hC.trans hc
    have hs_wr2 := hc.size
    clear hc
    go_wp2_with fail
    refine (aliveS _).mono ?_
    rintro e wa ⟨rfl, hc1⟩
    go_wp2
    go_ret
    exact ⟨rfl, hC.trans hc1⟩
  have HRB := hid hrb; clear hrb
  go_enter Try.func6, Try.ntmps6
  go_wp2_with fail
  refine (fewS_yes A n c w hf).mono ?_
  rintro e w' ⟨rfl, rfl⟩
  go_wp2_with fail
  refine (fewS_yes B m d w hf2).mono ?_
  rintro e w' ⟨rfl, rfl⟩
  go_wp2_with fail
  refine (refRight_chg hA.out (xs := xs) HRA.out).mono ?_
  rintro e wr1 ⟨rfl, hc⟩
  replace hA := hid (chgN hc hA.out); replace hB := hid (chgN hc hB.out)
  replace hC := hC.trans hc
  have hs_wr1 := hc.size
  clear hc
  go_wp2_with fail
  refine (refRight_chg hB.out (xs := ys) HRB.out).mono ?_
  rintro e wr2 ⟨rfl, hc⟩
  replace hA := hid (chgN hc hA.out); replace hB := hid (chgN hc hB.out)
  replace hC := hC.trans hc
  have hs_wr2 := hc.size
  clear hc
  go_wp2_with fail
  refine (setNot_any _ _ _ _ xs x _ hA.out (ltF (by omega))).mono ?_
  rintro e w_1 ⟨hg, hc⟩
  obtain ⟨X_1, c_1, rfl, hX⟩ := hg.out
  replace hX := hX.mono (G := Lt w_1.heap.size) (fun k hk _ => hk)
  replace hA := hid (chgN hc hA.out); replace hB := hid (chgN hc hB.out)
  replace hC := hC.trans hc
  have hs_1 := hc.size
  clear hc hg 
  replace hX := hid hX
  go_wp2_with fail
  refine (setNot_any _ _ _ _ ys x _ hB.out (ltF (by omega))).mono ?_
  rintro e w_2 ⟨hg, hc⟩
  obtain ⟨X_2, c_2, rfl, hY⟩ := hg.out
  replace hY := hY.mono (G := Lt w_2.heap.size) (fun k hk _ => hk)
  replace hA := hid (chgN hc hA.out); replace hB := hid (chgN hc hB.out); replace hX := hid (chgN hc hX.out)
  replace hC := hC.trans hc
  have hs_2 := hc.size
  clear hc hg 
  replace hY := hid hY
  go_wp2_with fail
  refine (aliveS _).mono ?_
  rintro e w_3 ⟨rfl, hc⟩
  replace hA := hid (chgN hc hA.out); replace hB := hid (chgN hc hB.out); replace hX := hid (chgN hc hX.out); replace hY := hid (chgN hc hY.out)
  replace hC := hC.trans hc
  have hs_3 := hc.size
  clear hc 
  go_wp2_with fail
  refine (setAnd_any _ _ _ _ _ _ _ _ xs ys _ hA.out hB.out (ltF (by omega)) (ltF (by omega)) (by omega)).mono ?_
  rintro e w_4 ⟨hg, hc⟩
  obtain ⟨X_4, c_4, rfl, hP⟩ := hg.out
  replace hP := hP.mono (G := Lt w_4.heap.size) (fun k hk _ => hk)
  replace hA := hid (chgN hc hA.out); replace hB := hid (chgN hc hB.out); replace hX := hid (chgN hc hX.out); replace hY := hid (chgN hc hY.out)
  replace hC := hC.trans hc
  have hs_4 := hc.size
  clear hc hg 
  replace hP := hid hP
  go_wp2_with fail
  refine (setNot_any _ _ _ _ (andL xs ys) x _ hP.out (ltF (by omega))).mono ?_
  rintro e w_5 ⟨hg, hc⟩
  obtain ⟨X_5, c_5, rfl, hQ⟩ := hg.out
  replace hQ := hQ.mono (G := Lt w_5.heap.size) (fun k hk _ => hk)
  replace hA := hid (chgN hc hA.out); replace hB := hid (chgN hc hB.out); replace hX := hid (chgN hc hX.out); replace hY := hid (chgN hc hY.out)
  replace hC := hC.trans hc
  have hs_5 := hc.size
  clear hc hg hP
  replace hQ := hid hQ
  go_wp2_with fail
  refine (setOr_any _ _ _ _ _ _ _ _ (notL xs x) (notL ys x) _ hX.out hY.out (ltF (by omega)) (ltF (by omega)) (by omega) (by omega)).mono ?_
  rintro e w_6 ⟨hg, hc⟩
  obtain ⟨X_6, c_6, rfl, hR⟩ := hg.out
  replace hR := hR.mono (G := Lt w_6.heap.size) (fun k hk _ => hk)
  replace hA := hid (chgN hc hA.out); replace hB := hid (chgN hc hB.out); replace hX := hid (chgN hc hX.out); replace hY := hid (chgN hc hY.out); replace hQ := hid (chgN hc hQ.out)
  replace hC := hC.trans hc
  have hs_6 := hc.size
  clear hc hg 
  replace hR := hid hR
  go_wp2_with fail
  refine (places_yes hQ.out hR.out (not_and HRA.out HRB.out x)).mono ?_
  rintro e w_7 ⟨rfl, hc⟩
  replace hA := hid (chgN hc hA.out); replace hB := hid (chgN hc hB.out); replace hX := hid (chgN hc hX.out); replace hY := hid (chgN hc hY.out)
  replace hC := hC.trans hc
  have hs_7 := hc.size
  clear hc hQ hR
  go_wp2_with fail
  refine (setOr_any _ _ _ _ _ _ _ _ xs ys _ hA.out hB.out (ltF (by omega)) (ltF (by omega)) (by omega) (by omega)).mono ?_
  rintro e w_8 ⟨hg, hc⟩
  obtain ⟨X_8, c_8, rfl, hP⟩ := hg.out
  replace hP := hP.mono (G := Lt w_8.heap.size) (fun k hk _ => hk)
  replace hA := hid (chgN hc hA.out); replace hB := hid (chgN hc hB.out); replace hX := hid (chgN hc hX.out); replace hY := hid (chgN hc hY.out)
  replace hC := hC.trans hc
  have hs_8 := hc.size
  clear hc hg 
  replace hP := hid hP
  go_wp2_with fail
  refine (setNot_any _ _ _ _ (orL xs ys) x _ hP.out (ltF (by omega))).mono ?_
  rintro e w_9 ⟨hg, hc⟩
  obtain ⟨X_9, c_9, rfl, hQ⟩ := hg.out
  replace hQ := hQ.mono (G := Lt w_9.heap.size) (fun k hk _ => hk)
  replace hA := hid (chgN hc hA.out); replace hB := hid (chgN hc hB.out); replace hX := hid (chgN hc hX.out); replace hY := hid (chgN hc hY.out)
  replace hC := hC.trans hc
  have hs_9 := hc.size
  clear hc hg hP
  replace hQ := hid hQ
  go_wp2_with fail
  refine (setAnd_any _ _ _ _ _ _ _ _ (notL xs x) (notL ys x) _ hX.out hY.out (ltF (by omega)) (ltF (by omega)) (by omega)).mono ?_
  rintro e w_10 ⟨hg, hc⟩
  obtain ⟨X_10, c_10, rfl, hR⟩ := hg.out
  replace hR := hR.mono (G := Lt w_10.heap.size) (fun k hk _ => hk)
  replace hA := hid (chgN hc hA.out); replace hB := hid (chgN hc hB.out); replace hX := hid (chgN hc hX.out); replace hY := hid (chgN hc hY.out); replace hQ := hid (chgN hc hQ.out)
  replace hC := hC.trans hc
  have hs_10 := hc.size
  clear hc hg 
  replace hR := hid hR
  go_wp2_with fail
  refine (places_yes hQ.out hR.out (not_or HRA.out HRB.out x)).mono ?_
  rintro e w_11 ⟨rfl, hc⟩
  replace hA := hid (chgN hc hA.out); replace hB := hid (chgN hc hB.out); replace hX := hid (chgN hc hX.out); replace hY := hid (chgN hc hY.out)
  replace hC := hC.trans hc
  have hs_11 := hc.size
  clear hc hQ hR
  go_wp2_with fail
  refine (setNot_any _ _ _ _ (notL xs x) x _ hX.out (ltF (by omega))).mono ?_
  rintro e w_12 ⟨hg, hc⟩
  obtain ⟨X_12, c_12, rfl, hQ⟩ := hg.out
  replace hQ := hQ.mono (G := Lt w_12.heap.size) (fun k hk _ => hk)
  replace hA := hid (chgN hc hA.out); replace hB := hid (chgN hc hB.out); replace hX := hid (chgN hc hX.out); replace hY := hid (chgN hc hY.out)
  replace hC := hC.trans hc
  have hs_12 := hc.size
  clear hc hg 
  replace hQ := hid hQ
  go_wp2_with fail
  refine (setBelow_any _ _ _ _ xs x _ hA.out (ltF (by omega)) (by omega)).mono ?_
  rintro e w_13 ⟨hg, hc⟩
  obtain ⟨X_13, c_13, rfl, hR⟩ := hg.out
  replace hR := hR.mono (G := Lt w_13.heap.size) (fun k hk _ => hk)
  replace hA := hid (chgN hc hA.out); replace hB := hid (chgN hc hB.out); replace hX := hid (chgN hc hX.out); replace hY := hid (chgN hc hY.out); replace hQ := hid (chgN hc hQ.out)
  replace hC := hC.trans hc
  have hs_13 := hc.size
  clear hc hg 
  replace hR := hid hR
  go_wp2_with fail
  refine (places_yes hQ.out hR.out (not_not HRA.out hx3 hx4)).mono ?_
  rintro e w_14 ⟨rfl, hc⟩
  replace hA := hid (chgN hc hA.out); replace hB := hid (chgN hc hB.out); replace hX := hid (chgN hc hX.out); replace hY := hid (chgN hc hY.out)
  replace hC := hC.trans hc
  have hs_14 := hc.size
  clear hc hQ hR
  go_wp2
  go_ret
  exact ⟨rfl, hC⟩
end Go.Proofs.Ytemfmdhgalmgnaa
