/- Layer 15: the law SetTells. -/
import Derived.Test.YtemfmdhgalmgnaaSetL
namespace Go.Proofs.Ytemfmdhgalmgnaa
open Go.RowKit
set_option linter.unusedVariables false
theorem refHas_chg {F : Nat → Prop} {A : Option Addr} {n c : Nat} {xs : List Int} {x : Int} {w : World} (h : IntsAt F w A n c xs) {r : Bool} (hr : decide (x ∈ xs) = r) :
    Calls Try.prog 30 #[.slice A n c, .int .i64 x] w fun e w' => e = .returned (.bool r) ∧ Chg Nothing w w' := by
  refine (refHas_any F A n c xs x w h).mono ?_
  rintro e w' ⟨rfl, rfl⟩
  exact ⟨by rw [hr], Chg.refl _ _⟩
set_option maxHeartbeats 8000000 in
theorem SetTells_walk (A : Option Addr) (n c : Nat) (xs : List Int) (B : Option Addr) (m d : Nat) (ys : List Int) (x : Int) (w : World) (hI : IntsAt (fun k => k < w.heap.size) w A n c xs) (hn : n * 8 ≤ 140737488351232) (hxs : ∀ x ∈ xs, -9223372036854775808 ≤ x ∧ x ≤ 9223372036854775807) (hJ : IntsAt (fun k => k < w.heap.size) w B m d ys) (hm : m * 8 ≤ 140737488351232) (hys : ∀ x ∈ ys, -9223372036854775808 ≤ x ∧ x ≤ 9223372036854775807) (hx1 : -9223372036854775808 ≤ x) (hx2 : x ≤ 9223372036854775807) :
    Calls Try.prog 7 #[.slice A n c, .slice B m d, .int .i64 x] w fun e w' => e = .returned (.bool true) ∧ Chg Nothing w w' := by
  have hIl := hid hI.2.2.2.1
  have hJl := hid hJ.2.2.2.1
  have hA := hid (show IntsAt (Lt w.heap.size) w A n c xs from hI); clear hI
  have hB := hid (show IntsAt (Lt w.heap.size) w B m d ys from hJ); clear hJ
  have hZ := hid (fun z hz => (hxs z hz).2 : ∀ z ∈ xs, z ≤ 9223372036854775807)
  have hC := Chg.refl Nothing w
  clear hxs hys
  have hfa : ((n : Int) ≤ 200) ∨ (200 : Int) < n := by omega
  have hfb : ((m : Int) ≤ 200) ∨ (200 : Int) < m := by omega
  have hxx : (x ≤ 1000) ∨ (1000 < x) := by omega
  have hl3 : (andL xs ys).length ≤ n := by have := andL_len xs ys; rw [hIl.out] at this; exact this
  have hl4 : (orL xs ys).length ≤ n + m := by have := orL_len xs ys; rw [hIl.out, hJl.out] at this; exact this
  rcases hfa with hf | hf
  rotate_left
  · go_enter Try.func7, Try.ntmps7
    go_wp2_with fail
    refine (fewS_no A n c w hf).mono ?_
    rintro e w' ⟨rfl, rfl⟩
    go_wp2_with fail
    refine (aliveS _).mono ?_
    rintro e wa ⟨rfl, hc1⟩
    go_wp2
    go_ret
    exact ⟨rfl, hC.trans hc1⟩
  rcases hfb with hf2 | hf2
  rotate_left
  · go_enter Try.func7, Try.ntmps7
    go_wp2_with fail
    refine (fewS_yes A n c w hf).mono ?_
    rintro e w' ⟨rfl, rfl⟩
    go_wp2_with fail
    refine (fewS_no B m d w hf2).mono ?_
    rintro e w' ⟨rfl, rfl⟩
    go_wp2_with fail
    refine (aliveS _).mono ?_
    rintro e wa ⟨rfl, hc1⟩
    go_wp2
    go_ret
    exact ⟨rfl, hC.trans hc1⟩
  by_cases hra : rightB (-1) xs = true
  rotate_left
  · have hrf : rightB (-1) xs = false := by simpa using hra
    have HRA := hid hrf; clear hra hrf
    rcases hxx with hx | hx
    · go_enter Try.func7, Try.ntmps7
      go_wp2_with fail
      refine (fewS_yes A n c w hf).mono ?_
      rintro e w' ⟨rfl, rfl⟩
      go_wp2_with fail
      refine (fewS_yes B m d w hf2).mono ?_
      rintro e w' ⟨rfl, rfl⟩
      go_wp2_with fail
      refine (setAnd_any _ _ _ _ _ _ _ _ xs ys _ hA.out hB.out (ltF (by omega)) (ltF (by omega)) (by omega)).mono ?_
      rintro e w_1 ⟨hg, hc⟩
      obtain ⟨X_1, c_1, rfl, hP⟩ := hg.out
      replace hP := hP.mono (G := Lt w_1.heap.size) (fun k hk _ => hk)
      replace hA := hid (chgN hc hA.out); replace hB := hid (chgN hc hB.out)
      replace hC := hC.trans hc
      have hs_1 := hc.size
      clear hc hg 
      replace hP := hid hP
      go_wp2_with fail
      refine (setOr_any _ _ _ _ _ _ _ _ xs ys _ hA.out hB.out (ltF (by omega)) (ltF (by omega)) (by omega) (by omega)).mono ?_
      rintro e w_2 ⟨hg, hc⟩
      obtain ⟨X_2, c_2, rfl, hQ⟩ := hg.out
      replace hQ := hQ.mono (G := Lt w_2.heap.size) (fun k hk _ => hk)
      replace hA := hid (chgN hc hA.out); replace hB := hid (chgN hc hB.out); replace hP := hid (chgN hc hP.out)
      replace hC := hC.trans hc
      have hs_2 := hc.size
      clear hc hg 
      replace hQ := hid hQ
      go_wp2_with fail
      refine (setRight_chg (xs := andL xs ys) hP.out (right_and xs ys)).mono ?_
      rintro e w_3 ⟨rfl, hc⟩
      replace hA := hid (chgN hc hA.out); replace hB := hid (chgN hc hB.out); replace hP := hid (chgN hc hP.out); replace hQ := hid (chgN hc hQ.out)
      replace hC := hC.trans hc
      have hs_3 := hc.size
      clear hc 
      go_wp2_with fail
      refine (setRight_chg (xs := orL xs ys) hQ.out (right_or xs ys)).mono ?_
      rintro e w_4 ⟨rfl, hc⟩
      replace hA := hid (chgN hc hA.out); replace hB := hid (chgN hc hB.out); replace hP := hid (chgN hc hP.out); replace hQ := hid (chgN hc hQ.out)
      replace hC := hC.trans hc
      have hs_4 := hc.size
      clear hc 
      go_wp2_with fail
      refine (setShift_any _ _ _ _ xs x _ hA.out (ltF (by omega)) (by omega) (by omega) hZ.out).mono ?_
      rintro e w_5 ⟨hg, hc⟩
      obtain ⟨X_5, c_5, rfl, hS⟩ := hg.out
      replace hS := hS.mono (G := Lt w_5.heap.size) (fun k hk _ => hk)
      replace hA := hid (chgN hc hA.out); replace hB := hid (chgN hc hB.out); replace hP := hid (chgN hc hP.out); replace hQ := hid (chgN hc hQ.out)
      replace hC := hC.trans hc
      have hs_5 := hc.size
      clear hc hg 
      replace hS := hid hS
      go_wp2_with fail
      refine (setRight_chg (xs := shiftL xs x) hS.out (right_shift xs x)).mono ?_
      rintro e w_6 ⟨rfl, hc⟩
      replace hA := hid (chgN hc hA.out); replace hB := hid (chgN hc hB.out); replace hP := hid (chgN hc hP.out); replace hQ := hid (chgN hc hQ.out)
      replace hC := hC.trans hc
      have hs_6 := hc.size
      clear hc hS
      go_wp2_with fail
      refine (setBelow_any _ _ _ _ xs x _ hA.out (ltF (by omega)) (by omega)).mono ?_
      rintro e w_7 ⟨hg, hc⟩
      obtain ⟨X_7, c_7, rfl, hS⟩ := hg.out
      replace hS := hS.mono (G := Lt w_7.heap.size) (fun k hk _ => hk)
      replace hA := hid (chgN hc hA.out); replace hB := hid (chgN hc hB.out); replace hP := hid (chgN hc hP.out); replace hQ := hid (chgN hc hQ.out)
      replace hC := hC.trans hc
      have hs_7 := hc.size
      clear hc hg 
      replace hS := hid hS
      go_wp2_with fail
      refine (setRight_chg (xs := belowL xs x) hS.out (right_below xs x)).mono ?_
      rintro e w_8 ⟨rfl, hc⟩
      replace hA := hid (chgN hc hA.out); replace hB := hid (chgN hc hB.out); replace hP := hid (chgN hc hP.out); replace hQ := hid (chgN hc hQ.out)
      replace hC := hC.trans hc
      have hs_8 := hc.size
      clear hc hS
      go_wp2_with fail
      refine (setNot_any _ _ _ _ ys x _ hB.out (ltF (by omega))).mono ?_
      rintro e w_9 ⟨hg, hc⟩
      obtain ⟨X_9, c_9, rfl, hS⟩ := hg.out
      replace hS := hS.mono (G := Lt w_9.heap.size) (fun k hk _ => hk)
      replace hA := hid (chgN hc hA.out); replace hB := hid (chgN hc hB.out); replace hP := hid (chgN hc hP.out); replace hQ := hid (chgN hc hQ.out)
      replace hC := hC.trans hc
      have hs_9 := hc.size
      clear hc hg 
      replace hS := hid hS
      go_wp2_with fail
      refine (setRight_chg (xs := notL ys x) hS.out (right_not ys x)).mono ?_
      rintro e w_10 ⟨rfl, hc⟩
      replace hA := hid (chgN hc hA.out); replace hB := hid (chgN hc hB.out); replace hP := hid (chgN hc hP.out); replace hQ := hid (chgN hc hQ.out)
      replace hC := hC.trans hc
      have hs_10 := hc.size
      clear hc hS
      go_wp2_with fail
      refine (refRight_chg hA.out (xs := xs) HRA.out).mono ?_
      rintro e w_11 ⟨rfl, hc⟩
      replace hA := hid (chgN hc hA.out); replace hB := hid (chgN hc hB.out); replace hP := hid (chgN hc hP.out); replace hQ := hid (chgN hc hQ.out)
      replace hC := hC.trans hc
      have hs_11 := hc.size
      clear hc 
      go_wp2_with fail
      refine (aliveS _).mono ?_
      rintro e w_12 ⟨rfl, hc⟩
      replace hA := hid (chgN hc hA.out); replace hB := hid (chgN hc hB.out); replace hP := hid (chgN hc hP.out); replace hQ := hid (chgN hc hQ.out)
      replace hC := hC.trans hc
      have hs_12 := hc.size
      clear hc 
      have hz1 : (andL xs ys).length = 0 := by rw [(bad_and_or (a := xs) (b := ys) (by rw [HRA.out]; simp)).1]; rfl
      have hz2 : (orL xs ys).length = 0 := by rw [(bad_and_or (a := xs) (b := ys) (by rw [HRA.out]; simp)).2]; rfl
      go_wp2
      go_ret
      exact ⟨rfl, hC⟩
    · go_enter Try.func7, Try.ntmps7
      go_wp2_with fail
      refine (fewS_yes A n c w hf).mono ?_
      rintro e w' ⟨rfl, rfl⟩
      go_wp2_with fail
      refine (fewS_yes B m d w hf2).mono ?_
      rintro e w' ⟨rfl, rfl⟩
      go_wp2_with fail
      refine (setAnd_any _ _ _ _ _ _ _ _ xs ys _ hA.out hB.out (ltF (by omega)) (ltF (by omega)) (by omega)).mono ?_
      rintro e w_1 ⟨hg, hc⟩
      obtain ⟨X_1, c_1, rfl, hP⟩ := hg.out
      replace hP := hP.mono (G := Lt w_1.heap.size) (fun k hk _ => hk)
      replace hA := hid (chgN hc hA.out); replace hB := hid (chgN hc hB.out)
      replace hC := hC.trans hc
      have hs_1 := hc.size
      clear hc hg 
      replace hP := hid hP
      go_wp2_with fail
      refine (setOr_any _ _ _ _ _ _ _ _ xs ys _ hA.out hB.out (ltF (by omega)) (ltF (by omega)) (by omega) (by omega)).mono ?_
      rintro e w_2 ⟨hg, hc⟩
      obtain ⟨X_2, c_2, rfl, hQ⟩ := hg.out
      replace hQ := hQ.mono (G := Lt w_2.heap.size) (fun k hk _ => hk)
      replace hA := hid (chgN hc hA.out); replace hB := hid (chgN hc hB.out); replace hP := hid (chgN hc hP.out)
      replace hC := hC.trans hc
      have hs_2 := hc.size
      clear hc hg 
      replace hQ := hid hQ
      go_wp2_with fail
      refine (setRight_chg (xs := andL xs ys) hP.out (right_and xs ys)).mono ?_
      rintro e w_3 ⟨rfl, hc⟩
      replace hA := hid (chgN hc hA.out); replace hB := hid (chgN hc hB.out); replace hP := hid (chgN hc hP.out); replace hQ := hid (chgN hc hQ.out)
      replace hC := hC.trans hc
      have hs_3 := hc.size
      clear hc 
      go_wp2_with fail
      refine (setRight_chg (xs := orL xs ys) hQ.out (right_or xs ys)).mono ?_
      rintro e w_4 ⟨rfl, hc⟩
      replace hA := hid (chgN hc hA.out); replace hB := hid (chgN hc hB.out); replace hP := hid (chgN hc hP.out); replace hQ := hid (chgN hc hQ.out)
      replace hC := hC.trans hc
      have hs_4 := hc.size
      clear hc 
      go_wp2_with fail
      refine (setShift_any _ _ _ _ xs x _ hA.out (ltF (by omega)) (by omega) (by omega) hZ.out).mono ?_
      rintro e w_5 ⟨hg, hc⟩
      obtain ⟨X_5, c_5, rfl, hS⟩ := hg.out
      replace hS := hS.mono (G := Lt w_5.heap.size) (fun k hk _ => hk)
      replace hA := hid (chgN hc hA.out); replace hB := hid (chgN hc hB.out); replace hP := hid (chgN hc hP.out); replace hQ := hid (chgN hc hQ.out)
      replace hC := hC.trans hc
      have hs_5 := hc.size
      clear hc hg 
      replace hS := hid hS
      go_wp2_with fail
      refine (setRight_chg (xs := shiftL xs x) hS.out (right_shift xs x)).mono ?_
      rintro e w_6 ⟨rfl, hc⟩
      replace hA := hid (chgN hc hA.out); replace hB := hid (chgN hc hB.out); replace hP := hid (chgN hc hP.out); replace hQ := hid (chgN hc hQ.out)
      replace hC := hC.trans hc
      have hs_6 := hc.size
      clear hc hS
      go_wp2_with fail
      refine (setBelow_any _ _ _ _ xs x _ hA.out (ltF (by omega)) (by omega)).mono ?_
      rintro e w_7 ⟨hg, hc⟩
      obtain ⟨X_7, c_7, rfl, hS⟩ := hg.out
      replace hS := hS.mono (G := Lt w_7.heap.size) (fun k hk _ => hk)
      replace hA := hid (chgN hc hA.out); replace hB := hid (chgN hc hB.out); replace hP := hid (chgN hc hP.out); replace hQ := hid (chgN hc hQ.out)
      replace hC := hC.trans hc
      have hs_7 := hc.size
      clear hc hg 
      replace hS := hid hS
      go_wp2_with fail
      refine (setRight_chg (xs := belowL xs x) hS.out (right_below xs x)).mono ?_
      rintro e w_8 ⟨rfl, hc⟩
      replace hA := hid (chgN hc hA.out); replace hB := hid (chgN hc hB.out); replace hP := hid (chgN hc hP.out); replace hQ := hid (chgN hc hQ.out)
      replace hC := hC.trans hc
      have hs_8 := hc.size
      clear hc hS
      go_wp2_with fail
      refine (setNot_any _ _ _ _ ys 1000 _ hB.out (ltF (by omega))).mono ?_
      rintro e w_9 ⟨hg, hc⟩
      obtain ⟨X_9, c_9, rfl, hS⟩ := hg.out
      replace hS := hS.mono (G := Lt w_9.heap.size) (fun k hk _ => hk)
      replace hA := hid (chgN hc hA.out); replace hB := hid (chgN hc hB.out); replace hP := hid (chgN hc hP.out); replace hQ := hid (chgN hc hQ.out)
      replace hC := hC.trans hc
      have hs_9 := hc.size
      clear hc hg 
      replace hS := hid hS
      go_wp2_with fail
      refine (setRight_chg (xs := notL ys 1000) hS.out (right_not ys 1000)).mono ?_
      rintro e w_10 ⟨rfl, hc⟩
      replace hA := hid (chgN hc hA.out); replace hB := hid (chgN hc hB.out); replace hP := hid (chgN hc hP.out); replace hQ := hid (chgN hc hQ.out)
      replace hC := hC.trans hc
      have hs_10 := hc.size
      clear hc hS
      go_wp2_with fail
      refine (refRight_chg hA.out (xs := xs) HRA.out).mono ?_
      rintro e w_11 ⟨rfl, hc⟩
      replace hA := hid (chgN hc hA.out); replace hB := hid (chgN hc hB.out); replace hP := hid (chgN hc hP.out); replace hQ := hid (chgN hc hQ.out)
      replace hC := hC.trans hc
      have hs_11 := hc.size
      clear hc 
      go_wp2_with fail
      refine (aliveS _).mono ?_
      rintro e w_12 ⟨rfl, hc⟩
      replace hA := hid (chgN hc hA.out); replace hB := hid (chgN hc hB.out); replace hP := hid (chgN hc hP.out); replace hQ := hid (chgN hc hQ.out)
      replace hC := hC.trans hc
      have hs_12 := hc.size
      clear hc 
      have hz1 : (andL xs ys).length = 0 := by rw [(bad_and_or (a := xs) (b := ys) (by rw [HRA.out]; simp)).1]; rfl
      have hz2 : (orL xs ys).length = 0 := by rw [(bad_and_or (a := xs) (b := ys) (by rw [HRA.out]; simp)).2]; rfl
      go_wp2
      go_ret
      exact ⟨rfl, hC⟩
  have HRA := hid hra; clear hra
  by_cases hrb : rightB (-1) ys = true
  rotate_left
  · have hrf : rightB (-1) ys = false := by simpa using hrb
    have HRB := hid hrf; clear hrb hrf
    rcases hxx with hx | hx
    · go_enter Try.func7, Try.ntmps7
      go_wp2_with fail
      refine (fewS_yes A n c w hf).mono ?_
      rintro e w' ⟨rfl, rfl⟩
      go_wp2_with fail
      refine (fewS_yes B m d w hf2).mono ?_
      rintro e w' ⟨rfl, rfl⟩
      go_wp2_with fail
      refine (setAnd_any _ _ _ _ _ _ _ _ xs ys _ hA.out hB.out (ltF (by omega)) (ltF (by omega)) (by omega)).mono ?_
      rintro e w_1 ⟨hg, hc⟩
      obtain ⟨X_1, c_1, rfl, hP⟩ := hg.out
      replace hP := hP.mono (G := Lt w_1.heap.size) (fun k hk _ => hk)
      replace hA := hid (chgN hc hA.out); replace hB := hid (chgN hc hB.out)
      replace hC := hC.trans hc
      have hs_1 := hc.size
      clear hc hg 
      replace hP := hid hP
      go_wp2_with fail
      refine (setOr_any _ _ _ _ _ _ _ _ xs ys _ hA.out hB.out (ltF (by omega)) (ltF (by omega)) (by omega) (by omega)).mono ?_
      rintro e w_2 ⟨hg, hc⟩
      obtain ⟨X_2, c_2, rfl, hQ⟩ := hg.out
      replace hQ := hQ.mono (G := Lt w_2.heap.size) (fun k hk _ => hk)
      replace hA := hid (chgN hc hA.out); replace hB := hid (chgN hc hB.out); replace hP := hid (chgN hc hP.out)
      replace hC := hC.trans hc
      have hs_2 := hc.size
      clear hc hg 
      replace hQ := hid hQ
      go_wp2_with fail
      refine (setRight_chg (xs := andL xs ys) hP.out (right_and xs ys)).mono ?_
      rintro e w_3 ⟨rfl, hc⟩
      replace hA := hid (chgN hc hA.out); replace hB := hid (chgN hc hB.out); replace hP := hid (chgN hc hP.out); replace hQ := hid (chgN hc hQ.out)
      replace hC := hC.trans hc
      have hs_3 := hc.size
      clear hc 
      go_wp2_with fail
      refine (setRight_chg (xs := orL xs ys) hQ.out (right_or xs ys)).mono ?_
      rintro e w_4 ⟨rfl, hc⟩
      replace hA := hid (chgN hc hA.out); replace hB := hid (chgN hc hB.out); replace hP := hid (chgN hc hP.out); replace hQ := hid (chgN hc hQ.out)
      replace hC := hC.trans hc
      have hs_4 := hc.size
      clear hc 
      go_wp2_with fail
      refine (setShift_any _ _ _ _ xs x _ hA.out (ltF (by omega)) (by omega) (by omega) hZ.out).mono ?_
      rintro e w_5 ⟨hg, hc⟩
      obtain ⟨X_5, c_5, rfl, hS⟩ := hg.out
      replace hS := hS.mono (G := Lt w_5.heap.size) (fun k hk _ => hk)
      replace hA := hid (chgN hc hA.out); replace hB := hid (chgN hc hB.out); replace hP := hid (chgN hc hP.out); replace hQ := hid (chgN hc hQ.out)
      replace hC := hC.trans hc
      have hs_5 := hc.size
      clear hc hg 
      replace hS := hid hS
      go_wp2_with fail
      refine (setRight_chg (xs := shiftL xs x) hS.out (right_shift xs x)).mono ?_
      rintro e w_6 ⟨rfl, hc⟩
      replace hA := hid (chgN hc hA.out); replace hB := hid (chgN hc hB.out); replace hP := hid (chgN hc hP.out); replace hQ := hid (chgN hc hQ.out)
      replace hC := hC.trans hc
      have hs_6 := hc.size
      clear hc hS
      go_wp2_with fail
      refine (setBelow_any _ _ _ _ xs x _ hA.out (ltF (by omega)) (by omega)).mono ?_
      rintro e w_7 ⟨hg, hc⟩
      obtain ⟨X_7, c_7, rfl, hS⟩ := hg.out
      replace hS := hS.mono (G := Lt w_7.heap.size) (fun k hk _ => hk)
      replace hA := hid (chgN hc hA.out); replace hB := hid (chgN hc hB.out); replace hP := hid (chgN hc hP.out); replace hQ := hid (chgN hc hQ.out)
      replace hC := hC.trans hc
      have hs_7 := hc.size
      clear hc hg 
      replace hS := hid hS
      go_wp2_with fail
      refine (setRight_chg (xs := belowL xs x) hS.out (right_below xs x)).mono ?_
      rintro e w_8 ⟨rfl, hc⟩
      replace hA := hid (chgN hc hA.out); replace hB := hid (chgN hc hB.out); replace hP := hid (chgN hc hP.out); replace hQ := hid (chgN hc hQ.out)
      replace hC := hC.trans hc
      have hs_8 := hc.size
      clear hc hS
      go_wp2_with fail
      refine (setNot_any _ _ _ _ ys x _ hB.out (ltF (by omega))).mono ?_
      rintro e w_9 ⟨hg, hc⟩
      obtain ⟨X_9, c_9, rfl, hS⟩ := hg.out
      replace hS := hS.mono (G := Lt w_9.heap.size) (fun k hk _ => hk)
      replace hA := hid (chgN hc hA.out); replace hB := hid (chgN hc hB.out); replace hP := hid (chgN hc hP.out); replace hQ := hid (chgN hc hQ.out)
      replace hC := hC.trans hc
      have hs_9 := hc.size
      clear hc hg 
      replace hS := hid hS
      go_wp2_with fail
      refine (setRight_chg (xs := notL ys x) hS.out (right_not ys x)).mono ?_
      rintro e w_10 ⟨rfl, hc⟩
      replace hA := hid (chgN hc hA.out); replace hB := hid (chgN hc hB.out); replace hP := hid (chgN hc hP.out); replace hQ := hid (chgN hc hQ.out)
      replace hC := hC.trans hc
      have hs_10 := hc.size
      clear hc hS
      go_wp2_with fail
      refine (refRight_chg hA.out (xs := xs) HRA.out).mono ?_
      rintro e w_11 ⟨rfl, hc⟩
      replace hA := hid (chgN hc hA.out); replace hB := hid (chgN hc hB.out); replace hP := hid (chgN hc hP.out); replace hQ := hid (chgN hc hQ.out)
      replace hC := hC.trans hc
      have hs_11 := hc.size
      clear hc 
      go_wp2_with fail
      refine (refRight_chg hB.out (xs := ys) HRB.out).mono ?_
      rintro e w_12 ⟨rfl, hc⟩
      replace hA := hid (chgN hc hA.out); replace hB := hid (chgN hc hB.out); replace hP := hid (chgN hc hP.out); replace hQ := hid (chgN hc hQ.out)
      replace hC := hC.trans hc
      have hs_12 := hc.size
      clear hc 
      go_wp2_with fail
      refine (aliveS _).mono ?_
      rintro e w_13 ⟨rfl, hc⟩
      replace hA := hid (chgN hc hA.out); replace hB := hid (chgN hc hB.out); replace hP := hid (chgN hc hP.out); replace hQ := hid (chgN hc hQ.out)
      replace hC := hC.trans hc
      have hs_13 := hc.size
      clear hc 
      have hz1 : (andL xs ys).length = 0 := by rw [(bad_and_or (a := xs) (b := ys) (by rw [HRA.out, HRB.out]; simp)).1]; rfl
      have hz2 : (orL xs ys).length = 0 := by rw [(bad_and_or (a := xs) (b := ys) (by rw [HRA.out, HRB.out]; simp)).2]; rfl
      go_wp2
      go_ret
      exact ⟨rfl, hC⟩
    · go_enter Try.func7, Try.ntmps7
      go_wp2_with fail
      refine (fewS_yes A n c w hf).mono ?_
      rintro e w' ⟨rfl, rfl⟩
      go_wp2_with fail
      refine (fewS_yes B m d w hf2).mono ?_
      rintro e w' ⟨rfl, rfl⟩
      go_wp2_with fail
      refine (setAnd_any _ _ _ _ _ _ _ _ xs ys _ hA.out hB.out (ltF (by omega)) (ltF (by omega)) (by omega)).mono ?_
      rintro e w_1 ⟨hg, hc⟩
      obtain ⟨X_1, c_1, rfl, hP⟩ := hg.out
      replace hP := hP.mono (G := Lt w_1.heap.size) (fun k hk _ => hk)
      replace hA := hid (chgN hc hA.out); replace hB := hid (chgN hc hB.out)
      replace hC := hC.trans hc
      have hs_1 := hc.size
      clear hc hg 
      replace hP := hid hP
      go_wp2_with fail
      refine (setOr_any _ _ _ _ _ _ _ _ xs ys _ hA.out hB.out (ltF (by omega)) (ltF (by omega)) (by omega) (by omega)).mono ?_
      rintro e w_2 ⟨hg, hc⟩
      obtain ⟨X_2, c_2, rfl, hQ⟩ := hg.out
      replace hQ := hQ.mono (G := Lt w_2.heap.size) (fun k hk _ => hk)
      replace hA := hid (chgN hc hA.out); replace hB := hid (chgN hc hB.out); replace hP := hid (chgN hc hP.out)
      replace hC := hC.trans hc
      have hs_2 := hc.size
      clear hc hg 
      replace hQ := hid hQ
      go_wp2_with fail
      refine (setRight_chg (xs := andL xs ys) hP.out (right_and xs ys)).mono ?_
      rintro e w_3 ⟨rfl, hc⟩
      replace hA := hid (chgN hc hA.out); replace hB := hid (chgN hc hB.out); replace hP := hid (chgN hc hP.out); replace hQ := hid (chgN hc hQ.out)
      replace hC := hC.trans hc
      have hs_3 := hc.size
      clear hc 
      go_wp2_with fail
      refine (setRight_chg (xs := orL xs ys) hQ.out (right_or xs ys)).mono ?_
      rintro e w_4 ⟨rfl, hc⟩
      replace hA := hid (chgN hc hA.out); replace hB := hid (chgN hc hB.out); replace hP := hid (chgN hc hP.out); replace hQ := hid (chgN hc hQ.out)
      replace hC := hC.trans hc
      have hs_4 := hc.size
      clear hc 
      go_wp2_with fail
      refine (setShift_any _ _ _ _ xs x _ hA.out (ltF (by omega)) (by omega) (by omega) hZ.out).mono ?_
      rintro e w_5 ⟨hg, hc⟩
      obtain ⟨X_5, c_5, rfl, hS⟩ := hg.out
      replace hS := hS.mono (G := Lt w_5.heap.size) (fun k hk _ => hk)
      replace hA := hid (chgN hc hA.out); replace hB := hid (chgN hc hB.out); replace hP := hid (chgN hc hP.out); replace hQ := hid (chgN hc hQ.out)
      replace hC := hC.trans hc
      have hs_5 := hc.size
      clear hc hg 
      replace hS := hid hS
      go_wp2_with fail
      refine (setRight_chg (xs := shiftL xs x) hS.out (right_shift xs x)).mono ?_
      rintro e w_6 ⟨rfl, hc⟩
      replace hA := hid (chgN hc hA.out); replace hB := hid (chgN hc hB.out); replace hP := hid (chgN hc hP.out); replace hQ := hid (chgN hc hQ.out)
      replace hC := hC.trans hc
      have hs_6 := hc.size
      clear hc hS
      go_wp2_with fail
      refine (setBelow_any _ _ _ _ xs x _ hA.out (ltF (by omega)) (by omega)).mono ?_
      rintro e w_7 ⟨hg, hc⟩
      obtain ⟨X_7, c_7, rfl, hS⟩ := hg.out
      replace hS := hS.mono (G := Lt w_7.heap.size) (fun k hk _ => hk)
      replace hA := hid (chgN hc hA.out); replace hB := hid (chgN hc hB.out); replace hP := hid (chgN hc hP.out); replace hQ := hid (chgN hc hQ.out)
      replace hC := hC.trans hc
      have hs_7 := hc.size
      clear hc hg 
      replace hS := hid hS
      go_wp2_with fail
      refine (setRight_chg (xs := belowL xs x) hS.out (right_below xs x)).mono ?_
      rintro e w_8 ⟨rfl, hc⟩
      replace hA := hid (chgN hc hA.out); replace hB := hid (chgN hc hB.out); replace hP := hid (chgN hc hP.out); replace hQ := hid (chgN hc hQ.out)
      replace hC := hC.trans hc
      have hs_8 := hc.size
      clear hc hS
      go_wp2_with fail
      refine (setNot_any _ _ _ _ ys 1000 _ hB.out (ltF (by omega))).mono ?_
      rintro e w_9 ⟨hg, hc⟩
      obtain ⟨X_9, c_9, rfl, hS⟩ := hg.out
      replace hS := hS.mono (G := Lt w_9.heap.size) (fun k hk _ => hk)
      replace hA := hid (chgN hc hA.out); replace hB := hid (chgN hc hB.out); replace hP := hid (chgN hc hP.out); replace hQ := hid (chgN hc hQ.out)
      replace hC := hC.trans hc
      have hs_9 := hc.size
      clear hc hg 
      replace hS := hid hS
      go_wp2_with fail
      refine (setRight_chg (xs := notL ys 1000) hS.out (right_not ys 1000)).mono ?_
      rintro e w_10 ⟨rfl, hc⟩
      replace hA := hid (chgN hc hA.out); replace hB := hid (chgN hc hB.out); replace hP := hid (chgN hc hP.out); replace hQ := hid (chgN hc hQ.out)
      replace hC := hC.trans hc
      have hs_10 := hc.size
      clear hc hS
      go_wp2_with fail
      refine (refRight_chg hA.out (xs := xs) HRA.out).mono ?_
      rintro e w_11 ⟨rfl, hc⟩
      replace hA := hid (chgN hc hA.out); replace hB := hid (chgN hc hB.out); replace hP := hid (chgN hc hP.out); replace hQ := hid (chgN hc hQ.out)
      replace hC := hC.trans hc
      have hs_11 := hc.size
      clear hc 
      go_wp2_with fail
      refine (refRight_chg hB.out (xs := ys) HRB.out).mono ?_
      rintro e w_12 ⟨rfl, hc⟩
      replace hA := hid (chgN hc hA.out); replace hB := hid (chgN hc hB.out); replace hP := hid (chgN hc hP.out); replace hQ := hid (chgN hc hQ.out)
      replace hC := hC.trans hc
      have hs_12 := hc.size
      clear hc 
      go_wp2_with fail
      refine (aliveS _).mono ?_
      rintro e w_13 ⟨rfl, hc⟩
      replace hA := hid (chgN hc hA.out); replace hB := hid (chgN hc hB.out); replace hP := hid (chgN hc hP.out); replace hQ := hid (chgN hc hQ.out)
      replace hC := hC.trans hc
      have hs_13 := hc.size
      clear hc 
      have hz1 : (andL xs ys).length = 0 := by rw [(bad_and_or (a := xs) (b := ys) (by rw [HRA.out, HRB.out]; simp)).1]; rfl
      have hz2 : (orL xs ys).length = 0 := by rw [(bad_and_or (a := xs) (b := ys) (by rw [HRA.out, HRB.out]; simp)).2]; rfl
      go_wp2
      go_ret
      exact ⟨rfl, hC⟩
  have HRB := hid hrb; clear hrb
  cases hia : decide (x ∈ xs) <;> cases hib : decide (x ∈ ys)
  · have HA1 := hid hia; have HB1 := hid hib; clear hia hib
    rcases hxx with hx | hx
    · go_enter Try.func7, Try.ntmps7
      go_wp2_with fail
      refine (fewS_yes A n c w hf).mono ?_
      rintro e w' ⟨rfl, rfl⟩
      go_wp2_with fail
      refine (fewS_yes B m d w hf2).mono ?_
      rintro e w' ⟨rfl, rfl⟩
      go_wp2_with fail
      refine (setAnd_any _ _ _ _ _ _ _ _ xs ys _ hA.out hB.out (ltF (by omega)) (ltF (by omega)) (by omega)).mono ?_
      rintro e w_1 ⟨hg, hc⟩
      obtain ⟨X_1, c_1, rfl, hP⟩ := hg.out
      replace hP := hP.mono (G := Lt w_1.heap.size) (fun k hk _ => hk)
      replace hA := hid (chgN hc hA.out); replace hB := hid (chgN hc hB.out)
      replace hC := hC.trans hc
      have hs_1 := hc.size
      clear hc hg 
      replace hP := hid hP
      go_wp2_with fail
      refine (setOr_any _ _ _ _ _ _ _ _ xs ys _ hA.out hB.out (ltF (by omega)) (ltF (by omega)) (by omega) (by omega)).mono ?_
      rintro e w_2 ⟨hg, hc⟩
      obtain ⟨X_2, c_2, rfl, hQ⟩ := hg.out
      replace hQ := hQ.mono (G := Lt w_2.heap.size) (fun k hk _ => hk)
      replace hA := hid (chgN hc hA.out); replace hB := hid (chgN hc hB.out); replace hP := hid (chgN hc hP.out)
      replace hC := hC.trans hc
      have hs_2 := hc.size
      clear hc hg 
      replace hQ := hid hQ
      go_wp2_with fail
      refine (setRight_chg (xs := andL xs ys) hP.out (right_and xs ys)).mono ?_
      rintro e w_3 ⟨rfl, hc⟩
      replace hA := hid (chgN hc hA.out); replace hB := hid (chgN hc hB.out); replace hP := hid (chgN hc hP.out); replace hQ := hid (chgN hc hQ.out)
      replace hC := hC.trans hc
      have hs_3 := hc.size
      clear hc 
      go_wp2_with fail
      refine (setRight_chg (xs := orL xs ys) hQ.out (right_or xs ys)).mono ?_
      rintro e w_4 ⟨rfl, hc⟩
      replace hA := hid (chgN hc hA.out); replace hB := hid (chgN hc hB.out); replace hP := hid (chgN hc hP.out); replace hQ := hid (chgN hc hQ.out)
      replace hC := hC.trans hc
      have hs_4 := hc.size
      clear hc 
      go_wp2_with fail
      refine (setShift_any _ _ _ _ xs x _ hA.out (ltF (by omega)) (by omega) (by omega) hZ.out).mono ?_
      rintro e w_5 ⟨hg, hc⟩
      obtain ⟨X_5, c_5, rfl, hS⟩ := hg.out
      replace hS := hS.mono (G := Lt w_5.heap.size) (fun k hk _ => hk)
      replace hA := hid (chgN hc hA.out); replace hB := hid (chgN hc hB.out); replace hP := hid (chgN hc hP.out); replace hQ := hid (chgN hc hQ.out)
      replace hC := hC.trans hc
      have hs_5 := hc.size
      clear hc hg 
      replace hS := hid hS
      go_wp2_with fail
      refine (setRight_chg (xs := shiftL xs x) hS.out (right_shift xs x)).mono ?_
      rintro e w_6 ⟨rfl, hc⟩
      replace hA := hid (chgN hc hA.out); replace hB := hid (chgN hc hB.out); replace hP := hid (chgN hc hP.out); replace hQ := hid (chgN hc hQ.out)
      replace hC := hC.trans hc
      have hs_6 := hc.size
      clear hc hS
      go_wp2_with fail
      refine (setBelow_any _ _ _ _ xs x _ hA.out (ltF (by omega)) (by omega)).mono ?_
      rintro e w_7 ⟨hg, hc⟩
      obtain ⟨X_7, c_7, rfl, hS⟩ := hg.out
      replace hS := hS.mono (G := Lt w_7.heap.size) (fun k hk _ => hk)
      replace hA := hid (chgN hc hA.out); replace hB := hid (chgN hc hB.out); replace hP := hid (chgN hc hP.out); replace hQ := hid (chgN hc hQ.out)
      replace hC := hC.trans hc
      have hs_7 := hc.size
      clear hc hg 
      replace hS := hid hS
      go_wp2_with fail
      refine (setRight_chg (xs := belowL xs x) hS.out (right_below xs x)).mono ?_
      rintro e w_8 ⟨rfl, hc⟩
      replace hA := hid (chgN hc hA.out); replace hB := hid (chgN hc hB.out); replace hP := hid (chgN hc hP.out); replace hQ := hid (chgN hc hQ.out)
      replace hC := hC.trans hc
      have hs_8 := hc.size
      clear hc hS
      go_wp2_with fail
      refine (setNot_any _ _ _ _ ys x _ hB.out (ltF (by omega))).mono ?_
      rintro e w_9 ⟨hg, hc⟩
      obtain ⟨X_9, c_9, rfl, hS⟩ := hg.out
      replace hS := hS.mono (G := Lt w_9.heap.size) (fun k hk _ => hk)
      replace hA := hid (chgN hc hA.out); replace hB := hid (chgN hc hB.out); replace hP := hid (chgN hc hP.out); replace hQ := hid (chgN hc hQ.out)
      replace hC := hC.trans hc
      have hs_9 := hc.size
      clear hc hg 
      replace hS := hid hS
      go_wp2_with fail
      refine (setRight_chg (xs := notL ys x) hS.out (right_not ys x)).mono ?_
      rintro e w_10 ⟨rfl, hc⟩
      replace hA := hid (chgN hc hA.out); replace hB := hid (chgN hc hB.out); replace hP := hid (chgN hc hP.out); replace hQ := hid (chgN hc hQ.out)
      replace hC := hC.trans hc
      have hs_10 := hc.size
      clear hc hS
      go_wp2_with fail
      refine (refRight_chg hA.out (xs := xs) HRA.out).mono ?_
      rintro e w_11 ⟨rfl, hc⟩
      replace hA := hid (chgN hc hA.out); replace hB := hid (chgN hc hB.out); replace hP := hid (chgN hc hP.out); replace hQ := hid (chgN hc hQ.out)
      replace hC := hC.trans hc
      have hs_11 := hc.size
      clear hc 
      go_wp2_with fail
      refine (refRight_chg hB.out (xs := ys) HRB.out).mono ?_
      rintro e w_12 ⟨rfl, hc⟩
      replace hA := hid (chgN hc hA.out); replace hB := hid (chgN hc hB.out); replace hP := hid (chgN hc hP.out); replace hQ := hid (chgN hc hQ.out)
      replace hC := hC.trans hc
      have hs_12 := hc.size
      clear hc 
      go_wp2_with fail
      refine (aliveS _).mono ?_
      rintro e w_13 ⟨rfl, hc⟩
      replace hA := hid (chgN hc hA.out); replace hB := hid (chgN hc hB.out); replace hP := hid (chgN hc hP.out); replace hQ := hid (chgN hc hQ.out)
      replace hC := hC.trans hc
      have hs_13 := hc.size
      clear hc 
      go_wp2_with fail
      refine (refHas_chg (xs := andL xs ys) (x := x) hP.out (r := false) (by have := mem_and HRA.out HRB.out (z := x); have h1 := HA1.out; have h2 := HB1.out; simp_all)).mono ?_
      rintro e w_14 ⟨rfl, hc⟩
      replace hA := hid (chgN hc hA.out); replace hB := hid (chgN hc hB.out); replace hP := hid (chgN hc hP.out); replace hQ := hid (chgN hc hQ.out)
      replace hC := hC.trans hc
      have hs_14 := hc.size
      clear hc 
      go_wp2_with fail
      refine (refHas_chg (xs := xs) (x := x) hA.out HA1.out).mono ?_
      rintro e w_15 ⟨rfl, hc⟩
      replace hA := hid (chgN hc hA.out); replace hB := hid (chgN hc hB.out); replace hP := hid (chgN hc hP.out); replace hQ := hid (chgN hc hQ.out)
      replace hC := hC.trans hc
      have hs_15 := hc.size
      clear hc 
      go_wp2_with fail
      refine (refHas_chg (xs := orL xs ys) (x := x) hQ.out (r := false) (by have := mem_or HRA.out HRB.out (z := x); have h1 := HA1.out; have h2 := HB1.out; simp_all)).mono ?_
      rintro e w_16 ⟨rfl, hc⟩
      replace hA := hid (chgN hc hA.out); replace hB := hid (chgN hc hB.out); replace hP := hid (chgN hc hP.out); replace hQ := hid (chgN hc hQ.out)
      replace hC := hC.trans hc
      have hs_16 := hc.size
      clear hc 
      go_wp2_with fail
      refine (refHas_chg (xs := xs) (x := x) hA.out HA1.out).mono ?_
      rintro e w_17 ⟨rfl, hc⟩
      replace hA := hid (chgN hc hA.out); replace hB := hid (chgN hc hB.out); replace hP := hid (chgN hc hP.out); replace hQ := hid (chgN hc hQ.out)
      replace hC := hC.trans hc
      have hs_17 := hc.size
      clear hc 
      go_wp2_with fail
      refine (refHas_chg (xs := ys) (x := x) hB.out HB1.out).mono ?_
      rintro e w_18 ⟨rfl, hc⟩
      replace hA := hid (chgN hc hA.out); replace hB := hid (chgN hc hB.out); replace hP := hid (chgN hc hP.out); replace hQ := hid (chgN hc hQ.out)
      replace hC := hC.trans hc
      have hs_18 := hc.size
      clear hc 
      have hll := len_and_or HRA.out HRB.out
      rw [hIl.out, hJl.out] at hll
      have hll2 : (((andL xs ys).length : Int) + ((orL xs ys).length : Int) == (n : Int) + m) = true := beq_iff_eq.2 (by omega)
      clear hll
      go_wp2
      go_ret
      exact ⟨rfl, hC⟩
    · go_enter Try.func7, Try.ntmps7
      go_wp2_with fail
      refine (fewS_yes A n c w hf).mono ?_
      rintro e w' ⟨rfl, rfl⟩
      go_wp2_with fail
      refine (fewS_yes B m d w hf2).mono ?_
      rintro e w' ⟨rfl, rfl⟩
      go_wp2_with fail
      refine (setAnd_any _ _ _ _ _ _ _ _ xs ys _ hA.out hB.out (ltF (by omega)) (ltF (by omega)) (by omega)).mono ?_
      rintro e w_1 ⟨hg, hc⟩
      obtain ⟨X_1, c_1, rfl, hP⟩ := hg.out
      replace hP := hP.mono (G := Lt w_1.heap.size) (fun k hk _ => hk)
      replace hA := hid (chgN hc hA.out); replace hB := hid (chgN hc hB.out)
      replace hC := hC.trans hc
      have hs_1 := hc.size
      clear hc hg 
      replace hP := hid hP
      go_wp2_with fail
      refine (setOr_any _ _ _ _ _ _ _ _ xs ys _ hA.out hB.out (ltF (by omega)) (ltF (by omega)) (by omega) (by omega)).mono ?_
      rintro e w_2 ⟨hg, hc⟩
      obtain ⟨X_2, c_2, rfl, hQ⟩ := hg.out
      replace hQ := hQ.mono (G := Lt w_2.heap.size) (fun k hk _ => hk)
      replace hA := hid (chgN hc hA.out); replace hB := hid (chgN hc hB.out); replace hP := hid (chgN hc hP.out)
      replace hC := hC.trans hc
      have hs_2 := hc.size
      clear hc hg 
      replace hQ := hid hQ
      go_wp2_with fail
      refine (setRight_chg (xs := andL xs ys) hP.out (right_and xs ys)).mono ?_
      rintro e w_3 ⟨rfl, hc⟩
      replace hA := hid (chgN hc hA.out); replace hB := hid (chgN hc hB.out); replace hP := hid (chgN hc hP.out); replace hQ := hid (chgN hc hQ.out)
      replace hC := hC.trans hc
      have hs_3 := hc.size
      clear hc 
      go_wp2_with fail
      refine (setRight_chg (xs := orL xs ys) hQ.out (right_or xs ys)).mono ?_
      rintro e w_4 ⟨rfl, hc⟩
      replace hA := hid (chgN hc hA.out); replace hB := hid (chgN hc hB.out); replace hP := hid (chgN hc hP.out); replace hQ := hid (chgN hc hQ.out)
      replace hC := hC.trans hc
      have hs_4 := hc.size
      clear hc 
      go_wp2_with fail
      refine (setShift_any _ _ _ _ xs x _ hA.out (ltF (by omega)) (by omega) (by omega) hZ.out).mono ?_
      rintro e w_5 ⟨hg, hc⟩
      obtain ⟨X_5, c_5, rfl, hS⟩ := hg.out
      replace hS := hS.mono (G := Lt w_5.heap.size) (fun k hk _ => hk)
      replace hA := hid (chgN hc hA.out); replace hB := hid (chgN hc hB.out); replace hP := hid (chgN hc hP.out); replace hQ := hid (chgN hc hQ.out)
      replace hC := hC.trans hc
      have hs_5 := hc.size
      clear hc hg 
      replace hS := hid hS
      go_wp2_with fail
      refine (setRight_chg (xs := shiftL xs x) hS.out (right_shift xs x)).mono ?_
      rintro e w_6 ⟨rfl, hc⟩
      replace hA := hid (chgN hc hA.out); replace hB := hid (chgN hc hB.out); replace hP := hid (chgN hc hP.out); replace hQ := hid (chgN hc hQ.out)
      replace hC := hC.trans hc
      have hs_6 := hc.size
      clear hc hS
      go_wp2_with fail
      refine (setBelow_any _ _ _ _ xs x _ hA.out (ltF (by omega)) (by omega)).mono ?_
      rintro e w_7 ⟨hg, hc⟩
      obtain ⟨X_7, c_7, rfl, hS⟩ := hg.out
      replace hS := hS.mono (G := Lt w_7.heap.size) (fun k hk _ => hk)
      replace hA := hid (chgN hc hA.out); replace hB := hid (chgN hc hB.out); replace hP := hid (chgN hc hP.out); replace hQ := hid (chgN hc hQ.out)
      replace hC := hC.trans hc
      have hs_7 := hc.size
      clear hc hg 
      replace hS := hid hS
      go_wp2_with fail
      refine (setRight_chg (xs := belowL xs x) hS.out (right_below xs x)).mono ?_
      rintro e w_8 ⟨rfl, hc⟩
      replace hA := hid (chgN hc hA.out); replace hB := hid (chgN hc hB.out); replace hP := hid (chgN hc hP.out); replace hQ := hid (chgN hc hQ.out)
      replace hC := hC.trans hc
      have hs_8 := hc.size
      clear hc hS
      go_wp2_with fail
      refine (setNot_any _ _ _ _ ys 1000 _ hB.out (ltF (by omega))).mono ?_
      rintro e w_9 ⟨hg, hc⟩
      obtain ⟨X_9, c_9, rfl, hS⟩ := hg.out
      replace hS := hS.mono (G := Lt w_9.heap.size) (fun k hk _ => hk)
      replace hA := hid (chgN hc hA.out); replace hB := hid (chgN hc hB.out); replace hP := hid (chgN hc hP.out); replace hQ := hid (chgN hc hQ.out)
      replace hC := hC.trans hc
      have hs_9 := hc.size
      clear hc hg 
      replace hS := hid hS
      go_wp2_with fail
      refine (setRight_chg (xs := notL ys 1000) hS.out (right_not ys 1000)).mono ?_
      rintro e w_10 ⟨rfl, hc⟩
      replace hA := hid (chgN hc hA.out); replace hB := hid (chgN hc hB.out); replace hP := hid (chgN hc hP.out); replace hQ := hid (chgN hc hQ.out)
      replace hC := hC.trans hc
      have hs_10 := hc.size
      clear hc hS
      go_wp2_with fail
      refine (refRight_chg hA.out (xs := xs) HRA.out).mono ?_
      rintro e w_11 ⟨rfl, hc⟩
      replace hA := hid (chgN hc hA.out); replace hB := hid (chgN hc hB.out); replace hP := hid (chgN hc hP.out); replace hQ := hid (chgN hc hQ.out)
      replace hC := hC.trans hc
      have hs_11 := hc.size
      clear hc 
      go_wp2_with fail
      refine (refRight_chg hB.out (xs := ys) HRB.out).mono ?_
      rintro e w_12 ⟨rfl, hc⟩
      replace hA := hid (chgN hc hA.out); replace hB := hid (chgN hc hB.out); replace hP := hid (chgN hc hP.out); replace hQ := hid (chgN hc hQ.out)
      replace hC := hC.trans hc
      have hs_12 := hc.size
      clear hc 
      go_wp2_with fail
      refine (aliveS _).mono ?_
      rintro e w_13 ⟨rfl, hc⟩
      replace hA := hid (chgN hc hA.out); replace hB := hid (chgN hc hB.out); replace hP := hid (chgN hc hP.out); replace hQ := hid (chgN hc hQ.out)
      replace hC := hC.trans hc
      have hs_13 := hc.size
      clear hc 
      go_wp2_with fail
      refine (refHas_chg (xs := andL xs ys) (x := x) hP.out (r := false) (by have := mem_and HRA.out HRB.out (z := x); have h1 := HA1.out; have h2 := HB1.out; simp_all)).mono ?_
      rintro e w_14 ⟨rfl, hc⟩
      replace hA := hid (chgN hc hA.out); replace hB := hid (chgN hc hB.out); replace hP := hid (chgN hc hP.out); replace hQ := hid (chgN hc hQ.out)
      replace hC := hC.trans hc
      have hs_14 := hc.size
      clear hc 
      go_wp2_with fail
      refine (refHas_chg (xs := xs) (x := x) hA.out HA1.out).mono ?_
      rintro e w_15 ⟨rfl, hc⟩
      replace hA := hid (chgN hc hA.out); replace hB := hid (chgN hc hB.out); replace hP := hid (chgN hc hP.out); replace hQ := hid (chgN hc hQ.out)
      replace hC := hC.trans hc
      have hs_15 := hc.size
      clear hc 
      go_wp2_with fail
      refine (refHas_chg (xs := orL xs ys) (x := x) hQ.out (r := false) (by have := mem_or HRA.out HRB.out (z := x); have h1 := HA1.out; have h2 := HB1.out; simp_all)).mono ?_
      rintro e w_16 ⟨rfl, hc⟩
      replace hA := hid (chgN hc hA.out); replace hB := hid (chgN hc hB.out); replace hP := hid (chgN hc hP.out); replace hQ := hid (chgN hc hQ.out)
      replace hC := hC.trans hc
      have hs_16 := hc.size
      clear hc 
      go_wp2_with fail
      refine (refHas_chg (xs := xs) (x := x) hA.out HA1.out).mono ?_
      rintro e w_17 ⟨rfl, hc⟩
      replace hA := hid (chgN hc hA.out); replace hB := hid (chgN hc hB.out); replace hP := hid (chgN hc hP.out); replace hQ := hid (chgN hc hQ.out)
      replace hC := hC.trans hc
      have hs_17 := hc.size
      clear hc 
      go_wp2_with fail
      refine (refHas_chg (xs := ys) (x := x) hB.out HB1.out).mono ?_
      rintro e w_18 ⟨rfl, hc⟩
      replace hA := hid (chgN hc hA.out); replace hB := hid (chgN hc hB.out); replace hP := hid (chgN hc hP.out); replace hQ := hid (chgN hc hQ.out)
      replace hC := hC.trans hc
      have hs_18 := hc.size
      clear hc 
      have hll := len_and_or HRA.out HRB.out
      rw [hIl.out, hJl.out] at hll
      have hll2 : (((andL xs ys).length : Int) + ((orL xs ys).length : Int) == (n : Int) + m) = true := beq_iff_eq.2 (by omega)
      clear hll
      go_wp2
      go_ret
      exact ⟨rfl, hC⟩
  · have HA1 := hid hia; have HB1 := hid hib; clear hia hib
    rcases hxx with hx | hx
    · go_enter Try.func7, Try.ntmps7
      go_wp2_with fail
      refine (fewS_yes A n c w hf).mono ?_
      rintro e w' ⟨rfl, rfl⟩
      go_wp2_with fail
      refine (fewS_yes B m d w hf2).mono ?_
      rintro e w' ⟨rfl, rfl⟩
      go_wp2_with fail
      refine (setAnd_any _ _ _ _ _ _ _ _ xs ys _ hA.out hB.out (ltF (by omega)) (ltF (by omega)) (by omega)).mono ?_
      rintro e w_1 ⟨hg, hc⟩
      obtain ⟨X_1, c_1, rfl, hP⟩ := hg.out
      replace hP := hP.mono (G := Lt w_1.heap.size) (fun k hk _ => hk)
      replace hA := hid (chgN hc hA.out); replace hB := hid (chgN hc hB.out)
      replace hC := hC.trans hc
      have hs_1 := hc.size
      clear hc hg 
      replace hP := hid hP
      go_wp2_with fail
      refine (setOr_any _ _ _ _ _ _ _ _ xs ys _ hA.out hB.out (ltF (by omega)) (ltF (by omega)) (by omega) (by omega)).mono ?_
      rintro e w_2 ⟨hg, hc⟩
      obtain ⟨X_2, c_2, rfl, hQ⟩ := hg.out
      replace hQ := hQ.mono (G := Lt w_2.heap.size) (fun k hk _ => hk)
      replace hA := hid (chgN hc hA.out); replace hB := hid (chgN hc hB.out); replace hP := hid (chgN hc hP.out)
      replace hC := hC.trans hc
      have hs_2 := hc.size
      clear hc hg 
      replace hQ := hid hQ
      go_wp2_with fail
      refine (setRight_chg (xs := andL xs ys) hP.out (right_and xs ys)).mono ?_
      rintro e w_3 ⟨rfl, hc⟩
      replace hA := hid (chgN hc hA.out); replace hB := hid (chgN hc hB.out); replace hP := hid (chgN hc hP.out); replace hQ := hid (chgN hc hQ.out)
      replace hC := hC.trans hc
      have hs_3 := hc.size
      clear hc 
      go_wp2_with fail
      refine (setRight_chg (xs := orL xs ys) hQ.out (right_or xs ys)).mono ?_
      rintro e w_4 ⟨rfl, hc⟩
      replace hA := hid (chgN hc hA.out); replace hB := hid (chgN hc hB.out); replace hP := hid (chgN hc hP.out); replace hQ := hid (chgN hc hQ.out)
      replace hC := hC.trans hc
      have hs_4 := hc.size
      clear hc 
      go_wp2_with fail
      refine (setShift_any _ _ _ _ xs x _ hA.out (ltF (by omega)) (by omega) (by omega) hZ.out).mono ?_
      rintro e w_5 ⟨hg, hc⟩
      obtain ⟨X_5, c_5, rfl, hS⟩ := hg.out
      replace hS := hS.mono (G := Lt w_5.heap.size) (fun k hk _ => hk)
      replace hA := hid (chgN hc hA.out); replace hB := hid (chgN hc hB.out); replace hP := hid (chgN hc hP.out); replace hQ := hid (chgN hc hQ.out)
      replace hC := hC.trans hc
      have hs_5 := hc.size
      clear hc hg 
      replace hS := hid hS
      go_wp2_with fail
      refine (setRight_chg (xs := shiftL xs x) hS.out (right_shift xs x)).mono ?_
      rintro e w_6 ⟨rfl, hc⟩
      replace hA := hid (chgN hc hA.out); replace hB := hid (chgN hc hB.out); replace hP := hid (chgN hc hP.out); replace hQ := hid (chgN hc hQ.out)
      replace hC := hC.trans hc
      have hs_6 := hc.size
      clear hc hS
      go_wp2_with fail
      refine (setBelow_any _ _ _ _ xs x _ hA.out (ltF (by omega)) (by omega)).mono ?_
      rintro e w_7 ⟨hg, hc⟩
      obtain ⟨X_7, c_7, rfl, hS⟩ := hg.out
      replace hS := hS.mono (G := Lt w_7.heap.size) (fun k hk _ => hk)
      replace hA := hid (chgN hc hA.out); replace hB := hid (chgN hc hB.out); replace hP := hid (chgN hc hP.out); replace hQ := hid (chgN hc hQ.out)
      replace hC := hC.trans hc
      have hs_7 := hc.size
      clear hc hg 
      replace hS := hid hS
      go_wp2_with fail
      refine (setRight_chg (xs := belowL xs x) hS.out (right_below xs x)).mono ?_
      rintro e w_8 ⟨rfl, hc⟩
      replace hA := hid (chgN hc hA.out); replace hB := hid (chgN hc hB.out); replace hP := hid (chgN hc hP.out); replace hQ := hid (chgN hc hQ.out)
      replace hC := hC.trans hc
      have hs_8 := hc.size
      clear hc hS
      go_wp2_with fail
      refine (setNot_any _ _ _ _ ys x _ hB.out (ltF (by omega))).mono ?_
      rintro e w_9 ⟨hg, hc⟩
      obtain ⟨X_9, c_9, rfl, hS⟩ := hg.out
      replace hS := hS.mono (G := Lt w_9.heap.size) (fun k hk _ => hk)
      replace hA := hid (chgN hc hA.out); replace hB := hid (chgN hc hB.out); replace hP := hid (chgN hc hP.out); replace hQ := hid (chgN hc hQ.out)
      replace hC := hC.trans hc
      have hs_9 := hc.size
      clear hc hg 
      replace hS := hid hS
      go_wp2_with fail
      refine (setRight_chg (xs := notL ys x) hS.out (right_not ys x)).mono ?_
      rintro e w_10 ⟨rfl, hc⟩
      replace hA := hid (chgN hc hA.out); replace hB := hid (chgN hc hB.out); replace hP := hid (chgN hc hP.out); replace hQ := hid (chgN hc hQ.out)
      replace hC := hC.trans hc
      have hs_10 := hc.size
      clear hc hS
      go_wp2_with fail
      refine (refRight_chg hA.out (xs := xs) HRA.out).mono ?_
      rintro e w_11 ⟨rfl, hc⟩
      replace hA := hid (chgN hc hA.out); replace hB := hid (chgN hc hB.out); replace hP := hid (chgN hc hP.out); replace hQ := hid (chgN hc hQ.out)
      replace hC := hC.trans hc
      have hs_11 := hc.size
      clear hc 
      go_wp2_with fail
      refine (refRight_chg hB.out (xs := ys) HRB.out).mono ?_
      rintro e w_12 ⟨rfl, hc⟩
      replace hA := hid (chgN hc hA.out); replace hB := hid (chgN hc hB.out); replace hP := hid (chgN hc hP.out); replace hQ := hid (chgN hc hQ.out)
      replace hC := hC.trans hc
      have hs_12 := hc.size
      clear hc 
      go_wp2_with fail
      refine (aliveS _).mono ?_
      rintro e w_13 ⟨rfl, hc⟩
      replace hA := hid (chgN hc hA.out); replace hB := hid (chgN hc hB.out); replace hP := hid (chgN hc hP.out); replace hQ := hid (chgN hc hQ.out)
      replace hC := hC.trans hc
      have hs_13 := hc.size
      clear hc 
      go_wp2_with fail
      refine (refHas_chg (xs := andL xs ys) (x := x) hP.out (r := false) (by have := mem_and HRA.out HRB.out (z := x); have h1 := HA1.out; have h2 := HB1.out; simp_all)).mono ?_
      rintro e w_14 ⟨rfl, hc⟩
      replace hA := hid (chgN hc hA.out); replace hB := hid (chgN hc hB.out); replace hP := hid (chgN hc hP.out); replace hQ := hid (chgN hc hQ.out)
      replace hC := hC.trans hc
      have hs_14 := hc.size
      clear hc 
      go_wp2_with fail
      refine (refHas_chg (xs := xs) (x := x) hA.out HA1.out).mono ?_
      rintro e w_15 ⟨rfl, hc⟩
      replace hA := hid (chgN hc hA.out); replace hB := hid (chgN hc hB.out); replace hP := hid (chgN hc hP.out); replace hQ := hid (chgN hc hQ.out)
      replace hC := hC.trans hc
      have hs_15 := hc.size
      clear hc 
      go_wp2_with fail
      refine (refHas_chg (xs := orL xs ys) (x := x) hQ.out (r := true) (by have := mem_or HRA.out HRB.out (z := x); have h1 := HA1.out; have h2 := HB1.out; simp_all)).mono ?_
      rintro e w_16 ⟨rfl, hc⟩
      replace hA := hid (chgN hc hA.out); replace hB := hid (chgN hc hB.out); replace hP := hid (chgN hc hP.out); replace hQ := hid (chgN hc hQ.out)
      replace hC := hC.trans hc
      have hs_16 := hc.size
      clear hc 
      go_wp2_with fail
      refine (refHas_chg (xs := xs) (x := x) hA.out HA1.out).mono ?_
      rintro e w_17 ⟨rfl, hc⟩
      replace hA := hid (chgN hc hA.out); replace hB := hid (chgN hc hB.out); replace hP := hid (chgN hc hP.out); replace hQ := hid (chgN hc hQ.out)
      replace hC := hC.trans hc
      have hs_17 := hc.size
      clear hc 
      go_wp2_with fail
      refine (refHas_chg (xs := ys) (x := x) hB.out HB1.out).mono ?_
      rintro e w_18 ⟨rfl, hc⟩
      replace hA := hid (chgN hc hA.out); replace hB := hid (chgN hc hB.out); replace hP := hid (chgN hc hP.out); replace hQ := hid (chgN hc hQ.out)
      replace hC := hC.trans hc
      have hs_18 := hc.size
      clear hc 
      have hll := len_and_or HRA.out HRB.out
      rw [hIl.out, hJl.out] at hll
      have hll2 : (((andL xs ys).length : Int) + ((orL xs ys).length : Int) == (n : Int) + m) = true := beq_iff_eq.2 (by omega)
      clear hll
      go_wp2
      go_ret
      exact ⟨rfl, hC⟩
    · go_enter Try.func7, Try.ntmps7
      go_wp2_with fail
      refine (fewS_yes A n c w hf).mono ?_
      rintro e w' ⟨rfl, rfl⟩
      go_wp2_with fail
      refine (fewS_yes B m d w hf2).mono ?_
      rintro e w' ⟨rfl, rfl⟩
      go_wp2_with fail
      refine (setAnd_any _ _ _ _ _ _ _ _ xs ys _ hA.out hB.out (ltF (by omega)) (ltF (by omega)) (by omega)).mono ?_
      rintro e w_1 ⟨hg, hc⟩
      obtain ⟨X_1, c_1, rfl, hP⟩ := hg.out
      replace hP := hP.mono (G := Lt w_1.heap.size) (fun k hk _ => hk)
      replace hA := hid (chgN hc hA.out); replace hB := hid (chgN hc hB.out)
      replace hC := hC.trans hc
      have hs_1 := hc.size
      clear hc hg 
      replace hP := hid hP
      go_wp2_with fail
      refine (setOr_any _ _ _ _ _ _ _ _ xs ys _ hA.out hB.out (ltF (by omega)) (ltF (by omega)) (by omega) (by omega)).mono ?_
      rintro e w_2 ⟨hg, hc⟩
      obtain ⟨X_2, c_2, rfl, hQ⟩ := hg.out
      replace hQ := hQ.mono (G := Lt w_2.heap.size) (fun k hk _ => hk)
      replace hA := hid (chgN hc hA.out); replace hB := hid (chgN hc hB.out); replace hP := hid (chgN hc hP.out)
      replace hC := hC.trans hc
      have hs_2 := hc.size
      clear hc hg 
      replace hQ := hid hQ
      go_wp2_with fail
      refine (setRight_chg (xs := andL xs ys) hP.out (right_and xs ys)).mono ?_
      rintro e w_3 ⟨rfl, hc⟩
      replace hA := hid (chgN hc hA.out); replace hB := hid (chgN hc hB.out); replace hP := hid (chgN hc hP.out); replace hQ := hid (chgN hc hQ.out)
      replace hC := hC.trans hc
      have hs_3 := hc.size
      clear hc 
      go_wp2_with fail
      refine (setRight_chg (xs := orL xs ys) hQ.out (right_or xs ys)).mono ?_
      rintro e w_4 ⟨rfl, hc⟩
      replace hA := hid (chgN hc hA.out); replace hB := hid (chgN hc hB.out); replace hP := hid (chgN hc hP.out); replace hQ := hid (chgN hc hQ.out)
      replace hC := hC.trans hc
      have hs_4 := hc.size
      clear hc 
      go_wp2_with fail
      refine (setShift_any _ _ _ _ xs x _ hA.out (ltF (by omega)) (by omega) (by omega) hZ.out).mono ?_
      rintro e w_5 ⟨hg, hc⟩
      obtain ⟨X_5, c_5, rfl, hS⟩ := hg.out
      replace hS := hS.mono (G := Lt w_5.heap.size) (fun k hk _ => hk)
      replace hA := hid (chgN hc hA.out); replace hB := hid (chgN hc hB.out); replace hP := hid (chgN hc hP.out); replace hQ := hid (chgN hc hQ.out)
      replace hC := hC.trans hc
      have hs_5 := hc.size
      clear hc hg 
      replace hS := hid hS
      go_wp2_with fail
      refine (setRight_chg (xs := shiftL xs x) hS.out (right_shift xs x)).mono ?_
      rintro e w_6 ⟨rfl, hc⟩
      replace hA := hid (chgN hc hA.out); replace hB := hid (chgN hc hB.out); replace hP := hid (chgN hc hP.out); replace hQ := hid (chgN hc hQ.out)
      replace hC := hC.trans hc
      have hs_6 := hc.size
      clear hc hS
      go_wp2_with fail
      refine (setBelow_any _ _ _ _ xs x _ hA.out (ltF (by omega)) (by omega)).mono ?_
      rintro e w_7 ⟨hg, hc⟩
      obtain ⟨X_7, c_7, rfl, hS⟩ := hg.out
      replace hS := hS.mono (G := Lt w_7.heap.size) (fun k hk _ => hk)
      replace hA := hid (chgN hc hA.out); replace hB := hid (chgN hc hB.out); replace hP := hid (chgN hc hP.out); replace hQ := hid (chgN hc hQ.out)
      replace hC := hC.trans hc
      have hs_7 := hc.size
      clear hc hg 
      replace hS := hid hS
      go_wp2_with fail
      refine (setRight_chg (xs := belowL xs x) hS.out (right_below xs x)).mono ?_
      rintro e w_8 ⟨rfl, hc⟩
      replace hA := hid (chgN hc hA.out); replace hB := hid (chgN hc hB.out); replace hP := hid (chgN hc hP.out); replace hQ := hid (chgN hc hQ.out)
      replace hC := hC.trans hc
      have hs_8 := hc.size
      clear hc hS
      go_wp2_with fail
      refine (setNot_any _ _ _ _ ys 1000 _ hB.out (ltF (by omega))).mono ?_
      rintro e w_9 ⟨hg, hc⟩
      obtain ⟨X_9, c_9, rfl, hS⟩ := hg.out
      replace hS := hS.mono (G := Lt w_9.heap.size) (fun k hk _ => hk)
      replace hA := hid (chgN hc hA.out); replace hB := hid (chgN hc hB.out); replace hP := hid (chgN hc hP.out); replace hQ := hid (chgN hc hQ.out)
      replace hC := hC.trans hc
      have hs_9 := hc.size
      clear hc hg 
      replace hS := hid hS
      go_wp2_with fail
      refine (setRight_chg (xs := notL ys 1000) hS.out (right_not ys 1000)).mono ?_
      rintro e w_10 ⟨rfl, hc⟩
      replace hA := hid (chgN hc hA.out); replace hB := hid (chgN hc hB.out); replace hP := hid (chgN hc hP.out); replace hQ := hid (chgN hc hQ.out)
      replace hC := hC.trans hc
      have hs_10 := hc.size
      clear hc hS
      go_wp2_with fail
      refine (refRight_chg hA.out (xs := xs) HRA.out).mono ?_
      rintro e w_11 ⟨rfl, hc⟩
      replace hA := hid (chgN hc hA.out); replace hB := hid (chgN hc hB.out); replace hP := hid (chgN hc hP.out); replace hQ := hid (chgN hc hQ.out)
      replace hC := hC.trans hc
      have hs_11 := hc.size
      clear hc 
      go_wp2_with fail
      refine (refRight_chg hB.out (xs := ys) HRB.out).mono ?_
      rintro e w_12 ⟨rfl, hc⟩
      replace hA := hid (chgN hc hA.out); replace hB := hid (chgN hc hB.out); replace hP := hid (chgN hc hP.out); replace hQ := hid (chgN hc hQ.out)
      replace hC := hC.trans hc
      have hs_12 := hc.size
      clear hc 
      go_wp2_with fail
      refine (aliveS _).mono ?_
      rintro e w_13 ⟨rfl, hc⟩
      replace hA := hid (chgN hc hA.out); replace hB := hid (chgN hc hB.out); replace hP := hid (chgN hc hP.out); replace hQ := hid (chgN hc hQ.out)
      replace hC := hC.trans hc
      have hs_13 := hc.size
      clear hc 
      go_wp2_with fail
      refine (refHas_chg (xs := andL xs ys) (x := x) hP.out (r := false) (by have := mem_and HRA.out HRB.out (z := x); have h1 := HA1.out; have h2 := HB1.out; simp_all)).mono ?_
      rintro e w_14 ⟨rfl, hc⟩
      replace hA := hid (chgN hc hA.out); replace hB := hid (chgN hc hB.out); replace hP := hid (chgN hc hP.out); replace hQ := hid (chgN hc hQ.out)
      replace hC := hC.trans hc
      have hs_14 := hc.size
      clear hc 
      go_wp2_with fail
      refine (refHas_chg (xs := xs) (x := x) hA.out HA1.out).mono ?_
      rintro e w_15 ⟨rfl, hc⟩
      replace hA := hid (chgN hc hA.out); replace hB := hid (chgN hc hB.out); replace hP := hid (chgN hc hP.out); replace hQ := hid (chgN hc hQ.out)
      replace hC := hC.trans hc
      have hs_15 := hc.size
      clear hc 
      go_wp2_with fail
      refine (refHas_chg (xs := orL xs ys) (x := x) hQ.out (r := true) (by have := mem_or HRA.out HRB.out (z := x); have h1 := HA1.out; have h2 := HB1.out; simp_all)).mono ?_
      rintro e w_16 ⟨rfl, hc⟩
      replace hA := hid (chgN hc hA.out); replace hB := hid (chgN hc hB.out); replace hP := hid (chgN hc hP.out); replace hQ := hid (chgN hc hQ.out)
      replace hC := hC.trans hc
      have hs_16 := hc.size
      clear hc 
      go_wp2_with fail
      refine (refHas_chg (xs := xs) (x := x) hA.out HA1.out).mono ?_
      rintro e w_17 ⟨rfl, hc⟩
      replace hA := hid (chgN hc hA.out); replace hB := hid (chgN hc hB.out); replace hP := hid (chgN hc hP.out); replace hQ := hid (chgN hc hQ.out)
      replace hC := hC.trans hc
      have hs_17 := hc.size
      clear hc 
      go_wp2_with fail
      refine (refHas_chg (xs := ys) (x := x) hB.out HB1.out).mono ?_
      rintro e w_18 ⟨rfl, hc⟩
      replace hA := hid (chgN hc hA.out); replace hB := hid (chgN hc hB.out); replace hP := hid (chgN hc hP.out); replace hQ := hid (chgN hc hQ.out)
      replace hC := hC.trans hc
      have hs_18 := hc.size
      clear hc 
      have hll := len_and_or HRA.out HRB.out
      rw [hIl.out, hJl.out] at hll
      have hll2 : (((andL xs ys).length : Int) + ((orL xs ys).length : Int) == (n : Int) + m) = true := beq_iff_eq.2 (by omega)
      clear hll
      go_wp2
      go_ret
      exact ⟨rfl, hC⟩
  · have HA1 := hid hia; have HB1 := hid hib; clear hia hib
    rcases hxx with hx | hx
    · go_enter Try.func7, Try.ntmps7
      go_wp2_with fail
      refine (fewS_yes A n c w hf).mono ?_
      rintro e w' ⟨rfl, rfl⟩
      go_wp2_with fail
      refine (fewS_yes B m d w hf2).mono ?_
      rintro e w' ⟨rfl, rfl⟩
      go_wp2_with fail
      refine (setAnd_any _ _ _ _ _ _ _ _ xs ys _ hA.out hB.out (ltF (by omega)) (ltF (by omega)) (by omega)).mono ?_
      rintro e w_1 ⟨hg, hc⟩
      obtain ⟨X_1, c_1, rfl, hP⟩ := hg.out
      replace hP := hP.mono (G := Lt w_1.heap.size) (fun k hk _ => hk)
      replace hA := hid (chgN hc hA.out); replace hB := hid (chgN hc hB.out)
      replace hC := hC.trans hc
      have hs_1 := hc.size
      clear hc hg 
      replace hP := hid hP
      go_wp2_with fail
      refine (setOr_any _ _ _ _ _ _ _ _ xs ys _ hA.out hB.out (ltF (by omega)) (ltF (by omega)) (by omega) (by omega)).mono ?_
      rintro e w_2 ⟨hg, hc⟩
      obtain ⟨X_2, c_2, rfl, hQ⟩ := hg.out
      replace hQ := hQ.mono (G := Lt w_2.heap.size) (fun k hk _ => hk)
      replace hA := hid (chgN hc hA.out); replace hB := hid (chgN hc hB.out); replace hP := hid (chgN hc hP.out)
      replace hC := hC.trans hc
      have hs_2 := hc.size
      clear hc hg 
      replace hQ := hid hQ
      go_wp2_with fail
      refine (setRight_chg (xs := andL xs ys) hP.out (right_and xs ys)).mono ?_
      rintro e w_3 ⟨rfl, hc⟩
      replace hA := hid (chgN hc hA.out); replace hB := hid (chgN hc hB.out); replace hP := hid (chgN hc hP.out); replace hQ := hid (chgN hc hQ.out)
      replace hC := hC.trans hc
      have hs_3 := hc.size
      clear hc 
      go_wp2_with fail
      refine (setRight_chg (xs := orL xs ys) hQ.out (right_or xs ys)).mono ?_
      rintro e w_4 ⟨rfl, hc⟩
      replace hA := hid (chgN hc hA.out); replace hB := hid (chgN hc hB.out); replace hP := hid (chgN hc hP.out); replace hQ := hid (chgN hc hQ.out)
      replace hC := hC.trans hc
      have hs_4 := hc.size
      clear hc 
      go_wp2_with fail
      refine (setShift_any _ _ _ _ xs x _ hA.out (ltF (by omega)) (by omega) (by omega) hZ.out).mono ?_
      rintro e w_5 ⟨hg, hc⟩
      obtain ⟨X_5, c_5, rfl, hS⟩ := hg.out
      replace hS := hS.mono (G := Lt w_5.heap.size) (fun k hk _ => hk)
      replace hA := hid (chgN hc hA.out); replace hB := hid (chgN hc hB.out); replace hP := hid (chgN hc hP.out); replace hQ := hid (chgN hc hQ.out)
      replace hC := hC.trans hc
      have hs_5 := hc.size
      clear hc hg 
      replace hS := hid hS
      go_wp2_with fail
      refine (setRight_chg (xs := shiftL xs x) hS.out (right_shift xs x)).mono ?_
      rintro e w_6 ⟨rfl, hc⟩
      replace hA := hid (chgN hc hA.out); replace hB := hid (chgN hc hB.out); replace hP := hid (chgN hc hP.out); replace hQ := hid (chgN hc hQ.out)
      replace hC := hC.trans hc
      have hs_6 := hc.size
      clear hc hS
      go_wp2_with fail
      refine (setBelow_any _ _ _ _ xs x _ hA.out (ltF (by omega)) (by omega)).mono ?_
      rintro e w_7 ⟨hg, hc⟩
      obtain ⟨X_7, c_7, rfl, hS⟩ := hg.out
      replace hS := hS.mono (G := Lt w_7.heap.size) (fun k hk _ => hk)
      replace hA := hid (chgN hc hA.out); replace hB := hid (chgN hc hB.out); replace hP := hid (chgN hc hP.out); replace hQ := hid (chgN hc hQ.out)
      replace hC := hC.trans hc
      have hs_7 := hc.size
      clear hc hg 
      replace hS := hid hS
      go_wp2_with fail
      refine (setRight_chg (xs := belowL xs x) hS.out (right_below xs x)).mono ?_
      rintro e w_8 ⟨rfl, hc⟩
      replace hA := hid (chgN hc hA.out); replace hB := hid (chgN hc hB.out); replace hP := hid (chgN hc hP.out); replace hQ := hid (chgN hc hQ.out)
      replace hC := hC.trans hc
      have hs_8 := hc.size
      clear hc hS
      go_wp2_with fail
      refine (setNot_any _ _ _ _ ys x _ hB.out (ltF (by omega))).mono ?_
      rintro e w_9 ⟨hg, hc⟩
      obtain ⟨X_9, c_9, rfl, hS⟩ := hg.out
      replace hS := hS.mono (G := Lt w_9.heap.size) (fun k hk _ => hk)
      replace hA := hid (chgN hc hA.out); replace hB := hid (chgN hc hB.out); replace hP := hid (chgN hc hP.out); replace hQ := hid (chgN hc hQ.out)
      replace hC := hC.trans hc
      have hs_9 := hc.size
      clear hc hg 
      replace hS := hid hS
      go_wp2_with fail
      refine (setRight_chg (xs := notL ys x) hS.out (right_not ys x)).mono ?_
      rintro e w_10 ⟨rfl, hc⟩
      replace hA := hid (chgN hc hA.out); replace hB := hid (chgN hc hB.out); replace hP := hid (chgN hc hP.out); replace hQ := hid (chgN hc hQ.out)
      replace hC := hC.trans hc
      have hs_10 := hc.size
      clear hc hS
      go_wp2_with fail
      refine (refRight_chg hA.out (xs := xs) HRA.out).mono ?_
      rintro e w_11 ⟨rfl, hc⟩
      replace hA := hid (chgN hc hA.out); replace hB := hid (chgN hc hB.out); replace hP := hid (chgN hc hP.out); replace hQ := hid (chgN hc hQ.out)
      replace hC := hC.trans hc
      have hs_11 := hc.size
      clear hc 
      go_wp2_with fail
      refine (refRight_chg hB.out (xs := ys) HRB.out).mono ?_
      rintro e w_12 ⟨rfl, hc⟩
      replace hA := hid (chgN hc hA.out); replace hB := hid (chgN hc hB.out); replace hP := hid (chgN hc hP.out); replace hQ := hid (chgN hc hQ.out)
      replace hC := hC.trans hc
      have hs_12 := hc.size
      clear hc 
      go_wp2_with fail
      refine (aliveS _).mono ?_
      rintro e w_13 ⟨rfl, hc⟩
      replace hA := hid (chgN hc hA.out); replace hB := hid (chgN hc hB.out); replace hP := hid (chgN hc hP.out); replace hQ := hid (chgN hc hQ.out)
      replace hC := hC.trans hc
      have hs_13 := hc.size
      clear hc 
      go_wp2_with fail
      refine (refHas_chg (xs := andL xs ys) (x := x) hP.out (r := false) (by have := mem_and HRA.out HRB.out (z := x); have h1 := HA1.out; have h2 := HB1.out; simp_all)).mono ?_
      rintro e w_14 ⟨rfl, hc⟩
      replace hA := hid (chgN hc hA.out); replace hB := hid (chgN hc hB.out); replace hP := hid (chgN hc hP.out); replace hQ := hid (chgN hc hQ.out)
      replace hC := hC.trans hc
      have hs_14 := hc.size
      clear hc 
      go_wp2_with fail
      refine (refHas_chg (xs := xs) (x := x) hA.out HA1.out).mono ?_
      rintro e w_15 ⟨rfl, hc⟩
      replace hA := hid (chgN hc hA.out); replace hB := hid (chgN hc hB.out); replace hP := hid (chgN hc hP.out); replace hQ := hid (chgN hc hQ.out)
      replace hC := hC.trans hc
      have hs_15 := hc.size
      clear hc 
      go_wp2_with fail
      refine (refHas_chg (xs := ys) (x := x) hB.out HB1.out).mono ?_
      rintro e w_16 ⟨rfl, hc⟩
      replace hA := hid (chgN hc hA.out); replace hB := hid (chgN hc hB.out); replace hP := hid (chgN hc hP.out); replace hQ := hid (chgN hc hQ.out)
      replace hC := hC.trans hc
      have hs_16 := hc.size
      clear hc 
      go_wp2_with fail
      refine (refHas_chg (xs := orL xs ys) (x := x) hQ.out (r := true) (by have := mem_or HRA.out HRB.out (z := x); have h1 := HA1.out; have h2 := HB1.out; simp_all)).mono ?_
      rintro e w_17 ⟨rfl, hc⟩
      replace hA := hid (chgN hc hA.out); replace hB := hid (chgN hc hB.out); replace hP := hid (chgN hc hP.out); replace hQ := hid (chgN hc hQ.out)
      replace hC := hC.trans hc
      have hs_17 := hc.size
      clear hc 
      go_wp2_with fail
      refine (refHas_chg (xs := xs) (x := x) hA.out HA1.out).mono ?_
      rintro e w_18 ⟨rfl, hc⟩
      replace hA := hid (chgN hc hA.out); replace hB := hid (chgN hc hB.out); replace hP := hid (chgN hc hP.out); replace hQ := hid (chgN hc hQ.out)
      replace hC := hC.trans hc
      have hs_18 := hc.size
      clear hc 
      have hll := len_and_or HRA.out HRB.out
      rw [hIl.out, hJl.out] at hll
      have hll2 : (((andL xs ys).length : Int) + ((orL xs ys).length : Int) == (n : Int) + m) = true := beq_iff_eq.2 (by omega)
      clear hll
      go_wp2
      go_ret
      exact ⟨rfl, hC⟩
    · go_enter Try.func7, Try.ntmps7
      go_wp2_with fail
      refine (fewS_yes A n c w hf).mono ?_
      rintro e w' ⟨rfl, rfl⟩
      go_wp2_with fail
      refine (fewS_yes B m d w hf2).mono ?_
      rintro e w' ⟨rfl, rfl⟩
      go_wp2_with fail
      refine (setAnd_any _ _ _ _ _ _ _ _ xs ys _ hA.out hB.out (ltF (by omega)) (ltF (by omega)) (by omega)).mono ?_
      rintro e w_1 ⟨hg, hc⟩
      obtain ⟨X_1, c_1, rfl, hP⟩ := hg.out
      replace hP := hP.mono (G := Lt w_1.heap.size) (fun k hk _ => hk)
      replace hA := hid (chgN hc hA.out); replace hB := hid (chgN hc hB.out)
      replace hC := hC.trans hc
      have hs_1 := hc.size
      clear hc hg 
      replace hP := hid hP
      go_wp2_with fail
      refine (setOr_any _ _ _ _ _ _ _ _ xs ys _ hA.out hB.out (ltF (by omega)) (ltF (by omega)) (by omega) (by omega)).mono ?_
      rintro e w_2 ⟨hg, hc⟩
      obtain ⟨X_2, c_2, rfl, hQ⟩ := hg.out
      replace hQ := hQ.mono (G := Lt w_2.heap.size) (fun k hk _ => hk)
      replace hA := hid (chgN hc hA.out); replace hB := hid (chgN hc hB.out); replace hP := hid (chgN hc hP.out)
      replace hC := hC.trans hc
      have hs_2 := hc.size
      clear hc hg 
      replace hQ := hid hQ
      go_wp2_with fail
      refine (setRight_chg (xs := andL xs ys) hP.out (right_and xs ys)).mono ?_
      rintro e w_3 ⟨rfl, hc⟩
      replace hA := hid (chgN hc hA.out); replace hB := hid (chgN hc hB.out); replace hP := hid (chgN hc hP.out); replace hQ := hid (chgN hc hQ.out)
      replace hC := hC.trans hc
      have hs_3 := hc.size
      clear hc 
      go_wp2_with fail
      refine (setRight_chg (xs := orL xs ys) hQ.out (right_or xs ys)).mono ?_
      rintro e w_4 ⟨rfl, hc⟩
      replace hA := hid (chgN hc hA.out); replace hB := hid (chgN hc hB.out); replace hP := hid (chgN hc hP.out); replace hQ := hid (chgN hc hQ.out)
      replace hC := hC.trans hc
      have hs_4 := hc.size
      clear hc 
      go_wp2_with fail
      refine (setShift_any _ _ _ _ xs x _ hA.out (ltF (by omega)) (by omega) (by omega) hZ.out).mono ?_
      rintro e w_5 ⟨hg, hc⟩
      obtain ⟨X_5, c_5, rfl, hS⟩ := hg.out
      replace hS := hS.mono (G := Lt w_5.heap.size) (fun k hk _ => hk)
      replace hA := hid (chgN hc hA.out); replace hB := hid (chgN hc hB.out); replace hP := hid (chgN hc hP.out); replace hQ := hid (chgN hc hQ.out)
      replace hC := hC.trans hc
      have hs_5 := hc.size
      clear hc hg 
      replace hS := hid hS
      go_wp2_with fail
      refine (setRight_chg (xs := shiftL xs x) hS.out (right_shift xs x)).mono ?_
      rintro e w_6 ⟨rfl, hc⟩
      replace hA := hid (chgN hc hA.out); replace hB := hid (chgN hc hB.out); replace hP := hid (chgN hc hP.out); replace hQ := hid (chgN hc hQ.out)
      replace hC := hC.trans hc
      have hs_6 := hc.size
      clear hc hS
      go_wp2_with fail
      refine (setBelow_any _ _ _ _ xs x _ hA.out (ltF (by omega)) (by omega)).mono ?_
      rintro e w_7 ⟨hg, hc⟩
      obtain ⟨X_7, c_7, rfl, hS⟩ := hg.out
      replace hS := hS.mono (G := Lt w_7.heap.size) (fun k hk _ => hk)
      replace hA := hid (chgN hc hA.out); replace hB := hid (chgN hc hB.out); replace hP := hid (chgN hc hP.out); replace hQ := hid (chgN hc hQ.out)
      replace hC := hC.trans hc
      have hs_7 := hc.size
      clear hc hg 
      replace hS := hid hS
      go_wp2_with fail
      refine (setRight_chg (xs := belowL xs x) hS.out (right_below xs x)).mono ?_
      rintro e w_8 ⟨rfl, hc⟩
      replace hA := hid (chgN hc hA.out); replace hB := hid (chgN hc hB.out); replace hP := hid (chgN hc hP.out); replace hQ := hid (chgN hc hQ.out)
      replace hC := hC.trans hc
      have hs_8 := hc.size
      clear hc hS
      go_wp2_with fail
      refine (setNot_any _ _ _ _ ys 1000 _ hB.out (ltF (by omega))).mono ?_
      rintro e w_9 ⟨hg, hc⟩
      obtain ⟨X_9, c_9, rfl, hS⟩ := hg.out
      replace hS := hS.mono (G := Lt w_9.heap.size) (fun k hk _ => hk)
      replace hA := hid (chgN hc hA.out); replace hB := hid (chgN hc hB.out); replace hP := hid (chgN hc hP.out); replace hQ := hid (chgN hc hQ.out)
      replace hC := hC.trans hc
      have hs_9 := hc.size
      clear hc hg 
      replace hS := hid hS
      go_wp2_with fail
      refine (setRight_chg (xs := notL ys 1000) hS.out (right_not ys 1000)).mono ?_
      rintro e w_10 ⟨rfl, hc⟩
      replace hA := hid (chgN hc hA.out); replace hB := hid (chgN hc hB.out); replace hP := hid (chgN hc hP.out); replace hQ := hid (chgN hc hQ.out)
      replace hC := hC.trans hc
      have hs_10 := hc.size
      clear hc hS
      go_wp2_with fail
      refine (refRight_chg hA.out (xs := xs) HRA.out).mono ?_
      rintro e w_11 ⟨rfl, hc⟩
      replace hA := hid (chgN hc hA.out); replace hB := hid (chgN hc hB.out); replace hP := hid (chgN hc hP.out); replace hQ := hid (chgN hc hQ.out)
      replace hC := hC.trans hc
      have hs_11 := hc.size
      clear hc 
      go_wp2_with fail
      refine (refRight_chg hB.out (xs := ys) HRB.out).mono ?_
      rintro e w_12 ⟨rfl, hc⟩
      replace hA := hid (chgN hc hA.out); replace hB := hid (chgN hc hB.out); replace hP := hid (chgN hc hP.out); replace hQ := hid (chgN hc hQ.out)
      replace hC := hC.trans hc
      have hs_12 := hc.size
      clear hc 
      go_wp2_with fail
      refine (aliveS _).mono ?_
      rintro e w_13 ⟨rfl, hc⟩
      replace hA := hid (chgN hc hA.out); replace hB := hid (chgN hc hB.out); replace hP := hid (chgN hc hP.out); replace hQ := hid (chgN hc hQ.out)
      replace hC := hC.trans hc
      have hs_13 := hc.size
      clear hc 
      go_wp2_with fail
      refine (refHas_chg (xs := andL xs ys) (x := x) hP.out (r := false) (by have := mem_and HRA.out HRB.out (z := x); have h1 := HA1.out; have h2 := HB1.out; simp_all)).mono ?_
      rintro e w_14 ⟨rfl, hc⟩
      replace hA := hid (chgN hc hA.out); replace hB := hid (chgN hc hB.out); replace hP := hid (chgN hc hP.out); replace hQ := hid (chgN hc hQ.out)
      replace hC := hC.trans hc
      have hs_14 := hc.size
      clear hc 
      go_wp2_with fail
      refine (refHas_chg (xs := xs) (x := x) hA.out HA1.out).mono ?_
      rintro e w_15 ⟨rfl, hc⟩
      replace hA := hid (chgN hc hA.out); replace hB := hid (chgN hc hB.out); replace hP := hid (chgN hc hP.out); replace hQ := hid (chgN hc hQ.out)
      replace hC := hC.trans hc
      have hs_15 := hc.size
      clear hc 
      go_wp2_with fail
      refine (refHas_chg (xs := ys) (x := x) hB.out HB1.out).mono ?_
      rintro e w_16 ⟨rfl, hc⟩
      replace hA := hid (chgN hc hA.out); replace hB := hid (chgN hc hB.out); replace hP := hid (chgN hc hP.out); replace hQ := hid (chgN hc hQ.out)
      replace hC := hC.trans hc
      have hs_16 := hc.size
      clear hc 
      go_wp2_with fail
      refine (refHas_chg (xs := orL xs ys) (x := x) hQ.out (r := true) (by have := mem_or HRA.out HRB.out (z := x); have h1 := HA1.out; have h2 := HB1.out; simp_all)).mono ?_
      rintro e w_17 ⟨rfl, hc⟩
      replace hA := hid (chgN hc hA.out); replace hB := hid (chgN hc hB.out); replace hP := hid (chgN hc hP.out); replace hQ := hid (chgN hc hQ.out)
      replace hC := hC.trans hc
      have hs_17 := hc.size
      clear hc 
      go_wp2_with fail
      refine (refHas_chg (xs := xs) (x := x) hA.out HA1.out).mono ?_
      rintro e w_18 ⟨rfl, hc⟩
      replace hA := hid (chgN hc hA.out); replace hB := hid (chgN hc hB.out); replace hP := hid (chgN hc hP.out); replace hQ := hid (chgN hc hQ.out)
      replace hC := hC.trans hc
      have hs_18 := hc.size
      clear hc 
      have hll := len_and_or HRA.out HRB.out
      rw [hIl.out, hJl.out] at hll
      have hll2 : (((andL xs ys).length : Int) + ((orL xs ys).length : Int) == (n : Int) + m) = true := beq_iff_eq.2 (by omega)
      clear hll
      go_wp2
      go_ret
      exact ⟨rfl, hC⟩
  · have HA1 := hid hia; have HB1 := hid hib; clear hia hib
    rcases hxx with hx | hx
    · go_enter Try.func7, Try.ntmps7
      go_wp2_with fail
      refine (fewS_yes A n c w hf).mono ?_
      rintro e w' ⟨rfl, rfl⟩
      go_wp2_with fail
      refine (fewS_yes B m d w hf2).mono ?_
      rintro e w' ⟨rfl, rfl⟩
      go_wp2_with fail
      refine (setAnd_any _ _ _ _ _ _ _ _ xs ys _ hA.out hB.out (ltF (by omega)) (ltF (by omega)) (by omega)).mono ?_
      rintro e w_1 ⟨hg, hc⟩
      obtain ⟨X_1, c_1, rfl, hP⟩ := hg.out
      replace hP := hP.mono (G := Lt w_1.heap.size) (fun k hk _ => hk)
      replace hA := hid (chgN hc hA.out); replace hB := hid (chgN hc hB.out)
      replace hC := hC.trans hc
      have hs_1 := hc.size
      clear hc hg 
      replace hP := hid hP
      go_wp2_with fail
      refine (setOr_any _ _ _ _ _ _ _ _ xs ys _ hA.out hB.out (ltF (by omega)) (ltF (by omega)) (by omega) (by omega)).mono ?_
      rintro e w_2 ⟨hg, hc⟩
      obtain ⟨X_2, c_2, rfl, hQ⟩ := hg.out
      replace hQ := hQ.mono (G := Lt w_2.heap.size) (fun k hk _ => hk)
      replace hA := hid (chgN hc hA.out); replace hB := hid (chgN hc hB.out); replace hP := hid (chgN hc hP.out)
      replace hC := hC.trans hc
      have hs_2 := hc.size
      clear hc hg 
      replace hQ := hid hQ
      go_wp2_with fail
      refine (setRight_chg (xs := andL xs ys) hP.out (right_and xs ys)).mono ?_
      rintro e w_3 ⟨rfl, hc⟩
      replace hA := hid (chgN hc hA.out); replace hB := hid (chgN hc hB.out); replace hP := hid (chgN hc hP.out); replace hQ := hid (chgN hc hQ.out)
      replace hC := hC.trans hc
      have hs_3 := hc.size
      clear hc 
      go_wp2_with fail
      refine (setRight_chg (xs := orL xs ys) hQ.out (right_or xs ys)).mono ?_
      rintro e w_4 ⟨rfl, hc⟩
      replace hA := hid (chgN hc hA.out); replace hB := hid (chgN hc hB.out); replace hP := hid (chgN hc hP.out); replace hQ := hid (chgN hc hQ.out)
      replace hC := hC.trans hc
      have hs_4 := hc.size
      clear hc 
      go_wp2_with fail
      refine (setShift_any _ _ _ _ xs x _ hA.out (ltF (by omega)) (by omega) (by omega) hZ.out).mono ?_
      rintro e w_5 ⟨hg, hc⟩
      obtain ⟨X_5, c_5, rfl, hS⟩ := hg.out
      replace hS := hS.mono (G := Lt w_5.heap.size) (fun k hk _ => hk)
      replace hA := hid (chgN hc hA.out); replace hB := hid (chgN hc hB.out); replace hP := hid (chgN hc hP.out); replace hQ := hid (chgN hc hQ.out)
      replace hC := hC.trans hc
      have hs_5 := hc.size
      clear hc hg 
      replace hS := hid hS
      go_wp2_with fail
      refine (setRight_chg (xs := shiftL xs x) hS.out (right_shift xs x)).mono ?_
      rintro e w_6 ⟨rfl, hc⟩
      replace hA := hid (chgN hc hA.out); replace hB := hid (chgN hc hB.out); replace hP := hid (chgN hc hP.out); replace hQ := hid (chgN hc hQ.out)
      replace hC := hC.trans hc
      have hs_6 := hc.size
      clear hc hS
      go_wp2_with fail
      refine (setBelow_any _ _ _ _ xs x _ hA.out (ltF (by omega)) (by omega)).mono ?_
      rintro e w_7 ⟨hg, hc⟩
      obtain ⟨X_7, c_7, rfl, hS⟩ := hg.out
      replace hS := hS.mono (G := Lt w_7.heap.size) (fun k hk _ => hk)
      replace hA := hid (chgN hc hA.out); replace hB := hid (chgN hc hB.out); replace hP := hid (chgN hc hP.out); replace hQ := hid (chgN hc hQ.out)
      replace hC := hC.trans hc
      have hs_7 := hc.size
      clear hc hg 
      replace hS := hid hS
      go_wp2_with fail
      refine (setRight_chg (xs := belowL xs x) hS.out (right_below xs x)).mono ?_
      rintro e w_8 ⟨rfl, hc⟩
      replace hA := hid (chgN hc hA.out); replace hB := hid (chgN hc hB.out); replace hP := hid (chgN hc hP.out); replace hQ := hid (chgN hc hQ.out)
      replace hC := hC.trans hc
      have hs_8 := hc.size
      clear hc hS
      go_wp2_with fail
      refine (setNot_any _ _ _ _ ys x _ hB.out (ltF (by omega))).mono ?_
      rintro e w_9 ⟨hg, hc⟩
      obtain ⟨X_9, c_9, rfl, hS⟩ := hg.out
      replace hS := hS.mono (G := Lt w_9.heap.size) (fun k hk _ => hk)
      replace hA := hid (chgN hc hA.out); replace hB := hid (chgN hc hB.out); replace hP := hid (chgN hc hP.out); replace hQ := hid (chgN hc hQ.out)
      replace hC := hC.trans hc
      have hs_9 := hc.size
      clear hc hg 
      replace hS := hid hS
      go_wp2_with fail
      refine (setRight_chg (xs := notL ys x) hS.out (right_not ys x)).mono ?_
      rintro e w_10 ⟨rfl, hc⟩
      replace hA := hid (chgN hc hA.out); replace hB := hid (chgN hc hB.out); replace hP := hid (chgN hc hP.out); replace hQ := hid (chgN hc hQ.out)
      replace hC := hC.trans hc
      have hs_10 := hc.size
      clear hc hS
      go_wp2_with fail
      refine (refRight_chg hA.out (xs := xs) HRA.out).mono ?_
      rintro e w_11 ⟨rfl, hc⟩
      replace hA := hid (chgN hc hA.out); replace hB := hid (chgN hc hB.out); replace hP := hid (chgN hc hP.out); replace hQ := hid (chgN hc hQ.out)
      replace hC := hC.trans hc
      have hs_11 := hc.size
      clear hc 
      go_wp2_with fail
      refine (refRight_chg hB.out (xs := ys) HRB.out).mono ?_
      rintro e w_12 ⟨rfl, hc⟩
      replace hA := hid (chgN hc hA.out); replace hB := hid (chgN hc hB.out); replace hP := hid (chgN hc hP.out); replace hQ := hid (chgN hc hQ.out)
      replace hC := hC.trans hc
      have hs_12 := hc.size
      clear hc 
      go_wp2_with fail
      refine (aliveS _).mono ?_
      rintro e w_13 ⟨rfl, hc⟩
      replace hA := hid (chgN hc hA.out); replace hB := hid (chgN hc hB.out); replace hP := hid (chgN hc hP.out); replace hQ := hid (chgN hc hQ.out)
      replace hC := hC.trans hc
      have hs_13 := hc.size
      clear hc 
      go_wp2_with fail
      refine (refHas_chg (xs := andL xs ys) (x := x) hP.out (r := true) (by have := mem_and HRA.out HRB.out (z := x); have h1 := HA1.out; have h2 := HB1.out; simp_all)).mono ?_
      rintro e w_14 ⟨rfl, hc⟩
      replace hA := hid (chgN hc hA.out); replace hB := hid (chgN hc hB.out); replace hP := hid (chgN hc hP.out); replace hQ := hid (chgN hc hQ.out)
      replace hC := hC.trans hc
      have hs_14 := hc.size
      clear hc 
      go_wp2_with fail
      refine (refHas_chg (xs := xs) (x := x) hA.out HA1.out).mono ?_
      rintro e w_15 ⟨rfl, hc⟩
      replace hA := hid (chgN hc hA.out); replace hB := hid (chgN hc hB.out); replace hP := hid (chgN hc hP.out); replace hQ := hid (chgN hc hQ.out)
      replace hC := hC.trans hc
      have hs_15 := hc.size
      clear hc 
      go_wp2_with fail
      refine (refHas_chg (xs := ys) (x := x) hB.out HB1.out).mono ?_
      rintro e w_16 ⟨rfl, hc⟩
      replace hA := hid (chgN hc hA.out); replace hB := hid (chgN hc hB.out); replace hP := hid (chgN hc hP.out); replace hQ := hid (chgN hc hQ.out)
      replace hC := hC.trans hc
      have hs_16 := hc.size
      clear hc 
      go_wp2_with fail
      refine (refHas_chg (xs := orL xs ys) (x := x) hQ.out (r := true) (by have := mem_or HRA.out HRB.out (z := x); have h1 := HA1.out; have h2 := HB1.out; simp_all)).mono ?_
      rintro e w_17 ⟨rfl, hc⟩
      replace hA := hid (chgN hc hA.out); replace hB := hid (chgN hc hB.out); replace hP := hid (chgN hc hP.out); replace hQ := hid (chgN hc hQ.out)
      replace hC := hC.trans hc
      have hs_17 := hc.size
      clear hc 
      go_wp2_with fail
      refine (refHas_chg (xs := xs) (x := x) hA.out HA1.out).mono ?_
      rintro e w_18 ⟨rfl, hc⟩
      replace hA := hid (chgN hc hA.out); replace hB := hid (chgN hc hB.out); replace hP := hid (chgN hc hP.out); replace hQ := hid (chgN hc hQ.out)
      replace hC := hC.trans hc
      have hs_18 := hc.size
      clear hc 
      have hll := len_and_or HRA.out HRB.out
      rw [hIl.out, hJl.out] at hll
      have hll2 : (((andL xs ys).length : Int) + ((orL xs ys).length : Int) == (n : Int) + m) = true := beq_iff_eq.2 (by omega)
      clear hll
      go_wp2
      go_ret
      exact ⟨rfl, hC⟩
    · go_enter Try.func7, Try.ntmps7
      go_wp2_with fail
      refine (fewS_yes A n c w hf).mono ?_
      rintro e w' ⟨rfl, rfl⟩
      go_wp2_with fail
      refine (fewS_yes B m d w hf2).mono ?_
      rintro e w' ⟨rfl, rfl⟩
      go_wp2_with fail
      refine (setAnd_any _ _ _ _ _ _ _ _ xs ys _ hA.out hB.out (ltF (by omega)) (ltF (by omega)) (by omega)).mono ?_
      rintro e w_1 ⟨hg, hc⟩
      obtain ⟨X_1, c_1, rfl, hP⟩ := hg.out
      replace hP := hP.mono (G := Lt w_1.heap.size) (fun k hk _ => hk)
      replace hA := hid (chgN hc hA.out); replace hB := hid (chgN hc hB.out)
      replace hC := hC.trans hc
      have hs_1 := hc.size
      clear hc hg 
      replace hP := hid hP
      go_wp2_with fail
      refine (setOr_any _ _ _ _ _ _ _ _ xs ys _ hA.out hB.out (ltF (by omega)) (ltF (by omega)) (by omega) (by omega)).mono ?_
      rintro e w_2 ⟨hg, hc⟩
      obtain ⟨X_2, c_2, rfl, hQ⟩ := hg.out
      replace hQ := hQ.mono (G := Lt w_2.heap.size) (fun k hk _ => hk)
      replace hA := hid (chgN hc hA.out); replace hB := hid (chgN hc hB.out); replace hP := hid (chgN hc hP.out)
      replace hC := hC.trans hc
      have hs_2 := hc.size
      clear hc hg 
      replace hQ := hid hQ
      go_wp2_with fail
      refine (setRight_chg (xs := andL xs ys) hP.out (right_and xs ys)).mono ?_
      rintro e w_3 ⟨rfl, hc⟩
      replace hA := hid (chgN hc hA.out); replace hB := hid (chgN hc hB.out); replace hP := hid (chgN hc hP.out); replace hQ := hid (chgN hc hQ.out)
      replace hC := hC.trans hc
      have hs_3 := hc.size
      clear hc 
      go_wp2_with fail
      refine (setRight_chg (xs := orL xs ys) hQ.out (right_or xs ys)).mono ?_
      rintro e w_4 ⟨rfl, hc⟩
      replace hA := hid (chgN hc hA.out); replace hB := hid (chgN hc hB.out); replace hP := hid (chgN hc hP.out); replace hQ := hid (chgN hc hQ.out)
      replace hC := hC.trans hc
      have hs_4 := hc.size
      clear hc 
      go_wp2_with fail
      refine (setShift_any _ _ _ _ xs x _ hA.out (ltF (by omega)) (by omega) (by omega) hZ.out).mono ?_
      rintro e w_5 ⟨hg, hc⟩
      obtain ⟨X_5, c_5, rfl, hS⟩ := hg.out
      replace hS := hS.mono (G := Lt w_5.heap.size) (fun k hk _ => hk)
      replace hA := hid (chgN hc hA.out); replace hB := hid (chgN hc hB.out); replace hP := hid (chgN hc hP.out); replace hQ := hid (chgN hc hQ.out)
      replace hC := hC.trans hc
      have hs_5 := hc.size
      clear hc hg 
      replace hS := hid hS
      go_wp2_with fail
      refine (setRight_chg (xs := shiftL xs x) hS.out (right_shift xs x)).mono ?_
      rintro e w_6 ⟨rfl, hc⟩
      replace hA := hid (chgN hc hA.out); replace hB := hid (chgN hc hB.out); replace hP := hid (chgN hc hP.out); replace hQ := hid (chgN hc hQ.out)
      replace hC := hC.trans hc
      have hs_6 := hc.size
      clear hc hS
      go_wp2_with fail
      refine (setBelow_any _ _ _ _ xs x _ hA.out (ltF (by omega)) (by omega)).mono ?_
      rintro e w_7 ⟨hg, hc⟩
      obtain ⟨X_7, c_7, rfl, hS⟩ := hg.out
      replace hS := hS.mono (G := Lt w_7.heap.size) (fun k hk _ => hk)
      replace hA := hid (chgN hc hA.out); replace hB := hid (chgN hc hB.out); replace hP := hid (chgN hc hP.out); replace hQ := hid (chgN hc hQ.out)
      replace hC := hC.trans hc
      have hs_7 := hc.size
      clear hc hg 
      replace hS := hid hS
      go_wp2_with fail
      refine (setRight_chg (xs := belowL xs x) hS.out (right_below xs x)).mono ?_
      rintro e w_8 ⟨rfl, hc⟩
      replace hA := hid (chgN hc hA.out); replace hB := hid (chgN hc hB.out); replace hP := hid (chgN hc hP.out); replace hQ := hid (chgN hc hQ.out)
      replace hC := hC.trans hc
      have hs_8 := hc.size
      clear hc hS
      go_wp2_with fail
      refine (setNot_any _ _ _ _ ys 1000 _ hB.out (ltF (by omega))).mono ?_
      rintro e w_9 ⟨hg, hc⟩
      obtain ⟨X_9, c_9, rfl, hS⟩ := hg.out
      replace hS := hS.mono (G := Lt w_9.heap.size) (fun k hk _ => hk)
      replace hA := hid (chgN hc hA.out); replace hB := hid (chgN hc hB.out); replace hP := hid (chgN hc hP.out); replace hQ := hid (chgN hc hQ.out)
      replace hC := hC.trans hc
      have hs_9 := hc.size
      clear hc hg 
      replace hS := hid hS
      go_wp2_with fail
      refine (setRight_chg (xs := notL ys 1000) hS.out (right_not ys 1000)).mono ?_
      rintro e w_10 ⟨rfl, hc⟩
      replace hA := hid (chgN hc hA.out); replace hB := hid (chgN hc hB.out); replace hP := hid (chgN hc hP.out); replace hQ := hid (chgN hc hQ.out)
      replace hC := hC.trans hc
      have hs_10 := hc.size
      clear hc hS
      go_wp2_with fail
      refine (refRight_chg hA.out (xs := xs) HRA.out).mono ?_
      rintro e w_11 ⟨rfl, hc⟩
      replace hA := hid (chgN hc hA.out); replace hB := hid (chgN hc hB.out); replace hP := hid (chgN hc hP.out); replace hQ := hid (chgN hc hQ.out)
      replace hC := hC.trans hc
      have hs_11 := hc.size
      clear hc 
      go_wp2_with fail
      refine (refRight_chg hB.out (xs := ys) HRB.out).mono ?_
      rintro e w_12 ⟨rfl, hc⟩
      replace hA := hid (chgN hc hA.out); replace hB := hid (chgN hc hB.out); replace hP := hid (chgN hc hP.out); replace hQ := hid (chgN hc hQ.out)
      replace hC := hC.trans hc
      have hs_12 := hc.size
      clear hc 
      go_wp2_with fail
      refine (aliveS _).mono ?_
      rintro e w_13 ⟨rfl, hc⟩
      replace hA := hid (chgN hc hA.out); replace hB := hid (chgN hc hB.out); replace hP := hid (chgN hc hP.out); replace hQ := hid (chgN hc hQ.out)
      replace hC := hC.trans hc
      have hs_13 := hc.size
      clear hc 
      go_wp2_with fail
      refine (refHas_chg (xs := andL xs ys) (x := x) hP.out (r := true) (by have := mem_and HRA.out HRB.out (z := x); have h1 := HA1.out; have h2 := HB1.out; simp_all)).mono ?_
      rintro e w_14 ⟨rfl, hc⟩
      replace hA := hid (chgN hc hA.out); replace hB := hid (chgN hc hB.out); replace hP := hid (chgN hc hP.out); replace hQ := hid (chgN hc hQ.out)
      replace hC := hC.trans hc
      have hs_14 := hc.size
      clear hc 
      go_wp2_with fail
      refine (refHas_chg (xs := xs) (x := x) hA.out HA1.out).mono ?_
      rintro e w_15 ⟨rfl, hc⟩
      replace hA := hid (chgN hc hA.out); replace hB := hid (chgN hc hB.out); replace hP := hid (chgN hc hP.out); replace hQ := hid (chgN hc hQ.out)
      replace hC := hC.trans hc
      have hs_15 := hc.size
      clear hc 
      go_wp2_with fail
      refine (refHas_chg (xs := ys) (x := x) hB.out HB1.out).mono ?_
      rintro e w_16 ⟨rfl, hc⟩
      replace hA := hid (chgN hc hA.out); replace hB := hid (chgN hc hB.out); replace hP := hid (chgN hc hP.out); replace hQ := hid (chgN hc hQ.out)
      replace hC := hC.trans hc
      have hs_16 := hc.size
      clear hc 
      go_wp2_with fail
      refine (refHas_chg (xs := orL xs ys) (x := x) hQ.out (r := true) (by have := mem_or HRA.out HRB.out (z := x); have h1 := HA1.out; have h2 := HB1.out; simp_all)).mono ?_
      rintro e w_17 ⟨rfl, hc⟩
      replace hA := hid (chgN hc hA.out); replace hB := hid (chgN hc hB.out); replace hP := hid (chgN hc hP.out); replace hQ := hid (chgN hc hQ.out)
      replace hC := hC.trans hc
      have hs_17 := hc.size
      clear hc 
      go_wp2_with fail
      refine (refHas_chg (xs := xs) (x := x) hA.out HA1.out).mono ?_
      rintro e w_18 ⟨rfl, hc⟩
      replace hA := hid (chgN hc hA.out); replace hB := hid (chgN hc hB.out); replace hP := hid (chgN hc hP.out); replace hQ := hid (chgN hc hQ.out)
      replace hC := hC.trans hc
      have hs_18 := hc.size
      clear hc 
      have hll := len_and_or HRA.out HRB.out
      rw [hIl.out, hJl.out] at hll
      have hll2 : (((andL xs ys).length : Int) + ((orL xs ys).length : Int) == (n : Int) + m) = true := beq_iff_eq.2 (by omega)
      clear hll
      go_wp2
      go_ret
      exact ⟨rfl, hC⟩
end Go.Proofs.Ytemfmdhgalmgnaa
