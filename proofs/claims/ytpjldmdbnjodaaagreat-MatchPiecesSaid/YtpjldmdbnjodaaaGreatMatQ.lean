/- Layer 17: the walks of MatchBest, MatchWays, MatchHits. -/
import Derived.Test.YtpjldmdbnjodaaaGreatMatP
import Derived.Test.YtpjldmdbnjodaaaGreatOpenI
namespace Go.Proofs.YtpjldmdbnjodaaaGreat
open Go.RowKit
set_option linter.unusedVariables false
set_option linter.unusedSimpArgs false
theorem best_E (xs : List Cls) (K n size : Int) : mE xs K (chooseM xs K n size) n size = if rightB xs K = true then 0 else 170 := by
  by_cases h : rightB xs K = true
  · rw [if_pos h]; exact mE_zero.2 (choose_right h)
  · rw [if_neg h]
    unfold mE admitsB
    rw [Bool.not_eq_true] at h
    rw [h]
    rfl
theorem mF_not {xs : List Cls} {K way : Int} {s : ByteArray} {size : Int} (h : ¬ mE xs K way s.size size = 0) : mF xs K way s size = [] := by unfold mF; rw [if_neg h]
theorem mF_yes {xs : List Cls} {K way : Int} {s : ByteArray} {size : Int} (h : mE xs K way s.size size = 0) : mF xs K way s size = findM xs K s := by unfold mF; rw [if_pos h]
theorem mC_not {xs : List Cls} {K way : Int} {s : ByteArray} {size : Int} (h : ¬ mEc xs K way s.size size = 0) : mC xs K way s size = [] ∧ mNc xs K way s.size size = 0 := by unfold mC mNc; rw [if_neg h, if_neg h]; exact ⟨rfl, rfl⟩
theorem mC_yes {xs : List Cls} {K way : Int} {s : ByteArray} {size : Int} (h : mEc xs K way s.size size = 0) : mC xs K way s size = countsR xs K s ∧ mE xs K way s.size size = 0 ∧ mNc xs K way s.size size = mN xs K way s.size size := by
  have h2 : mE xs K way s.size size = 0 := by
    unfold mEc at h
    split at h
    · exact h
    · cases h
  refine ⟨by unfold mC; rw [if_pos h], h2, ?_⟩
  unfold mNc mN
  rw [if_pos h, if_pos h2]
set_option maxHeartbeats 16000000 in
set_option maxRecDepth 100000 in
theorem MatchBest_walk (A : Option Addr) (l c : Nat) (xs : List Cls) (K : Int) (s : ByteArray) (size : Int) (w : World) (H : LmRow w A l c xs) (hl : xs.length = l) (hf : l * 32 ≤ 140737488351232) (hK : -9223372036854775808 ≤ K ∧ K ≤ 9223372036854775807) (hs : s.size ≤ 140737488351232) (hz1 : -9223372036854775808 ≤ size) (hz2 : size ≤ 9223372036854775807) :
    Calls Tryz.prog 5 #[.agg #[.slice A l c, .int .i64 K], .string s, .int .i64 size] w fun e w' => e = .returned (.bool true) ∧ Chg Nothing w w' := by
  have hFw := hid (fun w => few17_any A l c K s w (by omega) (by omega))
  have hw0 := hid ((Chg.refl Nothing w).alloc (.cells #[.slice A l c, .int .i64 K] 24))
  have hX := hid (Blk.new w #[.slice A l c, .int .i64 K] 24)
  have hHH := hid (fun (w' : World) (hc : Chg Nothing w w') => H.calm hc)
  have hlh := hid hl
  have hle := H.le
  have hmx := H.max
  have hC := hid hw0.out
  clear H hl
  by_cases hfew : (decide (l ≤ 100) && decide (s.size ≤ 300)) = true
  · rw [hfew] at hFw
    simp only [Bool.and_eq_true, decide_eq_true_eq] at hfew
    obtain ⟨hl1, hs1⟩ := hfew
    have hP1 := hid (fun (w' : World) (hc : Chg Nothing w w') => symFlat (matchBest_any _ A l c xs K s size w' (hHH.out w' hc) (fun _ h => h) hlh.out (by omega) (by omega)))
    have hP2 := hid (fun (w' : World) (hc : Chg Nothing w w') => symFlat (refBest17_any _ A l c xs K s size w' (hHH.out w' hc) hlh.out (by omega) (by omega)))
    have hRt := hid (fun (w' : World) (hc : Chg Nothing w w') => refRight7_any _ A l c xs K w' (hHH.out w' hc) hlh.out)
    have hbE := best_E xs K s.size size
    generalize mF xs K (chooseM xs K s.size size) s size = ys at *
    generalize mN xs K (chooseM xs K s.size size) s.size size = num at *
    generalize mE xs K (chooseM xs K s.size size) s.size size = E at *
    cases hr : rightB xs K with
    | false =>
      rw [hr] at hRt hbE
      obtain rfl : E = 170 := by rw [hbE]; rfl
      clear hbE hr
      have x0 := hX.out.cell 0 (v := .slice A l c) rfl
      have x1 := hX.out.cell 1 (v := .int .i64 K) rfl
      go_enter Tryz.func5, Tryz.ntmps5
      go_wp2_with fail
      refine (hFw.out _).mono ?_
      rintro e w5 ⟨rfl, hc5⟩
      replace hX := hid (hX.out.chg hc5 id)
      replace hC := hid (hC.out.trans hc5)
      clear hc5 x0 x1
      have x0 := hX.out.cell 0 (v := .slice A l c) rfl
      have x1 := hX.out.cell 1 (v := .int .i64 K) rfl
      go_wp2_with fail
      refine (hP1.out _ hC.out).mono ?_
      rintro e w6 ⟨A6, c6, rfl, hR6, hc6⟩
      have hO1 := hid (hR6.els.mono (G := fun _ => True) (fun _ _ _ => trivial))
      clear hR6
      replace hX := hid (hX.out.chg hc6 id)
      replace hC := hid (hC.out.trans hc6)
      clear hc6 x0 x1
      have x0 := hX.out.cell 0 (v := .slice A l c) rfl
      have x1 := hX.out.cell 1 (v := .int .i64 K) rfl
      go_wp2_with fail
      refine (hP2.out _ hC.out).mono ?_
      rintro e w7 ⟨A7, c7, rfl, hR7, hc7⟩
      replace hO1 := hid (hO1.out.chg hc7 (fun _ _ _ h => h))
      have hO2 := hid (hR7.els.mono (G := fun _ => True) (fun _ _ _ => trivial))
      clear hR7
      replace hX := hid (hX.out.chg hc7 id)
      replace hC := hid (hC.out.trans hc7)
      clear hc7 x0 x1
      have x0 := hX.out.cell 0 (v := .slice A l c) rfl
      have x1 := hX.out.cell 1 (v := .int .i64 K) rfl
      go_wp2_with fail
      refine (alive17 _).mono ?_
      rintro e w8 ⟨rfl, hc8⟩
      replace hO1 := hid (hO1.out.chg hc8 (fun _ _ _ h => h))
      replace hO2 := hid (hO2.out.chg hc8 (fun _ _ _ h => h))
      replace hX := hid (hX.out.chg hc8 id)
      replace hC := hid (hC.out.trans hc8)
      clear hc8 x0 x1
      have x0 := hX.out.cell 0 (v := .slice A l c) rfl
      have x1 := hX.out.cell 1 (v := .int .i64 K) rfl
      go_wp2_with fail
      refine (same_intsM hO1.out hO2.out).mono ?_
      rintro e w9 ⟨rfl, hc9⟩
      replace hO1 := hid (hO1.out.chg hc9 (fun _ _ _ h => h))
      replace hO2 := hid (hO2.out.chg hc9 (fun _ _ _ h => h))
      replace hX := hid (hX.out.chg hc9 id)
      replace hC := hid (hC.out.trans hc9)
      clear hc9 x0 x1
      have x0 := hX.out.cell 0 (v := .slice A l c) rfl
      have x1 := hX.out.cell 1 (v := .int .i64 K) rfl
      go_wp2_with fail
      refine (hRt.out _ hC.out).mono ?_
      rintro e w10 ⟨rfl, hc10⟩
      replace hO1 := hid (hO1.out.chg hc10 (fun _ _ _ h => h))
      replace hO2 := hid (hO2.out.chg hc10 (fun _ _ _ h => h))
      replace hX := hid (hX.out.chg hc10 id)
      replace hC := hid (hC.out.trans hc10)
      clear hc10 x0 x1
      have x0 := hX.out.cell 0 (v := .slice A l c) rfl
      have x1 := hX.out.cell 1 (v := .int .i64 K) rfl
      go_wp2
      go_ret
      exact ⟨rfl, hC.out⟩
    | true =>
      rw [hr] at hRt hbE
      obtain rfl : E = 0 := by rw [hbE]; rfl
      clear hbE hr
      have x0 := hX.out.cell 0 (v := .slice A l c) rfl
      have x1 := hX.out.cell 1 (v := .int .i64 K) rfl
      go_enter Tryz.func5, Tryz.ntmps5
      go_wp2_with fail
      refine (hFw.out _).mono ?_
      rintro e w5 ⟨rfl, hc5⟩
      replace hX := hid (hX.out.chg hc5 id)
      replace hC := hid (hC.out.trans hc5)
      clear hc5 x0 x1
      have x0 := hX.out.cell 0 (v := .slice A l c) rfl
      have x1 := hX.out.cell 1 (v := .int .i64 K) rfl
      go_wp2_with fail
      refine (hP1.out _ hC.out).mono ?_
      rintro e w6 ⟨A6, c6, rfl, hR6, hc6⟩
      have hO1 := hid (hR6.els.mono (G := fun _ => True) (fun _ _ _ => trivial))
      clear hR6
      replace hX := hid (hX.out.chg hc6 id)
      replace hC := hid (hC.out.trans hc6)
      clear hc6 x0 x1
      have x0 := hX.out.cell 0 (v := .slice A l c) rfl
      have x1 := hX.out.cell 1 (v := .int .i64 K) rfl
      go_wp2_with fail
      refine (hP2.out _ hC.out).mono ?_
      rintro e w7 ⟨A7, c7, rfl, hR7, hc7⟩
      replace hO1 := hid (hO1.out.chg hc7 (fun _ _ _ h => h))
      have hO2 := hid (hR7.els.mono (G := fun _ => True) (fun _ _ _ => trivial))
      clear hR7
      replace hX := hid (hX.out.chg hc7 id)
      replace hC := hid (hC.out.trans hc7)
      clear hc7 x0 x1
      have x0 := hX.out.cell 0 (v := .slice A l c) rfl
      have x1 := hX.out.cell 1 (v := .int .i64 K) rfl
      go_wp2_with fail
      refine (alive17 _).mono ?_
      rintro e w8 ⟨rfl, hc8⟩
      replace hO1 := hid (hO1.out.chg hc8 (fun _ _ _ h => h))
      replace hO2 := hid (hO2.out.chg hc8 (fun _ _ _ h => h))
      replace hX := hid (hX.out.chg hc8 id)
      replace hC := hid (hC.out.trans hc8)
      clear hc8 x0 x1
      have x0 := hX.out.cell 0 (v := .slice A l c) rfl
      have x1 := hX.out.cell 1 (v := .int .i64 K) rfl
      go_wp2_with fail
      refine (same_intsM hO1.out hO2.out).mono ?_
      rintro e w9 ⟨rfl, hc9⟩
      replace hO1 := hid (hO1.out.chg hc9 (fun _ _ _ h => h))
      replace hO2 := hid (hO2.out.chg hc9 (fun _ _ _ h => h))
      replace hX := hid (hX.out.chg hc9 id)
      replace hC := hid (hC.out.trans hc9)
      clear hc9 x0 x1
      have x0 := hX.out.cell 0 (v := .slice A l c) rfl
      have x1 := hX.out.cell 1 (v := .int .i64 K) rfl
      go_wp2_with fail
      refine (hRt.out _ hC.out).mono ?_
      rintro e w10 ⟨rfl, hc10⟩
      replace hO1 := hid (hO1.out.chg hc10 (fun _ _ _ h => h))
      replace hO2 := hid (hO2.out.chg hc10 (fun _ _ _ h => h))
      replace hX := hid (hX.out.chg hc10 id)
      replace hC := hid (hC.out.trans hc10)
      clear hc10 x0 x1
      have x0 := hX.out.cell 0 (v := .slice A l c) rfl
      have x1 := hX.out.cell 1 (v := .int .i64 K) rfl
      go_wp2
      go_ret
      exact ⟨rfl, hC.out⟩
  · have hfb : (decide (l ≤ 100) && decide (s.size ≤ 300)) = false := by simpa using hfew
    rw [hfb] at hFw
    clear hfew
    have x0 := hX.out.cell 0 (v := .slice A l c) rfl
    have x1 := hX.out.cell 1 (v := .int .i64 K) rfl
    go_enter Tryz.func5, Tryz.ntmps5
    go_wp2_with fail
    refine (hFw.out _).mono ?_
    rintro e w5 ⟨rfl, hc5⟩
    replace hX := hid (hX.out.chg hc5 id)
    replace hC := hid (hC.out.trans hc5)
    clear hc5 x0 x1
    have x0 := hX.out.cell 0 (v := .slice A l c) rfl
    have x1 := hX.out.cell 1 (v := .int .i64 K) rfl
    go_wp2_with fail
    refine (alive17 _).mono ?_
    rintro e w6 ⟨rfl, hc6⟩
    replace hX := hid (hX.out.chg hc6 id)
    replace hC := hid (hC.out.trans hc6)
    clear hc6 x0 x1
    have x0 := hX.out.cell 0 (v := .slice A l c) rfl
    have x1 := hX.out.cell 1 (v := .int .i64 K) rfl
    go_wp2
    go_ret
    exact ⟨rfl, hC.out⟩
set_option maxHeartbeats 16000000 in
set_option maxRecDepth 100000 in
theorem MatchWays_walk (A : Option Addr) (l c : Nat) (xs : List Cls) (K : Int) (s : ByteArray) (wa sa wb sb : Int) (w : World) (H : LmRow w A l c xs) (hl : xs.length = l) (hf : l * 32 ≤ 140737488351232) (hK : -9223372036854775808 ≤ K ∧ K ≤ 9223372036854775807) (hs : s.size ≤ 140737488351232) (hz : (I64 wa ∧ I64 sa) ∧ I64 wb ∧ I64 sb) :
    Calls Tryz.prog 6 #[.agg #[.slice A l c, .int .i64 K], .string s, .agg #[.int .i64 wa, .int .i64 sa, .int .i64 wb, .int .i64 sb]] w fun e w' => e = .returned (.bool true) ∧ Chg Nothing w w' := by
  have hFw := hid (fun w => few17_any A l c K s w (by omega) (by omega))
  have hw0 := hid (((Chg.refl Nothing w).alloc (.cells #[.slice A l c, .int .i64 K] 24)).alloc (.cells #[.int .i64 wa, .int .i64 sa, .int .i64 wb, .int .i64 sb] 38))
  have hX := hid ((Blk.new w #[.slice A l c, .int .i64 K] 24).alloc (.cells #[.int .i64 wa, .int .i64 sa, .int .i64 wb, .int .i64 sb] 38))
  have hU := Blk.new (w.alloc (.cells #[.slice A l c, .int .i64 K] 24)) #[.int .i64 wa, .int .i64 sa, .int .i64 wb, .int .i64 sb] 38
  rw [World.size_alloc] at hU
  replace hU := hid hU
  have hHH := hid (fun (w' : World) (hc : Chg Nothing w w') => H.calm hc)
  have hlh := hid hl
  have hle := H.le
  have hmx := H.max
  have hC := hid hw0.out
  clear H hl
  by_cases hfew : (decide (l ≤ 100) && decide (s.size ≤ 300)) = true
  · rw [hfew] at hFw
    simp only [Bool.and_eq_true, decide_eq_true_eq] at hfew
    obtain ⟨hl1, hs1⟩ := hfew
    have hP1 := hid (fun (w' : World) (hc : Chg Nothing w w') => symFlat (matchFind_any _ A l c xs K wa s sa w' (hHH.out w' hc) (fun _ h => h) hlh.out (by omega) (by omega)))
    have hP2 := hid (fun (w' : World) (hc : Chg Nothing w w') => symFlat (matchFind_any _ A l c xs K wb s sb w' (hHH.out w' hc) (fun _ h => h) hlh.out (by omega) (by omega)))
    generalize mN xs K wa s.size sa = num1 at *
    generalize mN xs K wb s.size sb = num2 at *
    by_cases h1 : mE xs K wa s.size sa = 0
    · rw [mF_yes h1, h1] at hP1
      by_cases h2 : mE xs K wb s.size sb = 0
      · rw [mF_yes h2, h2] at hP2
        generalize findM xs K s = ys at hP1 hP2
        clear h1 h2
        have x0 := hX.out.cell 0 (v := .slice A l c) rfl
        have x1 := hX.out.cell 1 (v := .int .i64 K) rfl
        have u0 := hU.out.cell 0 (v := .int .i64 wa) rfl
        have u1 := hU.out.cell 1 (v := .int .i64 sa) rfl
        have u2 := hU.out.cell 2 (v := .int .i64 wb) rfl
        have u3 := hU.out.cell 3 (v := .int .i64 sb) rfl
        go_enter Tryz.func6, Tryz.ntmps6
        go_wp2_with fail
        refine (hFw.out _).mono ?_
        rintro e w5 ⟨rfl, hc5⟩
        replace hX := hid (hX.out.chg hc5 id)
        replace hU := hid (hU.out.chg hc5 id)
        replace hC := hid (hC.out.trans hc5)
        clear hc5 x0 x1 u0 u1 u2 u3
        have x0 := hX.out.cell 0 (v := .slice A l c) rfl
        have x1 := hX.out.cell 1 (v := .int .i64 K) rfl
        have u0 := hU.out.cell 0 (v := .int .i64 wa) rfl
        have u1 := hU.out.cell 1 (v := .int .i64 sa) rfl
        have u2 := hU.out.cell 2 (v := .int .i64 wb) rfl
        have u3 := hU.out.cell 3 (v := .int .i64 sb) rfl
        go_wp2_with fail
        refine (hP1.out _ hC.out).mono ?_
        rintro e w6 ⟨A6, c6, rfl, hR6, hc6⟩
        have hO1 := hid (hR6.els.mono (G := fun _ => True) (fun _ _ _ => trivial))
        clear hR6
        replace hX := hid (hX.out.chg hc6 id)
        replace hU := hid (hU.out.chg hc6 id)
        replace hC := hid (hC.out.trans hc6)
        clear hc6 x0 x1 u0 u1 u2 u3
        have x0 := hX.out.cell 0 (v := .slice A l c) rfl
        have x1 := hX.out.cell 1 (v := .int .i64 K) rfl
        have u0 := hU.out.cell 0 (v := .int .i64 wa) rfl
        have u1 := hU.out.cell 1 (v := .int .i64 sa) rfl
        have u2 := hU.out.cell 2 (v := .int .i64 wb) rfl
        have u3 := hU.out.cell 3 (v := .int .i64 sb) rfl
        go_wp2_with fail
        refine (hP2.out _ hC.out).mono ?_
        rintro e w7 ⟨A7, c7, rfl, hR7, hc7⟩
        replace hO1 := hid (hO1.out.chg hc7 (fun _ _ _ h => h))
        have hO2 := hid (hR7.els.mono (G := fun _ => True) (fun _ _ _ => trivial))
        clear hR7
        replace hX := hid (hX.out.chg hc7 id)
        replace hU := hid (hU.out.chg hc7 id)
        replace hC := hid (hC.out.trans hc7)
        clear hc7 x0 x1 u0 u1 u2 u3
        have x0 := hX.out.cell 0 (v := .slice A l c) rfl
        have x1 := hX.out.cell 1 (v := .int .i64 K) rfl
        have u0 := hU.out.cell 0 (v := .int .i64 wa) rfl
        have u1 := hU.out.cell 1 (v := .int .i64 sa) rfl
        have u2 := hU.out.cell 2 (v := .int .i64 wb) rfl
        have u3 := hU.out.cell 3 (v := .int .i64 sb) rfl
        go_wp2_with fail
        refine (alive17 _).mono ?_
        rintro e w8 ⟨rfl, hc8⟩
        replace hO1 := hid (hO1.out.chg hc8 (fun _ _ _ h => h))
        replace hO2 := hid (hO2.out.chg hc8 (fun _ _ _ h => h))
        replace hX := hid (hX.out.chg hc8 id)
        replace hU := hid (hU.out.chg hc8 id)
        replace hC := hid (hC.out.trans hc8)
        clear hc8 x0 x1 u0 u1 u2 u3
        have x0 := hX.out.cell 0 (v := .slice A l c) rfl
        have x1 := hX.out.cell 1 (v := .int .i64 K) rfl
        have u0 := hU.out.cell 0 (v := .int .i64 wa) rfl
        have u1 := hU.out.cell 1 (v := .int .i64 sa) rfl
        have u2 := hU.out.cell 2 (v := .int .i64 wb) rfl
        have u3 := hU.out.cell 3 (v := .int .i64 sb) rfl
        go_wp2_with fail
        refine (same_intsM hO1.out hO2.out).mono ?_
        rintro e w9 ⟨rfl, hc9⟩
        replace hO1 := hid (hO1.out.chg hc9 (fun _ _ _ h => h))
        replace hO2 := hid (hO2.out.chg hc9 (fun _ _ _ h => h))
        replace hX := hid (hX.out.chg hc9 id)
        replace hU := hid (hU.out.chg hc9 id)
        replace hC := hid (hC.out.trans hc9)
        clear hc9 x0 x1 u0 u1 u2 u3
        have x0 := hX.out.cell 0 (v := .slice A l c) rfl
        have x1 := hX.out.cell 1 (v := .int .i64 K) rfl
        have u0 := hU.out.cell 0 (v := .int .i64 wa) rfl
        have u1 := hU.out.cell 1 (v := .int .i64 sa) rfl
        have u2 := hU.out.cell 2 (v := .int .i64 wb) rfl
        have u3 := hU.out.cell 3 (v := .int .i64 sb) rfl
        go_wp2
        go_ret
        exact ⟨rfl, hC.out⟩
      · rw [mF_not h2] at hP2
        generalize findM xs K s = ys at hP1
        generalize mE xs K wb s.size sb = E2 at hP2 h2
        have hb2 : (E2 == 0) = false := beq_eq_false_iff_ne.2 h2
        clear h1 h2
        have x0 := hX.out.cell 0 (v := .slice A l c) rfl
        have x1 := hX.out.cell 1 (v := .int .i64 K) rfl
        have u0 := hU.out.cell 0 (v := .int .i64 wa) rfl
        have u1 := hU.out.cell 1 (v := .int .i64 sa) rfl
        have u2 := hU.out.cell 2 (v := .int .i64 wb) rfl
        have u3 := hU.out.cell 3 (v := .int .i64 sb) rfl
        go_enter Tryz.func6, Tryz.ntmps6
        go_wp2_with fail
        refine (hFw.out _).mono ?_
        rintro e w5 ⟨rfl, hc5⟩
        replace hX := hid (hX.out.chg hc5 id)
        replace hU := hid (hU.out.chg hc5 id)
        replace hC := hid (hC.out.trans hc5)
        clear hc5 x0 x1 u0 u1 u2 u3
        have x0 := hX.out.cell 0 (v := .slice A l c) rfl
        have x1 := hX.out.cell 1 (v := .int .i64 K) rfl
        have u0 := hU.out.cell 0 (v := .int .i64 wa) rfl
        have u1 := hU.out.cell 1 (v := .int .i64 sa) rfl
        have u2 := hU.out.cell 2 (v := .int .i64 wb) rfl
        have u3 := hU.out.cell 3 (v := .int .i64 sb) rfl
        go_wp2_with fail
        refine (hP1.out _ hC.out).mono ?_
        rintro e w6 ⟨A6, c6, rfl, hR6, hc6⟩
        have hO1 := hid (hR6.els.mono (G := fun _ => True) (fun _ _ _ => trivial))
        clear hR6
        replace hX := hid (hX.out.chg hc6 id)
        replace hU := hid (hU.out.chg hc6 id)
        replace hC := hid (hC.out.trans hc6)
        clear hc6 x0 x1 u0 u1 u2 u3
        have x0 := hX.out.cell 0 (v := .slice A l c) rfl
        have x1 := hX.out.cell 1 (v := .int .i64 K) rfl
        have u0 := hU.out.cell 0 (v := .int .i64 wa) rfl
        have u1 := hU.out.cell 1 (v := .int .i64 sa) rfl
        have u2 := hU.out.cell 2 (v := .int .i64 wb) rfl
        have u3 := hU.out.cell 3 (v := .int .i64 sb) rfl
        go_wp2_with fail
        refine (hP2.out _ hC.out).mono ?_
        rintro e w7 ⟨A7, c7, rfl, hR7, hc7⟩
        replace hO1 := hid (hO1.out.chg hc7 (fun _ _ _ h => h))
        have hO2 := hid (hR7.els.mono (G := fun _ => True) (fun _ _ _ => trivial))
        clear hR7
        replace hX := hid (hX.out.chg hc7 id)
        replace hU := hid (hU.out.chg hc7 id)
        replace hC := hid (hC.out.trans hc7)
        clear hc7 x0 x1 u0 u1 u2 u3
        have x0 := hX.out.cell 0 (v := .slice A l c) rfl
        have x1 := hX.out.cell 1 (v := .int .i64 K) rfl
        have u0 := hU.out.cell 0 (v := .int .i64 wa) rfl
        have u1 := hU.out.cell 1 (v := .int .i64 sa) rfl
        have u2 := hU.out.cell 2 (v := .int .i64 wb) rfl
        have u3 := hU.out.cell 3 (v := .int .i64 sb) rfl
        go_wp2_with fail
        refine (alive17 _).mono ?_
        rintro e w8 ⟨rfl, hc8⟩
        replace hO1 := hid (hO1.out.chg hc8 (fun _ _ _ h => h))
        replace hO2 := hid (hO2.out.chg hc8 (fun _ _ _ h => h))
        replace hX := hid (hX.out.chg hc8 id)
        replace hU := hid (hU.out.chg hc8 id)
        replace hC := hid (hC.out.trans hc8)
        clear hc8 x0 x1 u0 u1 u2 u3
        have x0 := hX.out.cell 0 (v := .slice A l c) rfl
        have x1 := hX.out.cell 1 (v := .int .i64 K) rfl
        have u0 := hU.out.cell 0 (v := .int .i64 wa) rfl
        have u1 := hU.out.cell 1 (v := .int .i64 sa) rfl
        have u2 := hU.out.cell 2 (v := .int .i64 wb) rfl
        have u3 := hU.out.cell 3 (v := .int .i64 sb) rfl
        go_wp2
        go_ret
        exact ⟨rfl, hC.out⟩
    · rw [mF_not h1] at hP1
      generalize mE xs K wa s.size sa = E1 at hP1 h1
      have hb1 : (E1 == 0) = false := beq_eq_false_iff_ne.2 h1
      by_cases h2 : mE xs K wb s.size sb = 0
      · rw [mF_yes h2, h2] at hP2
        generalize findM xs K s = ys at hP2
        clear h2
        have x0 := hX.out.cell 0 (v := .slice A l c) rfl
        have x1 := hX.out.cell 1 (v := .int .i64 K) rfl
        have u0 := hU.out.cell 0 (v := .int .i64 wa) rfl
        have u1 := hU.out.cell 1 (v := .int .i64 sa) rfl
        have u2 := hU.out.cell 2 (v := .int .i64 wb) rfl
        have u3 := hU.out.cell 3 (v := .int .i64 sb) rfl
        go_enter Tryz.func6, Tryz.ntmps6
        go_wp2_with fail
        refine (hFw.out _).mono ?_
        rintro e w5 ⟨rfl, hc5⟩
        replace hX := hid (hX.out.chg hc5 id)
        replace hU := hid (hU.out.chg hc5 id)
        replace hC := hid (hC.out.trans hc5)
        clear hc5 x0 x1 u0 u1 u2 u3
        have x0 := hX.out.cell 0 (v := .slice A l c) rfl
        have x1 := hX.out.cell 1 (v := .int .i64 K) rfl
        have u0 := hU.out.cell 0 (v := .int .i64 wa) rfl
        have u1 := hU.out.cell 1 (v := .int .i64 sa) rfl
        have u2 := hU.out.cell 2 (v := .int .i64 wb) rfl
        have u3 := hU.out.cell 3 (v := .int .i64 sb) rfl
        go_wp2_with fail
        refine (hP1.out _ hC.out).mono ?_
        rintro e w6 ⟨A6, c6, rfl, hR6, hc6⟩
        have hO1 := hid (hR6.els.mono (G := fun _ => True) (fun _ _ _ => trivial))
        clear hR6
        replace hX := hid (hX.out.chg hc6 id)
        replace hU := hid (hU.out.chg hc6 id)
        replace hC := hid (hC.out.trans hc6)
        clear hc6 x0 x1 u0 u1 u2 u3
        have x0 := hX.out.cell 0 (v := .slice A l c) rfl
        have x1 := hX.out.cell 1 (v := .int .i64 K) rfl
        have u0 := hU.out.cell 0 (v := .int .i64 wa) rfl
        have u1 := hU.out.cell 1 (v := .int .i64 sa) rfl
        have u2 := hU.out.cell 2 (v := .int .i64 wb) rfl
        have u3 := hU.out.cell 3 (v := .int .i64 sb) rfl
        go_wp2_with fail
        refine (hP2.out _ hC.out).mono ?_
        rintro e w7 ⟨A7, c7, rfl, hR7, hc7⟩
        replace hO1 := hid (hO1.out.chg hc7 (fun _ _ _ h => h))
        have hO2 := hid (hR7.els.mono (G := fun _ => True) (fun _ _ _ => trivial))
        clear hR7
        replace hX := hid (hX.out.chg hc7 id)
        replace hU := hid (hU.out.chg hc7 id)
        replace hC := hid (hC.out.trans hc7)
        clear hc7 x0 x1 u0 u1 u2 u3
        have x0 := hX.out.cell 0 (v := .slice A l c) rfl
        have x1 := hX.out.cell 1 (v := .int .i64 K) rfl
        have u0 := hU.out.cell 0 (v := .int .i64 wa) rfl
        have u1 := hU.out.cell 1 (v := .int .i64 sa) rfl
        have u2 := hU.out.cell 2 (v := .int .i64 wb) rfl
        have u3 := hU.out.cell 3 (v := .int .i64 sb) rfl
        go_wp2_with fail
        refine (alive17 _).mono ?_
        rintro e w8 ⟨rfl, hc8⟩
        replace hO1 := hid (hO1.out.chg hc8 (fun _ _ _ h => h))
        replace hO2 := hid (hO2.out.chg hc8 (fun _ _ _ h => h))
        replace hX := hid (hX.out.chg hc8 id)
        replace hU := hid (hU.out.chg hc8 id)
        replace hC := hid (hC.out.trans hc8)
        clear hc8 x0 x1 u0 u1 u2 u3
        have x0 := hX.out.cell 0 (v := .slice A l c) rfl
        have x1 := hX.out.cell 1 (v := .int .i64 K) rfl
        have u0 := hU.out.cell 0 (v := .int .i64 wa) rfl
        have u1 := hU.out.cell 1 (v := .int .i64 sa) rfl
        have u2 := hU.out.cell 2 (v := .int .i64 wb) rfl
        have u3 := hU.out.cell 3 (v := .int .i64 sb) rfl
        go_wp2
        go_ret
        exact ⟨rfl, hC.out⟩
      · rw [mF_not h2] at hP2
        generalize mE xs K wb s.size sb = E2 at hP2 h2
        have hb2 : (E2 == 0) = false := beq_eq_false_iff_ne.2 h2
        clear h1 h2
        have x0 := hX.out.cell 0 (v := .slice A l c) rfl
        have x1 := hX.out.cell 1 (v := .int .i64 K) rfl
        have u0 := hU.out.cell 0 (v := .int .i64 wa) rfl
        have u1 := hU.out.cell 1 (v := .int .i64 sa) rfl
        have u2 := hU.out.cell 2 (v := .int .i64 wb) rfl
        have u3 := hU.out.cell 3 (v := .int .i64 sb) rfl
        go_enter Tryz.func6, Tryz.ntmps6
        go_wp2_with fail
        refine (hFw.out _).mono ?_
        rintro e w5 ⟨rfl, hc5⟩
        replace hX := hid (hX.out.chg hc5 id)
        replace hU := hid (hU.out.chg hc5 id)
        replace hC := hid (hC.out.trans hc5)
        clear hc5 x0 x1 u0 u1 u2 u3
        have x0 := hX.out.cell 0 (v := .slice A l c) rfl
        have x1 := hX.out.cell 1 (v := .int .i64 K) rfl
        have u0 := hU.out.cell 0 (v := .int .i64 wa) rfl
        have u1 := hU.out.cell 1 (v := .int .i64 sa) rfl
        have u2 := hU.out.cell 2 (v := .int .i64 wb) rfl
        have u3 := hU.out.cell 3 (v := .int .i64 sb) rfl
        go_wp2_with fail
        refine (hP1.out _ hC.out).mono ?_
        rintro e w6 ⟨A6, c6, rfl, hR6, hc6⟩
        have hO1 := hid (hR6.els.mono (G := fun _ => True) (fun _ _ _ => trivial))
        clear hR6
        replace hX := hid (hX.out.chg hc6 id)
        replace hU := hid (hU.out.chg hc6 id)
        replace hC := hid (hC.out.trans hc6)
        clear hc6 x0 x1 u0 u1 u2 u3
        have x0 := hX.out.cell 0 (v := .slice A l c) rfl
        have x1 := hX.out.cell 1 (v := .int .i64 K) rfl
        have u0 := hU.out.cell 0 (v := .int .i64 wa) rfl
        have u1 := hU.out.cell 1 (v := .int .i64 sa) rfl
        have u2 := hU.out.cell 2 (v := .int .i64 wb) rfl
        have u3 := hU.out.cell 3 (v := .int .i64 sb) rfl
        go_wp2_with fail
        refine (hP2.out _ hC.out).mono ?_
        rintro e w7 ⟨A7, c7, rfl, hR7, hc7⟩
        replace hO1 := hid (hO1.out.chg hc7 (fun _ _ _ h => h))
        have hO2 := hid (hR7.els.mono (G := fun _ => True) (fun _ _ _ => trivial))
        clear hR7
        replace hX := hid (hX.out.chg hc7 id)
        replace hU := hid (hU.out.chg hc7 id)
        replace hC := hid (hC.out.trans hc7)
        clear hc7 x0 x1 u0 u1 u2 u3
        have x0 := hX.out.cell 0 (v := .slice A l c) rfl
        have x1 := hX.out.cell 1 (v := .int .i64 K) rfl
        have u0 := hU.out.cell 0 (v := .int .i64 wa) rfl
        have u1 := hU.out.cell 1 (v := .int .i64 sa) rfl
        have u2 := hU.out.cell 2 (v := .int .i64 wb) rfl
        have u3 := hU.out.cell 3 (v := .int .i64 sb) rfl
        go_wp2_with fail
        refine (alive17 _).mono ?_
        rintro e w8 ⟨rfl, hc8⟩
        replace hO1 := hid (hO1.out.chg hc8 (fun _ _ _ h => h))
        replace hO2 := hid (hO2.out.chg hc8 (fun _ _ _ h => h))
        replace hX := hid (hX.out.chg hc8 id)
        replace hU := hid (hU.out.chg hc8 id)
        replace hC := hid (hC.out.trans hc8)
        clear hc8 x0 x1 u0 u1 u2 u3
        have x0 := hX.out.cell 0 (v := .slice A l c) rfl
        have x1 := hX.out.cell 1 (v := .int .i64 K) rfl
        have u0 := hU.out.cell 0 (v := .int .i64 wa) rfl
        have u1 := hU.out.cell 1 (v := .int .i64 sa) rfl
        have u2 := hU.out.cell 2 (v := .int .i64 wb) rfl
        have u3 := hU.out.cell 3 (v := .int .i64 sb) rfl
        go_wp2
        go_ret
        exact ⟨rfl, hC.out⟩
  · have hfb : (decide (l ≤ 100) && decide (s.size ≤ 300)) = false := by simpa using hfew
    rw [hfb] at hFw
    clear hfew
    have x0 := hX.out.cell 0 (v := .slice A l c) rfl
    have x1 := hX.out.cell 1 (v := .int .i64 K) rfl
    have u0 := hU.out.cell 0 (v := .int .i64 wa) rfl
    have u1 := hU.out.cell 1 (v := .int .i64 sa) rfl
    have u2 := hU.out.cell 2 (v := .int .i64 wb) rfl
    have u3 := hU.out.cell 3 (v := .int .i64 sb) rfl
    go_enter Tryz.func6, Tryz.ntmps6
    go_wp2_with fail
    refine (hFw.out _).mono ?_
    rintro e w5 ⟨rfl, hc5⟩
    replace hX := hid (hX.out.chg hc5 id)
    replace hU := hid (hU.out.chg hc5 id)
    replace hC := hid (hC.out.trans hc5)
    clear hc5 x0 x1 u0 u1 u2 u3
    have x0 := hX.out.cell 0 (v := .slice A l c) rfl
    have x1 := hX.out.cell 1 (v := .int .i64 K) rfl
    have u0 := hU.out.cell 0 (v := .int .i64 wa) rfl
    have u1 := hU.out.cell 1 (v := .int .i64 sa) rfl
    have u2 := hU.out.cell 2 (v := .int .i64 wb) rfl
    have u3 := hU.out.cell 3 (v := .int .i64 sb) rfl
    go_wp2_with fail
    refine (alive17 _).mono ?_
    rintro e w6 ⟨rfl, hc6⟩
    replace hX := hid (hX.out.chg hc6 id)
    replace hU := hid (hU.out.chg hc6 id)
    replace hC := hid (hC.out.trans hc6)
    clear hc6 x0 x1 u0 u1 u2 u3
    have x0 := hX.out.cell 0 (v := .slice A l c) rfl
    have x1 := hX.out.cell 1 (v := .int .i64 K) rfl
    have u0 := hU.out.cell 0 (v := .int .i64 wa) rfl
    have u1 := hU.out.cell 1 (v := .int .i64 sa) rfl
    have u2 := hU.out.cell 2 (v := .int .i64 wb) rfl
    have u3 := hU.out.cell 3 (v := .int .i64 sb) rfl
    go_wp2
    go_ret
    exact ⟨rfl, hC.out⟩
set_option maxHeartbeats 16000000 in
set_option maxRecDepth 100000 in
theorem MatchHits_walk (A : Option Addr) (l c : Nat) (xs : List Cls) (K : Int) (s : ByteArray) (way size : Int) (w : World) (H : LmRow w A l c xs) (hl : xs.length = l) (hf : l * 32 ≤ 140737488351232) (hK : -9223372036854775808 ≤ K ∧ K ≤ 9223372036854775807) (hs : s.size ≤ 140737488351232) (hz : (-9223372036854775808 ≤ way ∧ way ≤ 9223372036854775807) ∧ -9223372036854775808 ≤ size ∧ size ≤ 9223372036854775807) :
    Calls Tryz.prog 7 #[.agg #[.slice A l c, .int .i64 K], .string s, .agg #[.int .i64 way, .int .i64 size]] w fun e w' => e = .returned (.bool true) ∧ Chg Nothing w w' := by
  have hFw := hid (fun w => few17_any A l c K s w (by omega) (by omega))
  have hw0 := hid (((Chg.refl Nothing w).alloc (.cells #[.slice A l c, .int .i64 K] 24)).alloc (.cells #[.int .i64 way, .int .i64 size] 26))
  have hX := hid ((Blk.new w #[.slice A l c, .int .i64 K] 24).alloc (.cells #[.int .i64 way, .int .i64 size] 26))
  have hU := Blk.new (w.alloc (.cells #[.slice A l c, .int .i64 K] 24)) #[.int .i64 way, .int .i64 size] 26
  rw [World.size_alloc] at hU
  replace hU := hid hU
  have hHH := hid (fun (w' : World) (hc : Chg Nothing w w') => H.calm hc)
  have hlh := hid hl
  have hle := H.le
  have hmx := H.max
  have hC := hid hw0.out
  clear H hl
  by_cases hfew : (decide (l ≤ 100) && decide (s.size ≤ 300)) = true
  · rw [hfew] at hFw
    simp only [Bool.and_eq_true, decide_eq_true_eq] at hfew
    obtain ⟨hl1, hs1⟩ := hfew
    have hP1 := hid (fun (w' : World) (hc : Chg Nothing w w') => symFlat (matchFind_any _ A l c xs K way s size w' (hHH.out w' hc) (fun _ h => h) hlh.out (by omega) (by omega)))
    have hP2 := hid (fun (w' : World) (hc : Chg Nothing w w') => symFlat (matchCounts_any _ A l c xs K way s size w' (hHH.out w' hc) (fun _ h => h) hlh.out (by omega) (by omega)))
    by_cases h1 : mEc xs K way s.size size = 0
    · obtain ⟨q1, q2, q3⟩ := mC_yes h1
      rw [mF_yes q2, q2] at hP1
      rw [q1, q3, h1] at hP2
      have hHt := hid (fun (w' : World) (A : Option Addr) (c : Nat) (h : IntsAt (fun _ => True) w' A (countsR xs K s).length c (countsR xs K s)) => (show Calls Tryz.prog 19 #[.slice A (countsR xs K s).length c, .int .i64 K] w' fun e w'' => ∃ A' c', e = .returned (.slice A' (findM xs K s).length c') ∧ IRow w'' w'.heap.size A' (findM xs K s).length c' (findM xs K s) ∧ Chg Nothing w' w'' from hits_few xs K s ▸ (refHits_any _ A _ c (countsR xs K s) K w' h (by rw [countsR_len17]; unfold sumsN; split <;> omega)).mono (fun e w'' ⟨⟨A', c', h1, h2⟩, h3⟩ => ⟨A', c', h1, h2, h3⟩)))
      generalize mN xs K way s.size size = num at hP1 hP2
      generalize findM xs K s = ys at hP1 hHt
      generalize countsR xs K s = cs at hP2 hHt
      clear h1 q1 q2 q3
      have x0 := hX.out.cell 0 (v := .slice A l c) rfl
      have x1 := hX.out.cell 1 (v := .int .i64 K) rfl
      have u0 := hU.out.cell 0 (v := .int .i64 way) rfl
      have u1 := hU.out.cell 1 (v := .int .i64 size) rfl
      go_enter Tryz.func7, Tryz.ntmps7
      go_wp2_with fail
      refine (hFw.out _).mono ?_
      rintro e w5 ⟨rfl, hc5⟩
      replace hX := hid (hX.out.chg hc5 id)
      replace hU := hid (hU.out.chg hc5 id)
      replace hC := hid (hC.out.trans hc5)
      clear hc5 x0 x1 u0 u1
      have x0 := hX.out.cell 0 (v := .slice A l c) rfl
      have x1 := hX.out.cell 1 (v := .int .i64 K) rfl
      have u0 := hU.out.cell 0 (v := .int .i64 way) rfl
      have u1 := hU.out.cell 1 (v := .int .i64 size) rfl
      go_wp2_with fail
      refine (hP1.out _ hC.out).mono ?_
      rintro e w6 ⟨A6, c6, rfl, hR6, hc6⟩
      have hO1 := hid (hR6.els.mono (G := fun _ => True) (fun _ _ _ => trivial))
      clear hR6
      replace hX := hid (hX.out.chg hc6 id)
      replace hU := hid (hU.out.chg hc6 id)
      replace hC := hid (hC.out.trans hc6)
      clear hc6 x0 x1 u0 u1
      have x0 := hX.out.cell 0 (v := .slice A l c) rfl
      have x1 := hX.out.cell 1 (v := .int .i64 K) rfl
      have u0 := hU.out.cell 0 (v := .int .i64 way) rfl
      have u1 := hU.out.cell 1 (v := .int .i64 size) rfl
      go_wp2_with fail
      refine (hP2.out _ hC.out).mono ?_
      rintro e w7 ⟨A7, c7, rfl, hR7, hc7⟩
      replace hO1 := hid (hO1.out.chg hc7 (fun _ _ _ h => h))
      have hO2 := hid (hR7.els.mono (G := fun _ => True) (fun _ _ _ => trivial))
      clear hR7
      replace hX := hid (hX.out.chg hc7 id)
      replace hU := hid (hU.out.chg hc7 id)
      replace hC := hid (hC.out.trans hc7)
      clear hc7 x0 x1 u0 u1
      have x0 := hX.out.cell 0 (v := .slice A l c) rfl
      have x1 := hX.out.cell 1 (v := .int .i64 K) rfl
      have u0 := hU.out.cell 0 (v := .int .i64 way) rfl
      have u1 := hU.out.cell 1 (v := .int .i64 size) rfl
      go_wp2_with fail
      refine (alive17 _).mono ?_
      rintro e w8 ⟨rfl, hc8⟩
      replace hO1 := hid (hO1.out.chg hc8 (fun _ _ _ h => h))
      replace hO2 := hid (hO2.out.chg hc8 (fun _ _ _ h => h))
      replace hX := hid (hX.out.chg hc8 id)
      replace hU := hid (hU.out.chg hc8 id)
      replace hC := hid (hC.out.trans hc8)
      clear hc8 x0 x1 u0 u1
      have x0 := hX.out.cell 0 (v := .slice A l c) rfl
      have x1 := hX.out.cell 1 (v := .int .i64 K) rfl
      have u0 := hU.out.cell 0 (v := .int .i64 way) rfl
      have u1 := hU.out.cell 1 (v := .int .i64 size) rfl
      go_wp2_with fail
      refine (hHt.out _ _ _ hO2.out).mono ?_
      rintro e w9 ⟨A9, c9, rfl, hR9, hc9⟩
      replace hO1 := hid (hO1.out.chg hc9 (fun _ _ _ h => h))
      replace hO2 := hid (hO2.out.chg hc9 (fun _ _ _ h => h))
      have hO3 := hid (hR9.els.mono (G := fun _ => True) (fun _ _ _ => trivial))
      clear hR9
      replace hX := hid (hX.out.chg hc9 id)
      replace hU := hid (hU.out.chg hc9 id)
      replace hC := hid (hC.out.trans hc9)
      clear hc9 x0 x1 u0 u1
      have x0 := hX.out.cell 0 (v := .slice A l c) rfl
      have x1 := hX.out.cell 1 (v := .int .i64 K) rfl
      have u0 := hU.out.cell 0 (v := .int .i64 way) rfl
      have u1 := hU.out.cell 1 (v := .int .i64 size) rfl
      go_wp2_with fail
      refine (same_intsM hO1.out hO3.out).mono ?_
      rintro e w10 ⟨rfl, hc10⟩
      replace hO1 := hid (hO1.out.chg hc10 (fun _ _ _ h => h))
      replace hO2 := hid (hO2.out.chg hc10 (fun _ _ _ h => h))
      replace hO3 := hid (hO3.out.chg hc10 (fun _ _ _ h => h))
      replace hX := hid (hX.out.chg hc10 id)
      replace hU := hid (hU.out.chg hc10 id)
      replace hC := hid (hC.out.trans hc10)
      clear hc10 x0 x1 u0 u1
      have x0 := hX.out.cell 0 (v := .slice A l c) rfl
      have x1 := hX.out.cell 1 (v := .int .i64 K) rfl
      have u0 := hU.out.cell 0 (v := .int .i64 way) rfl
      have u1 := hU.out.cell 1 (v := .int .i64 size) rfl
      go_wp2
      go_ret
      exact ⟨rfl, hC.out⟩
    · obtain ⟨q1, q2⟩ := mC_not h1
      rw [q1, q2] at hP2
      generalize mEc xs K way s.size size = E at hP2 h1
      have hb1 : (E == 0) = false := beq_eq_false_iff_ne.2 h1
      generalize mN xs K way s.size size = num at hP1
      generalize mF xs K way s size = ys at hP1
      generalize mE xs K way s.size size = E1 at hP1
      clear h1 q1 q2
      have x0 := hX.out.cell 0 (v := .slice A l c) rfl
      have x1 := hX.out.cell 1 (v := .int .i64 K) rfl
      have u0 := hU.out.cell 0 (v := .int .i64 way) rfl
      have u1 := hU.out.cell 1 (v := .int .i64 size) rfl
      go_enter Tryz.func7, Tryz.ntmps7
      go_wp2_with fail
      refine (hFw.out _).mono ?_
      rintro e w5 ⟨rfl, hc5⟩
      replace hX := hid (hX.out.chg hc5 id)
      replace hU := hid (hU.out.chg hc5 id)
      replace hC := hid (hC.out.trans hc5)
      clear hc5 x0 x1 u0 u1
      have x0 := hX.out.cell 0 (v := .slice A l c) rfl
      have x1 := hX.out.cell 1 (v := .int .i64 K) rfl
      have u0 := hU.out.cell 0 (v := .int .i64 way) rfl
      have u1 := hU.out.cell 1 (v := .int .i64 size) rfl
      go_wp2_with fail
      refine (hP1.out _ hC.out).mono ?_
      rintro e w6 ⟨A6, c6, rfl, hR6, hc6⟩
      have hO1 := hid (hR6.els.mono (G := fun _ => True) (fun _ _ _ => trivial))
      clear hR6
      replace hX := hid (hX.out.chg hc6 id)
      replace hU := hid (hU.out.chg hc6 id)
      replace hC := hid (hC.out.trans hc6)
      clear hc6 x0 x1 u0 u1
      have x0 := hX.out.cell 0 (v := .slice A l c) rfl
      have x1 := hX.out.cell 1 (v := .int .i64 K) rfl
      have u0 := hU.out.cell 0 (v := .int .i64 way) rfl
      have u1 := hU.out.cell 1 (v := .int .i64 size) rfl
      go_wp2_with fail
      refine (hP2.out _ hC.out).mono ?_
      rintro e w7 ⟨A7, c7, rfl, hR7, hc7⟩
      replace hO1 := hid (hO1.out.chg hc7 (fun _ _ _ h => h))
      have hO2 := hid (hR7.els.mono (G := fun _ => True) (fun _ _ _ => trivial))
      clear hR7
      replace hX := hid (hX.out.chg hc7 id)
      replace hU := hid (hU.out.chg hc7 id)
      replace hC := hid (hC.out.trans hc7)
      clear hc7 x0 x1 u0 u1
      have x0 := hX.out.cell 0 (v := .slice A l c) rfl
      have x1 := hX.out.cell 1 (v := .int .i64 K) rfl
      have u0 := hU.out.cell 0 (v := .int .i64 way) rfl
      have u1 := hU.out.cell 1 (v := .int .i64 size) rfl
      go_wp2_with fail
      refine (alive17 _).mono ?_
      rintro e w8 ⟨rfl, hc8⟩
      replace hO1 := hid (hO1.out.chg hc8 (fun _ _ _ h => h))
      replace hO2 := hid (hO2.out.chg hc8 (fun _ _ _ h => h))
      replace hX := hid (hX.out.chg hc8 id)
      replace hU := hid (hU.out.chg hc8 id)
      replace hC := hid (hC.out.trans hc8)
      clear hc8 x0 x1 u0 u1
      have x0 := hX.out.cell 0 (v := .slice A l c) rfl
      have x1 := hX.out.cell 1 (v := .int .i64 K) rfl
      have u0 := hU.out.cell 0 (v := .int .i64 way) rfl
      have u1 := hU.out.cell 1 (v := .int .i64 size) rfl
      go_wp2
      go_ret
      exact ⟨rfl, hC.out⟩
  · have hfb : (decide (l ≤ 100) && decide (s.size ≤ 300)) = false := by simpa using hfew
    rw [hfb] at hFw
    clear hfew
    have x0 := hX.out.cell 0 (v := .slice A l c) rfl
    have x1 := hX.out.cell 1 (v := .int .i64 K) rfl
    have u0 := hU.out.cell 0 (v := .int .i64 way) rfl
    have u1 := hU.out.cell 1 (v := .int .i64 size) rfl
    go_enter Tryz.func7, Tryz.ntmps7
    go_wp2_with fail
    refine (hFw.out _).mono ?_
    rintro e w5 ⟨rfl, hc5⟩
    replace hX := hid (hX.out.chg hc5 id)
    replace hU := hid (hU.out.chg hc5 id)
    replace hC := hid (hC.out.trans hc5)
    clear hc5 x0 x1 u0 u1
    have x0 := hX.out.cell 0 (v := .slice A l c) rfl
    have x1 := hX.out.cell 1 (v := .int .i64 K) rfl
    have u0 := hU.out.cell 0 (v := .int .i64 way) rfl
    have u1 := hU.out.cell 1 (v := .int .i64 size) rfl
    go_wp2_with fail
    refine (alive17 _).mono ?_
    rintro e w6 ⟨rfl, hc6⟩
    replace hX := hid (hX.out.chg hc6 id)
    replace hU := hid (hU.out.chg hc6 id)
    replace hC := hid (hC.out.trans hc6)
    clear hc6 x0 x1 u0 u1
    have x0 := hX.out.cell 0 (v := .slice A l c) rfl
    have x1 := hX.out.cell 1 (v := .int .i64 K) rfl
    have u0 := hU.out.cell 0 (v := .int .i64 way) rfl
    have u1 := hU.out.cell 1 (v := .int .i64 size) rfl
    go_wp2
    go_ret
    exact ⟨rfl, hC.out⟩
end Go.Proofs.YtpjldmdbnjodaaaGreat
