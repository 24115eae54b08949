/- Layer 15: the law SetOne. -/
import Derived.Test.YtemfmdhgalmgnaaSetI
namespace Go.Proofs.Ytemfmdhgalmgnaa
open Go.RowKit
set_option linter.unusedVariables false
set_option maxHeartbeats 2000000 in
theorem SetOne_walk (A : Option Addr) (n c : Nat) (xs : List Int) (x : Int) (w : World) (hI : IntsAt (fun k => k < w.heap.size) w A n c xs) (hn : n * 8 ≤ 140737488351232) (hxs : ∀ z ∈ xs, -9223372036854775808 ≤ z ∧ z ≤ 9223372036854775807) (hx1 : -9223372036854775808 ≤ x) (hx2 : x ≤ 9223372036854775807) :
    Calls Try.prog 5 #[.slice A n c, .int .i64 x] w fun e w' => e = .returned (.bool true) ∧ Chg Nothing w w' := by
  have hIl := hid hI.2.2.2.1
  have hA := hid (show IntsAt (Lt w.heap.size) w A n c xs from hI); clear hI
  have hZ := hid (fun z hz => (hxs z hz).2 : ∀ z ∈ xs, z ≤ 9223372036854775807); clear hxs
  have hC := Chg.refl Nothing w
  by_cases hf : (n : Int) ≤ 200
  · go_enter Try.func5, Try.ntmps5
    go_wp2_with fail
    refine (fewS_yes A n c w hf).mono ?_
    rintro e w' ⟨rfl, rfl⟩
    have hq := chgN ((Chg.refl Nothing w).alloc (.cells #[] 3)) hA.out
    go_wp2_with (at_builtin; refine append_gen (o := ⟨some 15, _, _, _, _, _⟩) rfl _ _ 22 rfl w.heap.size 3 (.int .i64 0) 1 8 Try.underlying22 infoI rfl (by decide) _ 0 0 [] rfl (World.ownsRow_made w #[] 0 (Nat.le_refl _) (by unfold maxLen; omega) rfl) A n c (xs.map (Value.int .i64)) rfl ?_ ?_ ?_ ?_ (nums_one _ _) ?_ ?_ ?_ ?_)
    · rw [List.length_map, hIl.out]; omega
    · exact hA.out.1
    · exact hA.out.2.1
    · exact hq.cells'
    · unfold maxLen; omega
    · omega
    · rw [World.size_alloc]; exact Nat.le_succ _
    intro X_1 c_1 w_1 hown hc1
    intros
    have hc : Chg Nothing w w_1 := ((Chg.refl Nothing w).alloc (.cells #[] 3)).then hc1 (fun k hk ⟨a, e, hk'⟩ => by injection e with e; subst e; simp only at hk'; omega)
    have hG := hid ((ElsAt.of_own (enc := Value.int .i64) (d := (0 : Int)) (xs := xs) (by simpa using hown)).mono (G := Lt w_1.heap.size) (fun k hk _ => hk))
    replace hA := hid (chgN hc hA.out)
    replace hC := hC.trans hc
    have hs_1 := hc.size
    clear hc hc1 hown hq
    go_wp2_with fail
    refine (setNot_any _ _ _ _ xs x _ hA.out (ltF (by omega))).mono ?_
    rintro e w_2 ⟨hg, hc⟩
    obtain ⟨X_2, c_2, rfl, hX⟩ := hg.out
    replace hX := hX.mono (G := Lt w_2.heap.size) (fun k hk _ => hk)
    replace hA := hid (chgN hc hA.out); replace hG := hid (chgN hc hG.out)
    replace hC := hC.trans hc
    have hs_2 := hc.size
    clear hc hg 
    replace hX := hid hX
    go_wp2_with fail
    refine (setShift_any _ _ _ _ xs x _ hA.out (ltF (by omega)) (by omega) (by omega) hZ.out).mono ?_
    rintro e w_3 ⟨hg, hc⟩
    obtain ⟨X_3, c_3, rfl, hY⟩ := hg.out
    replace hY := hY.mono (G := Lt w_3.heap.size) (fun k hk _ => hk)
    replace hA := hid (chgN hc hA.out); replace hG := hid (chgN hc hG.out); replace hX := hid (chgN hc hX.out)
    replace hC := hC.trans hc
    have hs_3 := hc.size
    clear hc hg 
    replace hY := hid hY
    go_wp2_with fail
    refine (setBelow_any _ _ _ _ xs x _ hA.out (ltF (by omega)) (by omega)).mono ?_
    rintro e w_4 ⟨hg, hc⟩
    obtain ⟨X_4, c_4, rfl, hW⟩ := hg.out
    replace hW := hW.mono (G := Lt w_4.heap.size) (fun k hk _ => hk)
    replace hA := hid (chgN hc hA.out); replace hG := hid (chgN hc hG.out); replace hX := hid (chgN hc hX.out); replace hY := hid (chgN hc hY.out)
    replace hC := hC.trans hc
    have hs_4 := hc.size
    clear hc hg 
    replace hW := hid hW
    go_wp2_with fail
    refine (aliveS _).mono ?_
    rintro e w_5 ⟨rfl, hc⟩
    replace hA := hid (chgN hc hA.out); replace hG := hid (chgN hc hG.out); replace hX := hid (chgN hc hX.out); replace hY := hid (chgN hc hY.out); replace hW := hid (chgN hc hW.out)
    replace hC := hC.trans hc
    have hs_5 := hc.size
    clear hc 
    go_wp2_with fail
    refine (refNot_any _ _ _ _ xs x _ hA.out (by omega)).mono ?_
    rintro e w_6 ⟨hg, hc⟩
    obtain ⟨X_6, c_6, rfl, hX2⟩ := hg.out
    replace hX2 := hX2.mono (G := Lt w_6.heap.size) (fun k hk _ => hk)
    replace hA := hid (chgN hc hA.out); replace hG := hid (chgN hc hG.out); replace hX := hid (chgN hc hX.out); replace hY := hid (chgN hc hY.out); replace hW := hid (chgN hc hW.out)
    replace hC := hC.trans hc
    have hs_6 := hc.size
    clear hc hg 
    replace hX2 := hid hX2
    go_wp2_with fail
    refine (places_yes hX.out hX2.out rfl).mono ?_
    rintro e w_7 ⟨rfl, hc⟩
    replace hA := hid (chgN hc hA.out); replace hG := hid (chgN hc hG.out); replace hY := hid (chgN hc hY.out); replace hW := hid (chgN hc hW.out)
    replace hC := hC.trans hc
    have hs_7 := hc.size
    clear hc hX hX2
    go_wp2_with fail
    refine (refShift_any _ _ _ _ xs x _ hA.out (by omega) (by omega) hZ.out).mono ?_
    rintro e w_8 ⟨hg, hc⟩
    obtain ⟨X_8, c_8, rfl, hY2⟩ := hg.out
    replace hY2 := hY2.mono (G := Lt w_8.heap.size) (fun k hk _ => hk)
    replace hA := hid (chgN hc hA.out); replace hG := hid (chgN hc hG.out); replace hY := hid (chgN hc hY.out); replace hW := hid (chgN hc hW.out)
    replace hC := hC.trans hc
    have hs_8 := hc.size
    clear hc hg 
    replace hY2 := hid hY2
    go_wp2_with fail
    refine (places_yes hY.out hY2.out (shiftR_eq xs x).symm).mono ?_
    rintro e w_9 ⟨rfl, hc⟩
    replace hA := hid (chgN hc hA.out); replace hG := hid (chgN hc hG.out); replace hW := hid (chgN hc hW.out)
    replace hC := hC.trans hc
    have hs_9 := hc.size
    clear hc hY hY2
    go_wp2_with fail
    refine (refBelow_any _ _ _ _ xs x _ hA.out (by omega)).mono ?_
    rintro e w_10 ⟨hg, hc⟩
    obtain ⟨X_10, c_10, rfl, hW2⟩ := hg.out
    replace hW2 := hW2.mono (G := Lt w_10.heap.size) (fun k hk _ => hk)
    replace hA := hid (chgN hc hA.out); replace hG := hid (chgN hc hG.out); replace hW := hid (chgN hc hW.out)
    replace hC := hC.trans hc
    have hs_10 := hc.size
    clear hc hg 
    replace hW2 := hid hW2
    go_wp2_with fail
    refine (places_yes hW.out hW2.out (belowR_eq xs x).symm).mono ?_
    rintro e w_11 ⟨rfl, hc⟩
    replace hA := hid (chgN hc hA.out); replace hG := hid (chgN hc hG.out)
    replace hC := hC.trans hc
    have hs_11 := hc.size
    clear hc hW hW2
    go_wp2_with fail
    refine (places_yes hA.out hG.out rfl).mono ?_
    rintro e w_12 ⟨rfl, hc⟩
    replace hC := hC.trans hc
    have hs_12 := hc.size
    clear hc hA hG
    go_wp2
    go_ret
    exact ⟨rfl, hC⟩
  · have hf' : (200 : Int) < n := by omega
    clear hf
    go_enter Try.func5, Try.ntmps5
    go_wp2_with fail
    refine (fewS_no A n c w hf').mono ?_
    rintro e w' ⟨rfl, rfl⟩
    go_wp2_with fail
    refine (aliveS w).mono ?_
    rintro e w1 ⟨rfl, hc1⟩
    go_wp2
    go_ret
    exact ⟨rfl, hc1⟩
end Go.Proofs.Ytemfmdhgalmgnaa
