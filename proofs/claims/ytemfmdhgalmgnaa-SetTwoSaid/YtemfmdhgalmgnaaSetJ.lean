/- Layer 15: the law SetTwo. -/
import Derived.Test.YtemfmdhgalmgnaaSetI
namespace Go.Proofs.Ytemfmdhgalmgnaa
open Go.RowKit
set_option linter.unusedVariables false
theorem ReadInts.get {F : Nat → Prop} {w : World} {e : Ending} {xs : List Int} (h : ReadInts F w e xs) : ∃ A n c, e = .returned (.slice A n c) ∧ IntsAt F w A n c xs := h

set_option maxHeartbeats 2000000 in
theorem SetTwo_walk (A : Option Addr) (n c : Nat) (xs : List Int) (B : Option Addr) (m d : Nat) (ys : List Int) (w : World) (hI : IntsAt (fun k => k < w.heap.size) w A n c xs) (hn : n * 8 ≤ 140737488351232) (hxs : ∀ x ∈ xs, -9223372036854775808 ≤ x ∧ x ≤ 9223372036854775807) (hJ : IntsAt (fun k => k < w.heap.size) w B m d ys) (hm : m * 8 ≤ 140737488351232) (hys : ∀ x ∈ ys, -9223372036854775808 ≤ x ∧ x ≤ 9223372036854775807) :
    Calls Try.prog 4 #[.slice A n c, .slice B m d] w fun e w' => e = .returned (.bool true) ∧ Chg Nothing w w' := by
  have hIl := hid hI.2.2.2.1
  have hJl := hid hJ.2.2.2.1
  have HI := hid (show IntsAt (Lt w.heap.size) w A n c xs from hI); clear hI
  have HJ := hid (show IntsAt (Lt w.heap.size) w B m d ys from hJ); clear hJ
  clear hxs hys
  by_cases hf : (n : Int) ≤ 200
  · by_cases hf2 : (m : Int) ≤ 200
    · go_enter Try.func4, Try.ntmps4
      go_wp2_with fail
      refine (fewS_yes A n c w hf).mono ?_
      rintro e w' ⟨rfl, rfl⟩
      go_wp2_with fail
      refine (fewS_yes B m d w hf2).mono ?_
      rintro e w' ⟨rfl, rfl⟩
      have hI1 := chgN ((Chg.refl Nothing w).alloc (.cells #[] 3)) HI.out
      go_wp2_with (at_builtin; refine append_gen (o := ⟨some 20, _, _, _, _, _⟩) rfl _ _ 22 rfl w.heap.size 3 (.int .i64 0) 1 8 Try.underlying22 infoI rfl (by decide) _ 0 0 [] rfl (World.ownsRow_made w #[] 0 (Nat.le_refl _) (by unfold maxLen; omega) rfl) A n c (xs.map (Value.int .i64)) rfl ?_ ?_ ?_ ?_ (nums_one _ _) ?_ ?_ ?_ ?_)
      · rw [List.length_map, hIl.out]; omega
      · exact HI.out.1
      · exact HI.out.2.1
      · exact hI1.cells'
      · unfold maxLen; omega
      · omega
      · rw [World.size_alloc]; exact Nat.le_succ _
      intro X cx w1 hown hc1
      intros
      have hc01 : Chg Nothing w w1 := ((Chg.refl Nothing w).alloc (.cells #[] 3)).then hc1 (fun k hk ⟨a, e, hk'⟩ => by injection e with e; subst e; simp only at hk'; omega)
      have hs1 := hc01.size
      have hX := hid ((ElsAt.of_own (enc := Value.int .i64) (d := (0 : Int)) (xs := xs) (by simpa using hown)).mono (G := Lt w1.heap.size) (fun k hk _ => hk))
      clear hc1 hown hI1
      have hJ1 := chgN (hc01.alloc (.cells #[] 3)) HJ.out
      go_wp2_with (at_builtin; refine append_gen (o := ⟨some 23, _, _, _, _, _⟩) rfl _ _ 22 rfl w1.heap.size 3 (.int .i64 0) 1 8 Try.underlying22 infoI rfl (by decide) _ 0 0 [] rfl (World.ownsRow_made w1 #[] 0 (Nat.le_refl _) (by unfold maxLen; omega) rfl) B m d (ys.map (Value.int .i64)) rfl ?_ ?_ ?_ ?_ (nums_one _ _) ?_ ?_ ?_ ?_)
      · rw [List.length_map, hJl.out]; omega
      · exact HJ.out.1
      · exact HJ.out.2.1
      · exact hJ1.cells'
      · unfold maxLen; omega
      · omega
      · rw [World.size_alloc]; exact Nat.le_succ _
      intro Y cy w2 hown hc2
      intros
      have hc12 : Chg Nothing w1 w2 := ((Chg.refl Nothing w1).alloc (.cells #[] 3)).then hc2 (fun k hk ⟨a, e, hk'⟩ => by injection e with e; subst e; simp only at hk'; omega)
      have hY := hid ((ElsAt.of_own (enc := Value.int .i64) (d := (0 : Int)) (xs := ys) (by simpa using hown)).mono (G := Lt w2.heap.size) (fun k hk _ => hk))
      have hX := hid (chgN hc12 hX.out)
      have hC := hc01.trans hc12
      have hA := hid (chgN hC HI.out)
      have hB := hid (chgN hC HJ.out)
      have hs2 := hc12.size
      clear hc2 hown hJ1 hc01 hc12
      go_wp2_with fail
      refine (setAnd_any _ _ _ _ _ _ _ _ xs ys _ hA.out hB.out (ltF (by omega)) (ltF (by omega)) (by omega)).mono ?_
      rintro e w3 ⟨hg, hc⟩
      obtain ⟨P, cp, rfl, hP⟩ := hg.out
      replace hP := hid (hP.mono (G := Lt w3.heap.size) (fun k hk _ => hk))
      replace hA := hid (chgN hc hA.out); replace hB := hid (chgN hc hB.out); replace hX := hid (chgN hc hX.out); replace hY := hid (chgN hc hY.out); replace hC := hC.trans hc
      have hs3 := hc.size
      clear hc hg
      go_wp2_with fail
      refine (setOr_any _ _ _ _ _ _ _ _ xs ys _ hA.out hB.out (ltF (by omega)) (ltF (by omega)) (by omega) (by omega)).mono ?_
      rintro e w4 ⟨hg, hc⟩
      obtain ⟨Q, cq, rfl, hQ⟩ := hg.out
      replace hQ := hid (hQ.mono (G := Lt w4.heap.size) (fun k hk _ => hk))
      replace hA := hid (chgN hc hA.out); replace hB := hid (chgN hc hB.out); replace hX := hid (chgN hc hX.out); replace hY := hid (chgN hc hY.out); replace hP := hid (chgN hc hP.out); replace hC := hC.trans hc
      have hs4 := hc.size
      clear hc hg
      go_wp2_with fail
      refine (aliveS _).mono ?_
      rintro e w5 ⟨rfl, hc⟩
      replace hA := hid (chgN hc hA.out); replace hB := hid (chgN hc hB.out); replace hX := hid (chgN hc hX.out); replace hY := hid (chgN hc hY.out); replace hP := hid (chgN hc hP.out); replace hQ := hid (chgN hc hQ.out); replace hC := hC.trans hc
      have hs5 := hc.size
      clear hc
      go_wp2_with fail
      refine (refAnd_any _ _ _ _ _ _ _ _ xs ys _ hA.out hB.out (by omega)).mono ?_
      rintro e w6 ⟨hg, hc⟩
      obtain ⟨U, cu, rfl, hU⟩ := hg.out
      replace hA := hid (chgN hc hA.out); replace hB := hid (chgN hc hB.out); replace hX := hid (chgN hc hX.out); replace hY := hid (chgN hc hY.out); replace hP := hid (chgN hc hP.out); replace hQ := hid (chgN hc hQ.out); replace hC := hC.trans hc
      replace hU := hid hU
      have hs6 := hc.size
      clear hc hg
      go_wp2_with fail
      refine (places_yes hP.out hU.out (andR_eq xs ys).symm).mono ?_
      rintro e w7 ⟨rfl, hc⟩
      replace hA := hid (chgN hc hA.out); replace hB := hid (chgN hc hB.out); replace hX := hid (chgN hc hX.out); replace hY := hid (chgN hc hY.out); replace hQ := hid (chgN hc hQ.out); replace hC := hC.trans hc
      have hs7 := hc.size
      clear hc hU hP
      go_wp2_with fail
      refine (refOr_any _ _ _ _ _ _ _ _ xs ys _ hA.out hB.out (ltF (by omega)) (by omega)).mono ?_
      rintro e w8 ⟨hg, hc⟩
      obtain ⟨U, nu, cu, rfl, hU⟩ := hg
      replace hA := hid (chgN hc hA.out); replace hB := hid (chgN hc hB.out); replace hX := hid (chgN hc hX.out); replace hY := hid (chgN hc hY.out); replace hQ := hid (chgN hc hQ.out); replace hC := hC.trans hc
      replace hU := hid hU
      clear hc
      go_wp2_with fail
      refine (places_yes hQ.out hU.out (orR_eq xs ys).symm).mono ?_
      rintro e w9 ⟨rfl, hc⟩
      replace hA := hid (chgN hc hA.out); replace hB := hid (chgN hc hB.out); replace hX := hid (chgN hc hX.out); replace hY := hid (chgN hc hY.out); replace hC := hC.trans hc
      clear hc hU hQ
      go_wp2_with fail
      refine (places_yes hA.out hX.out rfl).mono ?_
      rintro e w10 ⟨rfl, hc⟩
      replace hB := hid (chgN hc hB.out); replace hY := hid (chgN hc hY.out); replace hC := hC.trans hc
      clear hc hA hX
      go_wp2_with fail
      refine (places_yes hB.out hY.out rfl).mono ?_
      rintro e w11 ⟨rfl, hc⟩
      replace hC := hC.trans hc
      clear hc hB hY
      go_wp2_with fail
      go_ret
      exact ⟨rfl, hC⟩
    · have hf' : (200 : Int) < m := by omega
      clear hf2
      go_enter Try.func4, Try.ntmps4
      go_wp2_with fail
      refine (fewS_yes A n c w hf).mono ?_
      rintro e w' ⟨rfl, rfl⟩
      go_wp2_with fail
      refine (fewS_no B m d w hf').mono ?_
      rintro e w' ⟨rfl, rfl⟩
      go_wp2_with fail
      refine (aliveS w).mono ?_
      rintro e w1 ⟨rfl, hc1⟩
      go_wp2
      go_ret
      exact ⟨rfl, hc1⟩
  · have hf' : (200 : Int) < n := by omega
    clear hf
    go_enter Try.func4, Try.ntmps4
    go_wp2_with fail
    refine (fewS_no A n c w hf').mono ?_
    rintro e w' ⟨rfl, rfl⟩
    go_wp2_with fail
    refine (aliveS w).mono ?_
    rintro e w1 ⟨rfl, hc1⟩
    go_wp2
    go_ret
    exact ⟨rfl, hc1⟩
end Go.Proofs.Ytemfmdhgalmgnaa
