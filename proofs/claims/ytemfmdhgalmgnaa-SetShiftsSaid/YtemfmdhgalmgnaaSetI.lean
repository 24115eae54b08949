/- Layer 15: the laws SetRight, SetTwo. -/
import Derived.Test.YtemfmdhgalmgnaaSetH
import Derived.Test.YtemfmdhgalmgnaaSetF
namespace Go.Proofs.Ytemfmdhgalmgnaa
open Go.RowKit
set_option linter.unusedVariables false
theorem refRight_chg {F : Nat → Prop} {A : Option Addr} {n c : Nat} {xs : List Int} {w : World} (h : IntsAt F w A n c xs) {r : Bool} (hr : rightB (-1) xs = r) :
    Calls Try.prog 18 #[.slice A n c] w fun e w' => e = .returned (.bool r) ∧ Chg Nothing w w' := by
  refine (refRight_any F A n c xs w h).mono ?_
  rintro e w' ⟨rfl, q, rfl⟩
  exact ⟨by rw [hr], (Chg.refl _ _).drewN q⟩

set_option maxHeartbeats 1000000 in
theorem SetRight_walk (A : Option Addr) (n c : Nat) (xs : List Int) (w : World) (hI : IntsAt (fun k => k < w.heap.size) w A n c xs) (hn : n * 8 ≤ 140737488351232) (hxs : ∀ x ∈ xs, -9223372036854775808 ≤ x ∧ x ≤ 9223372036854775807) :
    Calls Try.prog 3 #[.slice A n c] w fun e w' => e = .returned (.bool true) ∧ Chg Nothing w w' := by
  have HI := hid hI; clear hI
  clear hxs
  by_cases hf : (n : Int) ≤ 200
  · go_enter Try.func3, Try.ntmps3
    go_wp2_with fail
    refine (fewS_yes A n c w hf).mono ?_
    rintro e w' ⟨rfl, rfl⟩
    go_wp2_with fail
    refine (aliveS w).mono ?_
    rintro e w1 ⟨rfl, hc1⟩
    go_wp2_with fail
    refine (setRight_chg (chgN hc1 HI.out) rfl).mono ?_
    rintro e w2 ⟨rfl, hc2⟩
    have hc02 := hc1.trans hc2
    go_wp2_with fail
    refine (refRight_chg (chgN hc02 HI.out) rfl).mono ?_
    rintro e w3 ⟨rfl, hc3⟩
    go_wp2_with fail
    go_ret
    exact ⟨by simp, hc02.trans hc3⟩
  · have hf' : (200 : Int) < n := by omega
    clear hf
    go_enter Try.func3, Try.ntmps3
    go_wp2_with fail
    refine (fewS_no A n c w hf').mono ?_
    rintro e w' ⟨rfl, rfl⟩
    go_wp2_with fail
    refine (aliveS w).mono ?_
    rintro e w1 ⟨rfl, hc1⟩
    go_wp2
    go_ret
    exact ⟨rfl, hc1⟩
end Go.Proofs.Ytemfmdhgalmgnaa
