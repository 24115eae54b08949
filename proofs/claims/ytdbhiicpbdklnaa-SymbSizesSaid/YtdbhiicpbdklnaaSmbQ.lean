/- Layer 11: the law SymbSizes. -/
import Derived.Test.YtdbhiicpbdklnaaSmbP
namespace Go.Proofs.Ytdbhiicpbdklnaa
open Go.RowKit
set_option linter.unusedVariables false
set_option maxHeartbeats 16000000 in
set_option maxRecDepth 100000 in
theorem SymbSizes_walk (A : Option Addr) (l c : Nat) (xs : List Cls) (K : Int) (s : ByteArray) (z0 z1 : Int) (w : World) (H : LeafRow w A l c xs) (hl : xs.length = l) (hf : l * 32 ≤ 140737488351232) (hK : -9223372036854775808 ≤ K ∧ K ≤ 9223372036854775807) (hs : s.size ≤ 140737488351232) (hz : (-9223372036854775808 ≤ z0 ∧ z0 ≤ 9223372036854775807) ∧ -9223372036854775808 ≤ z1 ∧ z1 ≤ 9223372036854775807) :
    Calls Try.prog 7 #[.agg #[.slice A l c, .int .i64 K], .string s, .agg #[.int .i64 z0, .int .i64 z1]] w fun e w' => e = .returned (.bool true) ∧ Chg Nothing w w' := by
  have hFw := hid (fun w => few11_any A l c K s w (by omega) (by omega))
  have hw0 := hid (((Chg.refl Nothing w).alloc (.cells #[.slice A l c, .int .i64 K] 24)).alloc (.cells #[.int .i64 z0, .int .i64 z1] 47))
  have hL := (Blk.new w #[.slice A l c, .int .i64 K] 24).alloc (.cells #[.int .i64 z0, .int .i64 z1] 47)
  have hZ := Blk.new (w.alloc (.cells #[.slice A l c, .int .i64 K] 24)) #[.int .i64 z0, .int .i64 z1] 47
  rw [World.size_alloc] at hZ
  have hHH := hid (fun (w' : World) (hc : Chg Nothing w w') => H.calm hc)
  have hlh := hid hl
  have hle := H.le
  have hmx := H.max
  have x0 := hL.cell 0 (v := .slice A l c) rfl
  have x1 := hL.cell 1 (v := .int .i64 K) rfl
  have u0 := hZ.cell 0 (v := .int .i64 z0) rfl
  have u1 := hZ.cell 1 (v := .int .i64 z1) rfl
  have hlx := hL.lt
  have hlu := hZ.lt
  clear H hl hL hZ hz
  by_cases hfew : (decide (l ≤ 100) && decide (s.size ≤ 300)) = true
  · rw [hfew] at hFw
    simp only [Bool.and_eq_true, decide_eq_true_eq] at hfew
    obtain ⟨hl1, hs1⟩ := hfew
    have hP1 := hid (fun (w' : World) (hc : Chg Nothing w w') => symbCounts_any _ A l c xs K s z0 w' (hHH.out w' hc) (fun _ h => h) hlh.out (by omega))
    have hP2 := hid (fun (w' : World) (hc : Chg Nothing w w') => symbCounts_any _ A l c xs K s z1 w' (hHH.out w' hc) (fun _ h => h) hlh.out (by omega))
    have hEq := hid (fun (h0 : amiss xs K s.size z0 = 0) (h1 : amiss xs K s.size z1 = 0) => (show symY xs K s z0 = symY xs K s z1 from by unfold symY; rw [if_pos h0, if_pos h1]))
    generalize symY xs K s z0 = ys at *
    generalize symN xs K s z0 = num at *
    generalize amiss xs K s.size z0 = E at *
    generalize symY xs K s z1 = ys1 at *
    generalize symN xs K s z1 = num1 at *
    generalize amiss xs K s.size z1 = E1 at *
    go_enter Try.func7, Try.ntmps7
    go_wp2_with fail
    refine (hFw.out _).mono ?_
    rintro e w5 ⟨rfl, hc5⟩
    have y0 := (hc5.cells.1 _ _ hlx).trans x0
    have y1 := (hc5.cells.1 _ _ hlx).trans x1
    have v0 := (hc5.cells.1 _ _ hlu).trans u0
    have v1 := (hc5.cells.1 _ _ hlu).trans u1
    have hly := Nat.lt_of_lt_of_le hlx hc5.size
    have hlv := Nat.lt_of_lt_of_le hlu hc5.size
    have hC5 := hid (hw0.out.trans hc5)
    clear hc5 x0 x1 hlx u0 u1 hlu
    go_wp2_with fail
    refine (hP1.out _ hC5.out).mono ?_
    rintro e w6 ⟨⟨A6, c6, rfl, hO6⟩, hc6⟩
    replace hO6 := hid (hO6.els.mono (G := fun _ => True) (fun _ _ _ => trivial))
    have x0 := (hc6.cells.1 _ _ hly).trans y0
    have x1 := (hc6.cells.1 _ _ hly).trans y1
    have u0 := (hc6.cells.1 _ _ hlv).trans v0
    have u1 := (hc6.cells.1 _ _ hlv).trans v1
    have hlx := Nat.lt_of_lt_of_le hly hc6.size
    have hlu := Nat.lt_of_lt_of_le hlv hc6.size
    have hC6 := hid (hC5.out.trans hc6)
    clear hc6 y0 y1 hly v0 v1 hlv
    go_wp2_with fail
    refine (hP2.out _ hC6.out).mono ?_
    rintro e w7 ⟨⟨A7, c7, rfl, hO7⟩, hc7⟩
    replace hO7 := hid (hO7.els.mono (G := fun _ => True) (fun _ _ _ => trivial))
    have hO6b := hid (hO6.out.chg hc7 (fun _ _ _ h => h))
    have hC7 := hid (hC6.out.trans hc7)
    clear hc7 x0 x1 hlx hO6 u0 u1 hlu
    go_wp2_with fail
    refine (alive11 _).mono ?_
    rintro e w8 ⟨rfl, hc8⟩
    have hO6c := hid (hO6b.out.chg hc8 (fun _ _ _ h => h))
    have hO7c := hid (hO7.out.chg hc8 (fun _ _ _ h => h))
    have hC8 := hid (hC7.out.trans hc8)
    clear hc8 hO6b hO7
    by_cases hE : E = 0
    · by_cases hE1 : E1 = 0
      · have hyy := hEq.out hE hE1
        subst hE hE1 hyy
        go_wp2_with fail
        refine (same_ints hO6c.out hO7c.out).mono ?_
        rintro e w9 ⟨rfl, hc9⟩
        have hC9 := hid (hC8.out.trans hc9)
        go_wp2
        go_ret
        exact ⟨rfl, hC9.out⟩
      · have hEb : (E1 == 0) = false := beq_eq_false_iff_ne.2 hE1
        subst hE
        go_wp2
        go_ret
        exact ⟨rfl, hC8.out⟩
    · have hEb : (E == 0) = false := beq_eq_false_iff_ne.2 hE
      go_wp2
      go_ret
      exact ⟨rfl, hC8.out⟩
  · have hfb : (decide (l ≤ 100) && decide (s.size ≤ 300)) = false := by simpa using hfew
    rw [hfb] at hFw
    clear hfew
    go_enter Try.func7, Try.ntmps7
    go_wp2_with fail
    refine (hFw.out _).mono ?_
    rintro e w5 ⟨rfl, hc5⟩
    have hC5 := hid (hw0.out.trans hc5)
    clear hc5 x0 x1 hlx u0 u1 hlu
    go_wp2_with fail
    refine (alive11 _).mono ?_
    rintro e w6 ⟨rfl, hc6⟩
    have hC6 := hid (hC5.out.trans hc6)
    go_wp2
    go_ret
    exact ⟨rfl, hC6.out⟩
end Go.Proofs.Ytdbhiicpbdklnaa
