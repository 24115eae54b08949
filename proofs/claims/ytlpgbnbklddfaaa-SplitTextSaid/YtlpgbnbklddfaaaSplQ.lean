/- Layer 12: the walks of SplitCounts, SplitFinds. -/
import Derived.Test.YtlpgbnbklddfaaaSplP
namespace Go.Proofs.Ytlpgbnbklddfaaa
open Go.RowKit
set_option linter.unusedVariables false
set_option maxHeartbeats 16000000 in
set_option maxRecDepth 100000 in
theorem SplitCounts_walk (A : Option Addr) (l c : Nat) (xs : List Cls) (K : Int) (s : ByteArray) (size least : Int) (w : World) (H : LfRow w A l c xs) (hl : xs.length = l) (hf : l * 32 ≤ 140737488351232) (hK : -9223372036854775808 ≤ K ∧ K ≤ 9223372036854775807) (hs : s.size ≤ 140737488351232) (hz : (-9223372036854775808 ≤ size ∧ size ≤ 9223372036854775807) ∧ -9223372036854775808 ≤ least ∧ least ≤ 9223372036854775807) :
    Calls Try.prog 5 #[.agg #[.slice A l c, .int .i64 K], .string s, .agg #[.int .i64 size, .int .i64 least]] w fun e w' => e = .returned (.bool true) ∧ Chg Nothing w w' := by
  have hFw := hid (fun w => few12_any A l c K s w (by omega) (by omega))
  have hw0 := hid (((Chg.refl Nothing w).alloc (.cells #[.slice A l c, .int .i64 K] 24)).alloc (.cells #[.int .i64 size, .int .i64 least] 40))
  have hL := (Blk.new w #[.slice A l c, .int .i64 K] 24).alloc (.cells #[.int .i64 size, .int .i64 least] 40)
  have hU := Blk.new (w.alloc (.cells #[.slice A l c, .int .i64 K] 24)) #[.int .i64 size, .int .i64 least] 40
  rw [World.size_alloc] at hU
  have hHH := hid (fun (w' : World) (hc : Chg Nothing w w') => H.calm hc)
  have hlh := hid hl
  have hle := H.le
  have hmx := H.max
  have x0 := hL.cell 0 (v := .slice A l c) rfl
  have x1 := hL.cell 1 (v := .int .i64 K) rfl
  have hlx := hL.lt
  have u0 := hU.cell 0 (v := .int .i64 size) rfl
  have u1 := hU.cell 1 (v := .int .i64 least) rfl
  have hlu := hU.lt
  clear H hl hL hU
  by_cases hfew : (decide (l ≤ 100) && decide (s.size ≤ 300)) = true
  · rw [hfew] at hFw
    simp only [Bool.and_eq_true, decide_eq_true_eq] at hfew
    obtain ⟨hl1, hs1⟩ := hfew
    have hP1 := hid (fun (w' : World) (hc : Chg Nothing w w') => splitCounts_any _ A l c xs K s size least w' (hHH.out w' hc) hlh.out (by omega) (by omega))
    have hP2 := hid (fun (w' : World) (hc : Chg Nothing w w') => refCounts12_any _ A l c xs K s size least w' (hHH.out w' hc) hlh.out (by omega) (by omega))
    generalize y12 xs K s size least = ys at *
    generalize n12 xs K s size least = num at *
    generalize e12 xs K s.size size least = E at *
    go_enter Try.func5, Try.ntmps5
    go_wp2_with fail
    refine (hFw.out _).mono ?_
    rintro e w5 ⟨rfl, hc5⟩
    have y0 := (hc5.cells.1 _ _ hlx).trans x0
    have v0 := (hc5.cells.1 _ _ hlu).trans u0
    have y1 := (hc5.cells.1 _ _ hlx).trans x1
    have v1 := (hc5.cells.1 _ _ hlu).trans u1
    have hly := Nat.lt_of_lt_of_le hlx hc5.size
    have hlv := Nat.lt_of_lt_of_le hlu hc5.size
    have hC5 := hid (hw0.out.trans hc5)
    clear hc5 x0 u0 x1 u1 hlx hlu
    go_wp2_with fail
    refine (hP1.out _ hC5.out).mono ?_
    rintro e w6 ⟨⟨A6, c6, rfl, hO6⟩, hc6⟩
    replace hO6 := hid (hO6.els.mono (G := fun _ => True) (fun _ _ _ => trivial))
    have x0 := (hc6.cells.1 _ _ hly).trans y0
    have u0 := (hc6.cells.1 _ _ hlv).trans v0
    have x1 := (hc6.cells.1 _ _ hly).trans y1
    have u1 := (hc6.cells.1 _ _ hlv).trans v1
    have hlx := Nat.lt_of_lt_of_le hly hc6.size
    have hlu := Nat.lt_of_lt_of_le hlv hc6.size
    have hC6 := hid (hC5.out.trans hc6)
    clear hc6 y0 v0 y1 v1 hly hlv
    go_wp2_with fail
    refine (hP2.out _ hC6.out).mono ?_
    rintro e w7 ⟨⟨A7, c7, rfl, hO7⟩, hc7⟩
    replace hO7 := hid (hO7.els.mono (G := fun _ => True) (fun _ _ _ => trivial))
    have hO6b := hid (hO6.out.chg hc7 (fun _ _ _ h => h))
    have y0 := (hc7.cells.1 _ _ hlx).trans x0
    have v0 := (hc7.cells.1 _ _ hlu).trans u0
    have y1 := (hc7.cells.1 _ _ hlx).trans x1
    have v1 := (hc7.cells.1 _ _ hlu).trans u1
    have hly := Nat.lt_of_lt_of_le hlx hc7.size
    have hlv := Nat.lt_of_lt_of_le hlu hc7.size
    have hC7 := hid (hC6.out.trans hc7)
    clear hc7 x0 u0 x1 u1 hlx hlu hO6
    go_wp2_with fail
    refine (alive12 _).mono ?_
    rintro e w8 ⟨rfl, hc8⟩
    have hO6c := hid (hO6b.out.chg hc8 (fun _ _ _ h => h))
    have hO7c := hid (hO7.out.chg hc8 (fun _ _ _ h => h))
    have x0 := (hc8.cells.1 _ _ hly).trans y0
    have u0 := (hc8.cells.1 _ _ hlv).trans v0
    have x1 := (hc8.cells.1 _ _ hly).trans y1
    have u1 := (hc8.cells.1 _ _ hlv).trans v1
    have hlx := Nat.lt_of_lt_of_le hly hc8.size
    have hlu := Nat.lt_of_lt_of_le hlv hc8.size
    have hC8 := hid (hC7.out.trans hc8)
    clear hc8 y0 v0 y1 v1 hly hlv hO6b hO7
    go_wp2_with fail
    refine (same_intsM hO6c.out hO7c.out).mono ?_
    rintro e w9 ⟨rfl, hc9⟩
    have hC9 := hid (hC8.out.trans hc9)
    clear hc9 x0 u0 x1 u1 hlx hlu
    go_wp2
    go_ret
    exact ⟨rfl, hC9.out⟩
  · have hfb : (decide (l ≤ 100) && decide (s.size ≤ 300)) = false := by simpa using hfew
    rw [hfb] at hFw
    clear hfew
    go_enter Try.func5, Try.ntmps5
    go_wp2_with fail
    refine (hFw.out _).mono ?_
    rintro e w5 ⟨rfl, hc5⟩
    have hC5 := hid (hw0.out.trans hc5)
    clear hc5 x0 u0 x1 u1 hlx hlu
    go_wp2_with fail
    refine (alive12 _).mono ?_
    rintro e w6 ⟨rfl, hc6⟩
    have hC6 := hid (hC5.out.trans hc6)
    go_wp2
    go_ret
    exact ⟨rfl, hC6.out⟩
set_option maxHeartbeats 16000000 in
set_option maxRecDepth 100000 in
theorem SplitFinds_walk (A : Option Addr) (l c : Nat) (xs : List Cls) (K : Int) (s : ByteArray) (size least : Int) (w : World) (H : LfRow w A l c xs) (hl : xs.length = l) (hf : l * 32 ≤ 140737488351232) (hK : -9223372036854775808 ≤ K ∧ K ≤ 9223372036854775807) (hs : s.size ≤ 140737488351232) (hz : (-9223372036854775808 ≤ size ∧ size ≤ 9223372036854775807) ∧ -9223372036854775808 ≤ least ∧ least ≤ 9223372036854775807) :
    Calls Try.prog 6 #[.agg #[.slice A l c, .int .i64 K], .string s, .agg #[.int .i64 size, .int .i64 least]] w fun e w' => e = .returned (.bool true) ∧ Chg Nothing w w' := by
  have hFw := hid (fun w => few12_any A l c K s w (by omega) (by omega))
  have hw0 := hid (((Chg.refl Nothing w).alloc (.cells #[.slice A l c, .int .i64 K] 24)).alloc (.cells #[.int .i64 size, .int .i64 least] 40))
  have hL := (Blk.new w #[.slice A l c, .int .i64 K] 24).alloc (.cells #[.int .i64 size, .int .i64 least] 40)
  have hU := Blk.new (w.alloc (.cells #[.slice A l c, .int .i64 K] 24)) #[.int .i64 size, .int .i64 least] 40
  rw [World.size_alloc] at hU
  have hHH := hid (fun (w' : World) (hc : Chg Nothing w w') => H.calm hc)
  have hlh := hid hl
  have hle := H.le
  have hmx := H.max
  have x0 := hL.cell 0 (v := .slice A l c) rfl
  have x1 := hL.cell 1 (v := .int .i64 K) rfl
  have hlx := hL.lt
  have u0 := hU.cell 0 (v := .int .i64 size) rfl
  have u1 := hU.cell 1 (v := .int .i64 least) rfl
  have hlu := hU.lt
  clear H hl hL hU
  by_cases hfew : (decide (l ≤ 100) && decide (s.size ≤ 300)) = true
  · rw [hfew] at hFw
    simp only [Bool.and_eq_true, decide_eq_true_eq] at hfew
    obtain ⟨hl1, hs1⟩ := hfew
    have hP1 := hid (fun (w' : World) (hc : Chg Nothing w w') => splitFind_any _ A l c xs K s size least w' (hHH.out w' hc) hlh.out (by omega) (by omega))
    have hP2 := hid (fun (w' : World) (hc : Chg Nothing w w') => refFind12_any _ A l c xs K s size least w' (hHH.out w' hc) hlh.out (by omega) (by omega))
    have hE0 := hid (fun (h : e12 xs K s.size size least = 0) => (show f12 xs K s size least = hitsTo (countsR xs K s) K (countsR xs K s).length from by
      obtain ⟨hr, -, -⟩ := amissF_zero h
      unfold f12 y12 countsR; rw [if_pos h, if_pos hr]))
    have hP3 := hid (fun (w' : World) (hc : Chg Nothing w w') => refFind8_any _ A l c xs K s w' (hHH.out w' hc) hlh.out (by omega))
    generalize hitsTo (countsR xs K s) K (countsR xs K s).length = zs at *
    generalize f12 xs K s size least = ys at *
    generalize n12 xs K s size least = num at *
    generalize e12 xs K s.size size least = E at *
    go_enter Try.func6, Try.ntmps6
    go_wp2_with fail
    refine (hFw.out _).mono ?_
    rintro e w5 ⟨rfl, hc5⟩
    have y0 := (hc5.cells.1 _ _ hlx).trans x0
    have v0 := (hc5.cells.1 _ _ hlu).trans u0
    have y1 := (hc5.cells.1 _ _ hlx).trans x1
    have v1 := (hc5.cells.1 _ _ hlu).trans u1
    have hly := Nat.lt_of_lt_of_le hlx hc5.size
    have hlv := Nat.lt_of_lt_of_le hlu hc5.size
    have hC5 := hid (hw0.out.trans hc5)
    clear hc5 x0 u0 x1 u1 hlx hlu
    go_wp2_with fail
    refine (hP1.out _ hC5.out).mono ?_
    rintro e w6 ⟨⟨A6, c6, rfl, hO6⟩, hc6⟩
    replace hO6 := hid (hO6.els.mono (G := fun _ => True) (fun _ _ _ => trivial))
    have x0 := (hc6.cells.1 _ _ hly).trans y0
    have u0 := (hc6.cells.1 _ _ hlv).trans v0
    have x1 := (hc6.cells.1 _ _ hly).trans y1
    have u1 := (hc6.cells.1 _ _ hlv).trans v1
    have hlx := Nat.lt_of_lt_of_le hly hc6.size
    have hlu := Nat.lt_of_lt_of_le hlv hc6.size
    have hC6 := hid (hC5.out.trans hc6)
    clear hc6 y0 v0 y1 v1 hly hlv
    go_wp2_with fail
    refine (hP2.out _ hC6.out).mono ?_
    rintro e w7 ⟨⟨A7, c7, rfl, hO7⟩, hc7⟩
    replace hO7 := hid (hO7.els.mono (G := fun _ => True) (fun _ _ _ => trivial))
    have hO6b := hid (hO6.out.chg hc7 (fun _ _ _ h => h))
    have y0 := (hc7.cells.1 _ _ hlx).trans x0
    have v0 := (hc7.cells.1 _ _ hlu).trans u0
    have y1 := (hc7.cells.1 _ _ hlx).trans x1
    have v1 := (hc7.cells.1 _ _ hlu).trans u1
    have hly := Nat.lt_of_lt_of_le hlx hc7.size
    have hlv := Nat.lt_of_lt_of_le hlu hc7.size
    have hC7 := hid (hC6.out.trans hc7)
    clear hc7 x0 u0 x1 u1 hlx hlu hO6
    go_wp2_with fail
    refine (alive12 _).mono ?_
    rintro e w8 ⟨rfl, hc8⟩
    have hO6c := hid (hO6b.out.chg hc8 (fun _ _ _ h => h))
    have hO7c := hid (hO7.out.chg hc8 (fun _ _ _ h => h))
    have x0 := (hc8.cells.1 _ _ hly).trans y0
    have u0 := (hc8.cells.1 _ _ hlv).trans v0
    have x1 := (hc8.cells.1 _ _ hly).trans y1
    have u1 := (hc8.cells.1 _ _ hlv).trans v1
    have hlx := Nat.lt_of_lt_of_le hly hc8.size
    have hlu := Nat.lt_of_lt_of_le hlv hc8.size
    have hC8 := hid (hC7.out.trans hc8)
    clear hc8 y0 v0 y1 v1 hly hlv hO6b hO7
    go_wp2_with fail
    refine (same_intsM hO6c.out hO7c.out).mono ?_
    rintro e w9 ⟨rfl, hc9⟩
    have hC9 := hid (hC8.out.trans hc9)
    by_cases hE : E = 0
    · have hzs := hE0.out hE
      subst hE hzs
      have y0 := (hc9.cells.1 _ _ hlx).trans x0
      have v0 := (hc9.cells.1 _ _ hlu).trans u0
      have y1 := (hc9.cells.1 _ _ hlx).trans x1
      have v1 := (hc9.cells.1 _ _ hlu).trans u1
      have hO6d := hid (hO6c.out.chg hc9 (fun _ _ _ h => h))
      clear hc9 x0 u0 x1 u1 hlx hlu
      go_wp2_with fail
      refine (hP3.out _ hC9.out).mono ?_
      rintro e wA ⟨⟨AA, cA, rfl, hOA⟩, hcA⟩
      replace hOA := hid (hOA.els.mono (G := fun _ => True) (fun _ _ _ => trivial))
      have hO6e := hid (hO6d.out.chg hcA (fun _ _ _ h => h))
      have hCA := hid (hC9.out.trans hcA)
      clear hcA y0 v0 y1 v1
      go_wp2_with fail
      refine (same_intsM hO6e.out hOA.out).mono ?_
      rintro e wB ⟨rfl, hcB⟩
      have hCB := hid (hCA.out.trans hcB)
      go_wp2
      go_ret
      exact ⟨rfl, hCB.out⟩
    · have hEb : (E == 0) = false := beq_eq_false_iff_ne.2 hE
      clear hc9 x0 u0 x1 u1 hlx hlu
      go_wp2
      go_ret
      exact ⟨rfl, hC9.out⟩
  · have hfb : (decide (l ≤ 100) && decide (s.size ≤ 300)) = false := by simpa using hfew
    rw [hfb] at hFw
    clear hfew
    go_enter Try.func6, Try.ntmps6
    go_wp2_with fail
    refine (hFw.out _).mono ?_
    rintro e w5 ⟨rfl, hc5⟩
    have hC5 := hid (hw0.out.trans hc5)
    clear hc5 x0 u0 x1 u1 hlx hlu
    go_wp2_with fail
    refine (alive12 _).mono ?_
    rintro e w6 ⟨rfl, hc6⟩
    have hC6 := hid (hC5.out.trans hc6)
    go_wp2
    go_ret
    exact ⟨rfl, hC6.out⟩
end Go.Proofs.Ytlpgbnbklddfaaa
