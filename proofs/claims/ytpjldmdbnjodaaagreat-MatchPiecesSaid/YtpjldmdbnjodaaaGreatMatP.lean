/- Layer 17: the walks of MatchFinds, MatchCounts. -/
import Derived.Test.YtpjldmdbnjodaaaGreatMatG
namespace Go.Proofs.YtpjldmdbnjodaaaGreat
open Go.RowKit
set_option linter.unusedVariables false
set_option linter.unusedSimpArgs false
abbrev LmRow (w : World) (A : Option Addr) (l c : Nat) (xs : List Cls) : Prop := RowAt 4 (fun k => k < w.heap.size) w A l c (xs.flatMap clsL)
theorem LmRow.calm {w w' : World} {A : Option Addr} {l c : Nat} {xs : List Cls} (h : LmRow w A l c xs) (hc : Chg Nothing w w') : LmRow w' A l c xs := (h.chg hc (fun _ _ _ h => h)).mono (fun k hk _ => hk)
set_option maxHeartbeats 16000000 in
set_option maxRecDepth 100000 in
theorem MatchFinds_walk (A : Option Addr) (l c : Nat) (xs : List Cls) (K : Int) (s : ByteArray) (way size : Int) (w : World) (H : LmRow w A l c xs) (hl : xs.length = l) (hf : l * 32 ≤ 140737488351232) (hK : -9223372036854775808 ≤ K ∧ K ≤ 9223372036854775807) (hs : s.size ≤ 140737488351232) (hz : (-9223372036854775808 ≤ way ∧ way ≤ 9223372036854775807) ∧ -9223372036854775808 ≤ size ∧ size ≤ 9223372036854775807) :
    Calls Tryz.prog 3 #[.agg #[.slice A l c, .int .i64 K], .string s, .agg #[.int .i64 way, .int .i64 size]] w fun e w' => e = .returned (.bool true) ∧ Chg Nothing w w' := by
  have hFw := hid (fun w => few17_any A l c K s w (by omega) (by omega))
  have hw0 := hid (((Chg.refl Nothing w).alloc (.cells #[.slice A l c, .int .i64 K] 24)).alloc (.cells #[.int .i64 way, .int .i64 size] 26))
  have hX := hid ((Blk.new w #[.slice A l c, .int .i64 K] 24).alloc (.cells #[.int .i64 way, .int .i64 size] 26))
  have hU := Blk.new (w.alloc (.cells #[.slice A l c, .int .i64 K] 24)) #[.int .i64 way, .int .i64 size] 26
  rw [World.size_alloc] at hU
  replace hU := hid hU
  have hHH := hid (fun (w' : World) (hc : Chg Nothing w w') => H.calm hc)
  have hlh := hid hl
  have hle := H.le
  have hmx := H.max
  have hC := hid hw0.out
  clear H hl
  by_cases hfew : (decide (l ≤ 100) && decide (s.size ≤ 300)) = true
  · rw [hfew] at hFw
    simp only [Bool.and_eq_true, decide_eq_true_eq] at hfew
    obtain ⟨hl1, hs1⟩ := hfew
    have hP1 := hid (fun (w' : World) (hc : Chg Nothing w w') => symFlat (matchFind_any _ A l c xs K way s size w' (hHH.out w' hc) (fun _ h => h) hlh.out (by omega) (by omega)))
    have hP2 := hid (fun (w' : World) (hc : Chg Nothing w w') => symFlat (refFind17_any _ A l c xs K way s size w' (hHH.out w' hc) hlh.out (by omega) (by omega)))
    generalize mF xs K way s size = ys at *
    generalize mN xs K way s.size size = num at *
    generalize mE xs K way s.size size = E at *
    have x0 := hX.out.cell 0 (v := .slice A l c) rfl
    have x1 := hX.out.cell 1 (v := .int .i64 K) rfl
    have u0 := hU.out.cell 0 (v := .int .i64 way) rfl
    have u1 := hU.out.cell 1 (v := .int .i64 size) rfl
    go_enter Tryz.func3, Tryz.ntmps3
    go_wp2_with fail
    refine (hFw.out _).mono ?_
    rintro e w5 ⟨rfl, hc5⟩
    replace hX := hid (hX.out.chg hc5 id)
    replace hU := hid (hU.out.chg hc5 id)
    replace hC := hid (hC.out.trans hc5)
    clear hc5 x0 x1 u0 u1
    have x0 := hX.out.cell 0 (v := .slice A l c) rfl
    have x1 := hX.out.cell 1 (v := .int .i64 K) rfl
    have u0 := hU.out.cell 0 (v := .int .i64 way) rfl
    have u1 := hU.out.cell 1 (v := .int .i64 size) rfl
    go_wp2_with fail
    refine (hP1.out _ hC.out).mono ?_
    rintro e w6 ⟨A6, c6, rfl, hR6, hc6⟩
    have hO1 := hid (hR6.els.mono (G := fun _ => True) (fun _ _ _ => trivial))
    clear hR6
    replace hX := hid (hX.out.chg hc6 id)
    replace hU := hid (hU.out.chg hc6 id)
    replace hC := hid (hC.out.trans hc6)
    clear hc6 x0 x1 u0 u1
    have x0 := hX.out.cell 0 (v := .slice A l c) rfl
    have x1 := hX.out.cell 1 (v := .int .i64 K) rfl
    have u0 := hU.out.cell 0 (v := .int .i64 way) rfl
    have u1 := hU.out.cell 1 (v := .int .i64 size) rfl
    go_wp2_with fail
    refine (hP2.out _ hC.out).mono ?_
    rintro e w7 ⟨A7, c7, rfl, hR7, hc7⟩
    replace hO1 := hid (hO1.out.chg hc7 (fun _ _ _ h => h))
    have hO2 := hid (hR7.els.mono (G := fun _ => True) (fun _ _ _ => trivial))
    clear hR7
    replace hX := hid (hX.out.chg hc7 id)
    replace hU := hid (hU.out.chg hc7 id)
    replace hC := hid (hC.out.trans hc7)
    clear hc7 x0 x1 u0 u1
    have x0 := hX.out.cell 0 (v := .slice A l c) rfl
    have x1 := hX.out.cell 1 (v := .int .i64 K) rfl
    have u0 := hU.out.cell 0 (v := .int .i64 way) rfl
    have u1 := hU.out.cell 1 (v := .int .i64 size) rfl
    go_wp2_with fail
    refine (alive17 _).mono ?_
    rintro e w8 ⟨rfl, hc8⟩
    replace hO1 := hid (hO1.out.chg hc8 (fun _ _ _ h => h))
    replace hO2 := hid (hO2.out.chg hc8 (fun _ _ _ h => h))
    replace hX := hid (hX.out.chg hc8 id)
    replace hU := hid (hU.out.chg hc8 id)
    replace hC := hid (hC.out.trans hc8)
    clear hc8 x0 x1 u0 u1
    have x0 := hX.out.cell 0 (v := .slice A l c) rfl
    have x1 := hX.out.cell 1 (v := .int .i64 K) rfl
    have u0 := hU.out.cell 0 (v := .int .i64 way) rfl
    have u1 := hU.out.cell 1 (v := .int .i64 size) rfl
    go_wp2_with fail
    refine (same_intsM hO1.out hO2.out).mono ?_
    rintro e w9 ⟨rfl, hc9⟩
    replace hO1 := hid (hO1.out.chg hc9 (fun _ _ _ h => h))
    replace hO2 := hid (hO2.out.chg hc9 (fun _ _ _ h => h))
    replace hX := hid (hX.out.chg hc9 id)
    replace hU := hid (hU.out.chg hc9 id)
    replace hC := hid (hC.out.trans hc9)
    clear hc9 x0 x1 u0 u1
    have x0 := hX.out.cell 0 (v := .slice A l c) rfl
    have x1 := hX.out.cell 1 (v := .int .i64 K) rfl
    have u0 := hU.out.cell 0 (v := .int .i64 way) rfl
    have u1 := hU.out.cell 1 (v := .int .i64 size) rfl
    go_wp2
    go_ret
    exact ⟨rfl, hC.out⟩
  · have hfb : (decide (l ≤ 100) && decide (s.size ≤ 300)) = false := by simpa using hfew
    rw [hfb] at hFw
    clear hfew
    have x0 := hX.out.cell 0 (v := .slice A l c) rfl
    have x1 := hX.out.cell 1 (v := .int .i64 K) rfl
    have u0 := hU.out.cell 0 (v := .int .i64 way) rfl
    have u1 := hU.out.cell 1 (v := .int .i64 size) rfl
    go_enter Tryz.func3, Tryz.ntmps3
    go_wp2_with fail
    refine (hFw.out _).mono ?_
    rintro e w5 ⟨rfl, hc5⟩
    replace hX := hid (hX.out.chg hc5 id)
    replace hU := hid (hU.out.chg hc5 id)
    replace hC := hid (hC.out.trans hc5)
    clear hc5 x0 x1 u0 u1
    have x0 := hX.out.cell 0 (v := .slice A l c) rfl
    have x1 := hX.out.cell 1 (v := .int .i64 K) rfl
    have u0 := hU.out.cell 0 (v := .int .i64 way) rfl
    have u1 := hU.out.cell 1 (v := .int .i64 size) rfl
    go_wp2_with fail
    refine (alive17 _).mono ?_
    rintro e w6 ⟨rfl, hc6⟩
    replace hX := hid (hX.out.chg hc6 id)
    replace hU := hid (hU.out.chg hc6 id)
    replace hC := hid (hC.out.trans hc6)
    clear hc6 x0 x1 u0 u1
    have x0 := hX.out.cell 0 (v := .slice A l c) rfl
    have x1 := hX.out.cell 1 (v := .int .i64 K) rfl
    have u0 := hU.out.cell 0 (v := .int .i64 way) rfl
    have u1 := hU.out.cell 1 (v := .int .i64 size) rfl
    go_wp2
    go_ret
    exact ⟨rfl, hC.out⟩
set_option maxHeartbeats 16000000 in
set_option maxRecDepth 100000 in
theorem MatchCounts_walk (A : Option Addr) (l c : Nat) (xs : List Cls) (K : Int) (s : ByteArray) (way size : Int) (w : World) (H : LmRow w A l c xs) (hl : xs.length = l) (hf : l * 32 ≤ 140737488351232) (hK : -9223372036854775808 ≤ K ∧ K ≤ 9223372036854775807) (hs : s.size ≤ 140737488351232) (hz : (-9223372036854775808 ≤ way ∧ way ≤ 9223372036854775807) ∧ -9223372036854775808 ≤ size ∧ size ≤ 9223372036854775807) :
    Calls Tryz.prog 4 #[.agg #[.slice A l c, .int .i64 K], .string s, .agg #[.int .i64 way, .int .i64 size]] w fun e w' => e = .returned (.bool true) ∧ Chg Nothing w w' := by
  have hFw := hid (fun w => few17_any A l c K s w (by omega) (by omega))
  have hw0 := hid (((Chg.refl Nothing w).alloc (.cells #[.slice A l c, .int .i64 K] 24)).alloc (.cells #[.int .i64 way, .int .i64 size] 26))
  have hX := hid ((Blk.new w #[.slice A l c, .int .i64 K] 24).alloc (.cells #[.int .i64 way, .int .i64 size] 26))
  have hU := Blk.new (w.alloc (.cells #[.slice A l c, .int .i64 K] 24)) #[.int .i64 way, .int .i64 size] 26
  rw [World.size_alloc] at hU
  replace hU := hid hU
  have hHH := hid (fun (w' : World) (hc : Chg Nothing w w') => H.calm hc)
  have hlh := hid hl
  have hle := H.le
  have hmx := H.max
  have hC := hid hw0.out
  clear H hl
  by_cases hfew : (decide (l ≤ 100) && decide (s.size ≤ 300)) = true
  · rw [hfew] at hFw
    simp only [Bool.and_eq_true, decide_eq_true_eq] at hfew
    obtain ⟨hl1, hs1⟩ := hfew
    have hP1 := hid (fun (w' : World) (hc : Chg Nothing w w') => symFlat (matchCounts_any _ A l c xs K way s size w' (hHH.out w' hc) (fun _ h => h) hlh.out (by omega) (by omega)))
    have hP2 := hid (fun (w' : World) (hc : Chg Nothing w w') => symFlat (refCounts17_any _ A l c xs K way s size w' (hHH.out w' hc) hlh.out (by omega) (by omega)))
    generalize mC xs K way s size = ys at *
    generalize mNc xs K way s.size size = num at *
    generalize mEc xs K way s.size size = E at *
    have x0 := hX.out.cell 0 (v := .slice A l c) rfl
    have x1 := hX.out.cell 1 (v := .int .i64 K) rfl
    have u0 := hU.out.cell 0 (v := .int .i64 way) rfl
    have u1 := hU.out.cell 1 (v := .int .i64 size) rfl
    go_enter Tryz.func4, Tryz.ntmps4
    go_wp2_with fail
    refine (hFw.out _).mono ?_
    rintro e w5 ⟨rfl, hc5⟩
    replace hX := hid (hX.out.chg hc5 id)
    replace hU := hid (hU.out.chg hc5 id)
    replace hC := hid (hC.out.trans hc5)
    clear hc5 x0 x1 u0 u1
    have x0 := hX.out.cell 0 (v := .slice A l c) rfl
    have x1 := hX.out.cell 1 (v := .int .i64 K) rfl
    have u0 := hU.out.cell 0 (v := .int .i64 way) rfl
    have u1 := hU.out.cell 1 (v := .int .i64 size) rfl
    go_wp2_with fail
    refine (hP1.out _ hC.out).mono ?_
    rintro e w6 ⟨A6, c6, rfl, hR6, hc6⟩
    have hO1 := hid (hR6.els.mono (G := fun _ => True) (fun _ _ _ => trivial))
    clear hR6
    replace hX := hid (hX.out.chg hc6 id)
    replace hU := hid (hU.out.chg hc6 id)
    replace hC := hid (hC.out.trans hc6)
    clear hc6 x0 x1 u0 u1
    have x0 := hX.out.cell 0 (v := .slice A l c) rfl
    have x1 := hX.out.cell 1 (v := .int .i64 K) rfl
    have u0 := hU.out.cell 0 (v := .int .i64 way) rfl
    have u1 := hU.out.cell 1 (v := .int .i64 size) rfl
    go_wp2_with fail
    refine (hP2.out _ hC.out).mono ?_
    rintro e w7 ⟨A7, c7, rfl, hR7, hc7⟩
    replace hO1 := hid (hO1.out.chg hc7 (fun _ _ _ h => h))
    have hO2 := hid (hR7.els.mono (G := fun _ => True) (fun _ _ _ => trivial))
    clear hR7
    replace hX := hid (hX.out.chg hc7 id)
    replace hU := hid (hU.out.chg hc7 id)
    replace hC := hid (hC.out.trans hc7)
    clear hc7 x0 x1 u0 u1
    have x0 := hX.out.cell 0 (v := .slice A l c) rfl
    have x1 := hX.out.cell 1 (v := .int .i64 K) rfl
    have u0 := hU.out.cell 0 (v := .int .i64 way) rfl
    have u1 := hU.out.cell 1 (v := .int .i64 size) rfl
    go_wp2_with fail
    refine (alive17 _).mono ?_
    rintro e w8 ⟨rfl, hc8⟩
    replace hO1 := hid (hO1.out.chg hc8 (fun _ _ _ h => h))
    replace hO2 := hid (hO2.out.chg hc8 (fun _ _ _ h => h))
    replace hX := hid (hX.out.chg hc8 id)
    replace hU := hid (hU.out.chg hc8 id)
    replace hC := hid (hC.out.trans hc8)
    clear hc8 x0 x1 u0 u1
    have x0 := hX.out.cell 0 (v := .slice A l c) rfl
    have x1 := hX.out.cell 1 (v := .int .i64 K) rfl
    have u0 := hU.out.cell 0 (v := .int .i64 way) rfl
    have u1 := hU.out.cell 1 (v := .int .i64 size) rfl
    go_wp2_with fail
    refine (same_intsM hO1.out hO2.out).mono ?_
    rintro e w9 ⟨rfl, hc9⟩
    replace hO1 := hid (hO1.out.chg hc9 (fun _ _ _ h => h))
    replace hO2 := hid (hO2.out.chg hc9 (fun _ _ _ h => h))
    replace hX := hid (hX.out.chg hc9 id)
    replace hU := hid (hU.out.chg hc9 id)
    replace hC := hid (hC.out.trans hc9)
    clear hc9 x0 x1 u0 u1
    have x0 := hX.out.cell 0 (v := .slice A l c) rfl
    have x1 := hX.out.cell 1 (v := .int .i64 K) rfl
    have u0 := hU.out.cell 0 (v := .int .i64 way) rfl
    have u1 := hU.out.cell 1 (v := .int .i64 size) rfl
    go_wp2
    go_ret
    exact ⟨rfl, hC.out⟩
  · have hfb : (decide (l ≤ 100) && decide (s.size ≤ 300)) = false := by simpa using hfew
    rw [hfb] at hFw
    clear hfew
    have x0 := hX.out.cell 0 (v := .slice A l c) rfl
    have x1 := hX.out.cell 1 (v := .int .i64 K) rfl
    have u0 := hU.out.cell 0 (v := .int .i64 way) rfl
    have u1 := hU.out.cell 1 (v := .int .i64 size) rfl
    go_enter Tryz.func4, Tryz.ntmps4
    go_wp2_with fail
    refine (hFw.out _).mono ?_
    rintro e w5 ⟨rfl, hc5⟩
    replace hX := hid (hX.out.chg hc5 id)
    replace hU := hid (hU.out.chg hc5 id)
    replace hC := hid (hC.out.trans hc5)
    clear hc5 x0 x1 u0 u1
    have x0 := hX.out.cell 0 (v := .slice A l c) rfl
    have x1 := hX.out.cell 1 (v := .int .i64 K) rfl
    have u0 := hU.out.cell 0 (v := .int .i64 way) rfl
    have u1 := hU.out.cell 1 (v := .int .i64 size) rfl
    go_wp2_with fail
    refine (alive17 _).mono ?_
    rintro e w6 ⟨rfl, hc6⟩
    replace hX := hid (hX.out.chg hc6 id)
    replace hU := hid (hU.out.chg hc6 id)
    replace hC := hid (hC.out.trans hc6)
    clear hc6 x0 x1 u0 u1
    have x0 := hX.out.cell 0 (v := .slice A l c) rfl
    have x1 := hX.out.cell 1 (v := .int .i64 K) rfl
    have u0 := hU.out.cell 0 (v := .int .i64 way) rfl
    have u1 := hU.out.cell 1 (v := .int .i64 size) rfl
    go_wp2
    go_ret
    exact ⟨rfl, hC.out⟩
end Go.Proofs.YtpjldmdbnjodaaaGreat
