/- Layer 12: the walk of SplitParts. -/
import Derived.Test.YtlpgbnbklddfaaaAlvB
import Derived.Test.YtlpgbnbklddfaaaBunO
namespace Go.Proofs.Ytlpgbnbklddfaaa
open Go.RowKit
set_option linter.unusedVariables false
abbrev LfRow (w : World) (A : Option Addr) (l c : Nat) (xs : List Cls) : Prop := RowAt 4 (fun k => k < w.heap.size) w A l c (xs.flatMap clsL)
theorem LfRow.calm {w w' : World} {A : Option Addr} {l c : Nat} {xs : List Cls} (h : LfRow w A l c xs) (hc : Chg Nothing w w') : LfRow w' A l c xs := (h.chg hc (fun _ _ _ h => h)).mono (fun k hk _ => hk)
set_option maxHeartbeats 16000000 in
set_option maxRecDepth 100000 in
theorem SplitParts_walk (A : Option Addr) (l c : Nat) (xs : List Cls) (K : Int) (least : Int) (w : World) (H : LfRow w A l c xs) (hl : xs.length = l) (hf : l * 32 ≤ 140737488351232) (hK : -9223372036854775808 ≤ K ∧ K ≤ 9223372036854775807) (hz1 : -9223372036854775808 ≤ least) (hz2 : least ≤ 9223372036854775807) :
    Calls Try.prog 3 #[.agg #[.slice A l c, .int .i64 K], .int .i64 least] w fun e w' => e = .returned (.bool true) ∧ Chg Nothing w w' := by
  have hFw := hid (fun w => few12_any A l c K ⟨#[]⟩ w (by decide) (by omega))
  rw [show (decide (l ≤ 100) && decide ((⟨#[]⟩ : ByteArray).size ≤ 300)) = decide (l ≤ 100) from by simp [show (⟨#[]⟩ : ByteArray).size = 0 from rfl]] at hFw
  have hw0 := hid ((Chg.refl Nothing w).alloc (.cells #[.slice A l c, .int .i64 K] 24))
  have hL := Blk.new w #[.slice A l c, .int .i64 K] 24
  have hHH := hid (fun (w' : World) (hc : Chg Nothing w w') => H.calm hc)
  have hlh := hid hl
  have hle := H.le
  have hmx := H.max
  have x0 := hL.cell 0 (v := .slice A l c) rfl
  have x1 := hL.cell 1 (v := .int .i64 K) rfl
  have hlx := hL.lt
  clear H hl hL
  by_cases hfew : l ≤ 100
  · rw [decide_eq_true hfew] at hFw
    have hP1 := hid (fun (w' : World) (hc : Chg Nothing w w') => splitParts_any _ A l c xs K least w' (hHH.out w' hc) hlh.out (by omega))
    have hP2 := hid (fun (w' : World) (hc : Chg Nothing w w') => refPart_any _ A l c xs K least true w' (hHH.out w' hc) hlh.out (by omega))
    have hP3 := hid (fun (w' : World) (hc : Chg Nothing w w') => refPart_any _ A l c xs K least false w' (hHH.out w' hc) hlh.out (by omega))
    have hP4 := hid (fun (w' : World) (hc : Chg Nothing w w') => leafKinds_any _ A l c xs K w' (hHH.out w' hc) hlh.out (by omega))
    rw [partL_true] at hP2
    rw [partL_false] at hP3
    have hlen := parts_len xs least
    have hkl := kindsL_len xs
    rw [hlh.out] at hkl
    have hSm := hid (fun (ks : List Cls) (F G : Nat → Prop) (A1 A2 : Option Addr) (c1 c2 : Nat) (w' : World) (h1 : ClsRow F w' A1 ks.length c1 ks) (h2 : ClsRow G w' A2 ks.length c2 ks) => (sameClasses_any F G A1 A2 ks.length c1 ks.length c2 ks ks w' h1 rfl h2 rfl).mono (R' := fun e w'' => e = .returned (.bool true) ∧ Chg Nothing w' w'') (fun e w'' ⟨he, hc⟩ => ⟨by rw [he]; simp, hc⟩))
    generalize kindsL xs = kl at *
    generalize freqL xs least = fl at *
    generalize rareL xs least = rl at *
    have hadd : ((fl.length : Int) + (rl.length : Int)) = (kl.length : Int) := by omega
    have hwp : IntKind.i64.wrap ((fl.length : Int) + (rl.length : Int)) = (kl.length : Int) := by rw [IntKind.wrap_i64]; omega
    replace hlen := hid hlen
    replace hadd := hid hadd
    go_enter Try.func3, Try.ntmps3
    go_wp2_with fail
    refine (hFw.out _).mono ?_
    rintro e w5 ⟨rfl, hc5⟩
    have y0 := (hc5.cells.1 _ _ hlx).trans x0
    have y1 := (hc5.cells.1 _ _ hlx).trans x1
    have hly := Nat.lt_of_lt_of_le hlx hc5.size
    have hC5 := hid (hw0.out.trans hc5)
    clear hc5 x0 x1 hlx
    go_wp2_with fail
    refine (hP1.out _ hC5.out).mono ?_
    rintro e w6 ⟨A1, c1, A2, c2, rfl, hO1, hO2, hc6⟩
    have x0 := (hc6.cells.1 _ _ hly).trans y0
    have x1 := (hc6.cells.1 _ _ hly).trans y1
    have hlx := Nat.lt_of_lt_of_le hly hc6.size
    have hC6 := hid (hC5.out.trans hc6)
    have hR1 := hid (RowAt.of_own hO1)
    have hR2 := hid (RowAt.of_own hO2)
    clear hc6 y0 y1 hly hO1 hO2
    go_wp2_with fail
    refine (alive12 _).mono ?_
    rintro e w7 ⟨rfl, hc7⟩
    have y0 := (hc7.cells.1 _ _ hlx).trans x0
    have y1 := (hc7.cells.1 _ _ hlx).trans x1
    have hly := Nat.lt_of_lt_of_le hlx hc7.size
    have hC7 := hid (hC6.out.trans hc7)
    have hR17 := hid (hR1.out.chg hc7 (fun _ _ _ h => h))
    have hR27 := hid (hR2.out.chg hc7 (fun _ _ _ h => h))
    clear hc7 x0 x1 hlx hR1 hR2
    go_wp2_with fail
    refine (hP2.out _ hC7.out).mono ?_
    rintro e w8 ⟨A8, c8, rfl, hO8, hc8⟩
    have x0 := (hc8.cells.1 _ _ hly).trans y0
    have x1 := (hc8.cells.1 _ _ hly).trans y1
    have hlx := Nat.lt_of_lt_of_le hly hc8.size
    have hC8 := hid (hC7.out.trans hc8)
    have hR18 := hid (hR17.out.chg hc8 (fun _ _ _ h => h))
    have hR28 := hid (hR27.out.chg hc8 (fun _ _ _ h => h))
    have hR8 := hid (RowAt.of_own hO8)
    clear hc8 y0 y1 hly hR17 hR27 hO8
    go_wp2_with fail
    refine (hSm.out _ _ _ _ _ _ _ _ hR18.out hR8.out).mono ?_
    rintro e w9 ⟨rfl, hc9⟩
    have y0 := (hc9.cells.1 _ _ hlx).trans x0
    have y1 := (hc9.cells.1 _ _ hlx).trans x1
    have hly := Nat.lt_of_lt_of_le hlx hc9.size
    have hC9 := hid (hC8.out.trans hc9)
    have hR29 := hid (hR28.out.chg hc9 (fun _ _ _ h => h))
    clear hc9 x0 x1 hlx hR18 hR28 hR8
    go_wp2_with fail
    refine (hP3.out _ hC9.out).mono ?_
    rintro e w10 ⟨A10, c10, rfl, hO10, hc10⟩
    have x0 := (hc10.cells.1 _ _ hly).trans y0
    have x1 := (hc10.cells.1 _ _ hly).trans y1
    have hlx := Nat.lt_of_lt_of_le hly hc10.size
    have hC10 := hid (hC9.out.trans hc10)
    have hR210 := hid (hR29.out.chg hc10 (fun _ _ _ h => h))
    have hR10 := hid (RowAt.of_own hO10)
    clear hc10 y0 y1 hly hR29 hO10
    go_wp2_with fail
    refine (hSm.out _ _ _ _ _ _ _ _ hR210.out hR10.out).mono ?_
    rintro e w11 ⟨rfl, hc11⟩
    have y0 := (hc11.cells.1 _ _ hlx).trans x0
    have y1 := (hc11.cells.1 _ _ hlx).trans x1
    have hly := Nat.lt_of_lt_of_le hlx hc11.size
    have hC11 := hid (hC10.out.trans hc11)
    clear hc11 x0 x1 hlx hR210 hR10
    go_wp2_with fail
    refine (hP4.out _ hC11.out).mono ?_
    rintro e w12 ⟨A12, c12, rfl, -, hc12⟩
    have hC12 := hid (hC11.out.trans hc12)
    clear hc12 y0 y1 hly
    go_wp2
    go_ret
    exact ⟨by first | rfl | simp [hwp, hadd.out], hC12.out⟩
  · rw [decide_eq_false hfew] at hFw
    go_enter Try.func3, Try.ntmps3
    go_wp2_with fail
    refine (hFw.out _).mono ?_
    rintro e w5 ⟨rfl, hc5⟩
    have hC5 := hid (hw0.out.trans hc5)
    clear hc5 x0 x1 hlx
    go_wp2_with fail
    refine (alive12 _).mono ?_
    rintro e w6 ⟨rfl, hc6⟩
    have hC6 := hid (hC5.out.trans hc6)
    go_wp2
    go_ret
    exact ⟨rfl, hC6.out⟩
end Go.Proofs.Ytlpgbnbklddfaaa
