/- Joined texts: PlaA PlaB PlaC PlaD PlaE PlaF PlaG. -/
import Derived.Test.YtoelilejohfglaaGreatBunW
import Derived.Test.YtoelilejohfglaaGreatBunF
import Derived.Deep.RegionHeld3
import Derived.Test.YtoelilejohfglaaGreatBunV
import Derived.Test.YtoelilejohfglaaGreatBunT
import Derived.Test.YtoelilejohfglaaGreatBunU
import Derived.Test.YtoelilejohfglaaGreatBunR
import Derived.Laws.EntriesVeiled
set_option maxHeartbeats 16000000
set_option maxRecDepth 100000
namespace Go.Proofs.YtoelilejohfglaaGreat
open Go.RowKit
set_option linter.unusedVariables false
set_option linter.unusedSimpArgs false
def admitsB (xs : List Cls) (K way : Int) : Bool := rightB xs K && (decide (way = 1) || decide (way = 4) || (decide (way = 2) && lettersB xs && decide (K = 0)) || (decide (way = 3) && plainB xs && decide (K = 0)) || (decide (way = 5) && plainB xs))
theorem lettersV_is (xs : List Cls) : ∃ s, lettersV xs = #[.string s, .bool (lettersB xs)] := by
 unfold lettersV
 cases h : lettersB xs with
 | true => rw [if_pos rfl]; exact ⟨_, rfl⟩
 | false => rw [if_neg (by decide)]; exact ⟨_, rfl⟩
theorem planAdmits_any (F : Nat → Prop) (A : Option Addr) (n c : Nat) (xs : List Cls) (K way : Int) (w : World) (H : ClsRow F w A n c xs) (hl : xs.length = n) (hn9 : n ≤ 1000000000) :
  Calls Tryz.prog 66 #[.int .i64 way, .agg #[.slice A n c, .int .i64 K]] w fun e w' => e = .returned (.bool (admitsB xs K way)) ∧ Chg Nothing w w' := by
 have hX := Blk.new w #[.slice A n c, .int .i64 K] 34
 have x0 := hX.cell 0 (v := .slice A n c) rfl
 have x1 := hX.cell 1 (v := .int .i64 K) rfl
 have hxl := hX.lt
 have hw0 := hid ((Chg.refl Nothing w).alloc (.cells #[.slice A n c, .int .i64 K] 34))
 have hR := hid (fun (w' : World) (hc : Chg Nothing w w') => leafRight_any F A n c xs K w' (H.chg hc (fun _ _ _ h => h)) hl)
 have hL := hid (fun (w' : World) (hc : Chg Nothing w w') => leafLetters_any F A n c xs K w' (H.chg hc (fun _ _ _ h => h)) hl hn9)
 have hP := hid (fun (w' : World) (hc : Chg Nothing w w') => leafPlain_any F A n c xs K w' (H.chg hc (fun _ _ _ h => h)) hl hn9)
 obtain ⟨s, hs⟩ := lettersV_is xs
 rw [hs] at hL
 unfold admitsB
 generalize rightB xs K = r at hR ⊢
 generalize lettersB xs = lb at hL ⊢
 generalize plainB xs = pb at hP ⊢
 clear hX H hl hs
 cases r with
 | false =>
  go_enter Tryz.func66, Tryz.ntmps66
  go_wp2_with fail
  refine (hR.out _ hw0.out).mono ?_
  rintro e w1 ⟨rfl, hc1⟩
  have y10 := (hc1.cells.1 _ _ hxl).trans x0
  have y11 := (hc1.cells.1 _ _ hxl).trans x1
  have hl1 := Nat.lt_of_lt_of_le hxl hc1.size
  have hC1 := hid (hw0.out.trans hc1)
  clear hc1 x0 x1 hxl
  go_wp2
  go_ret
  exact ⟨by first | rfl | simp, hC1.out⟩
 | true =>
  by_cases h1 : way = 1
  ·subst h1
   go_enter Tryz.func66, Tryz.ntmps66
   go_wp2_with fail
   refine (hR.out _ hw0.out).mono ?_
   rintro e w1 ⟨rfl, hc1⟩
   have y10 := (hc1.cells.1 _ _ hxl).trans x0
   have y11 := (hc1.cells.1 _ _ hxl).trans x1
   have hl1 := Nat.lt_of_lt_of_le hxl hc1.size
   have hC1 := hid (hw0.out.trans hc1)
   clear hc1 x0 x1 hxl
   go_wp2_with fail
   refine (hL.out _ hC1.out).mono ?_
   rintro e w2 ⟨rfl, hc2⟩
   have y20 := (hc2.cells.1 _ _ hl1).trans y10
   have y21 := (hc2.cells.1 _ _ hl1).trans y11
   have hl2 := Nat.lt_of_lt_of_le hl1 hc2.size
   have hC2 := hid (hC1.out.trans hc2)
   clear hc2 y10 y11 hl1
   go_wp2
   go_ret
   exact ⟨by first | rfl | simp, hC2.out⟩
  by_cases h4 : way = 4
  ·subst h4
   go_enter Tryz.func66, Tryz.ntmps66
   go_wp2_with fail
   refine (hR.out _ hw0.out).mono ?_
   rintro e w1 ⟨rfl, hc1⟩
   have y10 := (hc1.cells.1 _ _ hxl).trans x0
   have y11 := (hc1.cells.1 _ _ hxl).trans x1
   have hl1 := Nat.lt_of_lt_of_le hxl hc1.size
   have hC1 := hid (hw0.out.trans hc1)
   clear hc1 x0 x1 hxl
   go_wp2_with fail
   refine (hL.out _ hC1.out).mono ?_
   rintro e w2 ⟨rfl, hc2⟩
   have y20 := (hc2.cells.1 _ _ hl1).trans y10
   have y21 := (hc2.cells.1 _ _ hl1).trans y11
   have hl2 := Nat.lt_of_lt_of_le hl1 hc2.size
   have hC2 := hid (hC1.out.trans hc2)
   clear hc2 y10 y11 hl1
   go_wp2
   go_ret
   exact ⟨by first | rfl | simp, hC2.out⟩
  by_cases h2 : way = 2
  ·subst h2
   cases lb with
   | false =>
    go_enter Tryz.func66, Tryz.ntmps66
    go_wp2_with fail
    refine (hR.out _ hw0.out).mono ?_
    rintro e w1 ⟨rfl, hc1⟩
    have y10 := (hc1.cells.1 _ _ hxl).trans x0
    have y11 := (hc1.cells.1 _ _ hxl).trans x1
    have hl1 := Nat.lt_of_lt_of_le hxl hc1.size
    have hC1 := hid (hw0.out.trans hc1)
    clear hc1 x0 x1 hxl
    go_wp2_with fail
    refine (hL.out _ hC1.out).mono ?_
    rintro e w2 ⟨rfl, hc2⟩
    have y20 := (hc2.cells.1 _ _ hl1).trans y10
    have y21 := (hc2.cells.1 _ _ hl1).trans y11
    have hl2 := Nat.lt_of_lt_of_le hl1 hc2.size
    have hC2 := hid (hC1.out.trans hc2)
    clear hc2 y10 y11 hl1
    go_wp2
    go_ret
    exact ⟨by first | rfl | simp, hC2.out⟩
   | true =>
    by_cases hK : K = 0
    ·subst hK
     go_enter Tryz.func66, Tryz.ntmps66
     go_wp2_with fail
     refine (hR.out _ hw0.out).mono ?_
     rintro e w1 ⟨rfl, hc1⟩
     have y10 := (hc1.cells.1 _ _ hxl).trans x0
     have y11 := (hc1.cells.1 _ _ hxl).trans x1
     have hl1 := Nat.lt_of_lt_of_le hxl hc1.size
     have hC1 := hid (hw0.out.trans hc1)
     clear hc1 x0 x1 hxl
     go_wp2_with fail
     refine (hL.out _ hC1.out).mono ?_
     rintro e w2 ⟨rfl, hc2⟩
     have y20 := (hc2.cells.1 _ _ hl1).trans y10
     have y21 := (hc2.cells.1 _ _ hl1).trans y11
     have hl2 := Nat.lt_of_lt_of_le hl1 hc2.size
     have hC2 := hid (hC1.out.trans hc2)
     clear hc2 y10 y11 hl1
     go_wp2
     go_ret
     exact ⟨by first | rfl | simp, hC2.out⟩
    ·have k1 : (K == 0) = false := beq_eq_false_iff_ne.2 hK
     have k2 : decide (K = 0) = false := decide_eq_false hK
     replace hK := hid hK
     go_enter Tryz.func66, Tryz.ntmps66
     go_wp2_with fail
     refine (hR.out _ hw0.out).mono ?_
     rintro e w1 ⟨rfl, hc1⟩
     have y10 := (hc1.cells.1 _ _ hxl).trans x0
     have y11 := (hc1.cells.1 _ _ hxl).trans x1
     have hl1 := Nat.lt_of_lt_of_le hxl hc1.size
     have hC1 := hid (hw0.out.trans hc1)
     clear hc1 x0 x1 hxl
     go_wp2_with fail
     refine (hL.out _ hC1.out).mono ?_
     rintro e w2 ⟨rfl, hc2⟩
     have y20 := (hc2.cells.1 _ _ hl1).trans y10
     have y21 := (hc2.cells.1 _ _ hl1).trans y11
     have hl2 := Nat.lt_of_lt_of_le hl1 hc2.size
     have hC2 := hid (hC1.out.trans hc2)
     clear hc2 y10 y11 hl1
     go_wp2
     go_ret
     exact ⟨by first | rfl | simp [k2], hC2.out⟩
  by_cases h3 : way = 3
  ·subst h3
   cases pb with
   | false =>
    go_enter Tryz.func66, Tryz.ntmps66
    go_wp2_with fail
    refine (hR.out _ hw0.out).mono ?_
    rintro e w1 ⟨rfl, hc1⟩
    have y10 := (hc1.cells.1 _ _ hxl).trans x0
    have y11 := (hc1.cells.1 _ _ hxl).trans x1
    have hl1 := Nat.lt_of_lt_of_le hxl hc1.size
    have hC1 := hid (hw0.out.trans hc1)
    clear hc1 x0 x1 hxl
    go_wp2_with fail
    refine (hL.out _ hC1.out).mono ?_
    rintro e w2 ⟨rfl, hc2⟩
    have y20 := (hc2.cells.1 _ _ hl1).trans y10
    have y21 := (hc2.cells.1 _ _ hl1).trans y11
    have hl2 := Nat.lt_of_lt_of_le hl1 hc2.size
    have hC2 := hid (hC1.out.trans hc2)
    clear hc2 y10 y11 hl1
    go_wp2_with fail
    refine (hP.out _ hC2.out).mono ?_
    rintro e w3 ⟨rfl, hc3⟩
    have y30 := (hc3.cells.1 _ _ hl2).trans y20
    have y31 := (hc3.cells.1 _ _ hl2).trans y21
    have hl3 := Nat.lt_of_lt_of_le hl2 hc3.size
    have hC3 := hid (hC2.out.trans hc3)
    clear hc3 y20 y21 hl2
    go_wp2
    go_ret
    exact ⟨by first | rfl | simp, hC3.out⟩
   | true =>
    by_cases hK : K = 0
    ·subst hK
     go_enter Tryz.func66, Tryz.ntmps66
     go_wp2_with fail
     refine (hR.out _ hw0.out).mono ?_
     rintro e w1 ⟨rfl, hc1⟩
     have y10 := (hc1.cells.1 _ _ hxl).trans x0
     have y11 := (hc1.cells.1 _ _ hxl).trans x1
     have hl1 := Nat.lt_of_lt_of_le hxl hc1.size
     have hC1 := hid (hw0.out.trans hc1)
     clear hc1 x0 x1 hxl
     go_wp2_with fail
     refine (hL.out _ hC1.out).mono ?_
     rintro e w2 ⟨rfl, hc2⟩
     have y20 := (hc2.cells.1 _ _ hl1).trans y10
     have y21 := (hc2.cells.1 _ _ hl1).trans y11
     have hl2 := Nat.lt_of_lt_of_le hl1 hc2.size
     have hC2 := hid (hC1.out.trans hc2)
     clear hc2 y10 y11 hl1
     go_wp2_with fail
     refine (hP.out _ hC2.out).mono ?_
     rintro e w3 ⟨rfl, hc3⟩
     have y30 := (hc3.cells.1 _ _ hl2).trans y20
     have y31 := (hc3.cells.1 _ _ hl2).trans y21
     have hl3 := Nat.lt_of_lt_of_le hl2 hc3.size
     have hC3 := hid (hC2.out.trans hc3)
     clear hc3 y20 y21 hl2
     go_wp2
     go_ret
     exact ⟨by first | rfl | simp, hC3.out⟩
    ·have k1 : (K == 0) = false := beq_eq_false_iff_ne.2 hK
     have k2 : decide (K = 0) = false := decide_eq_false hK
     replace hK := hid hK
     go_enter Tryz.func66, Tryz.ntmps66
     go_wp2_with fail
     refine (hR.out _ hw0.out).mono ?_
     rintro e w1 ⟨rfl, hc1⟩
     have y10 := (hc1.cells.1 _ _ hxl).trans x0
     have y11 := (hc1.cells.1 _ _ hxl).trans x1
     have hl1 := Nat.lt_of_lt_of_le hxl hc1.size
     have hC1 := hid (hw0.out.trans hc1)
     clear hc1 x0 x1 hxl
     go_wp2_with fail
     refine (hL.out _ hC1.out).mono ?_
     rintro e w2 ⟨rfl, hc2⟩
     have y20 := (hc2.cells.1 _ _ hl1).trans y10
     have y21 := (hc2.cells.1 _ _ hl1).trans y11
     have hl2 := Nat.lt_of_lt_of_le hl1 hc2.size
     have hC2 := hid (hC1.out.trans hc2)
     clear hc2 y10 y11 hl1
     go_wp2_with fail
     refine (hP.out _ hC2.out).mono ?_
     rintro e w3 ⟨rfl, hc3⟩
     have y30 := (hc3.cells.1 _ _ hl2).trans y20
     have y31 := (hc3.cells.1 _ _ hl2).trans y21
     have hl3 := Nat.lt_of_lt_of_le hl2 hc3.size
     have hC3 := hid (hC2.out.trans hc3)
     clear hc3 y20 y21 hl2
     go_wp2
     go_ret
     exact ⟨by first | rfl | simp [k2], hC3.out⟩
  by_cases h5 : way = 5
  ·subst h5
   cases pb with
   | false =>
    go_enter Tryz.func66, Tryz.ntmps66
    go_wp2_with fail
    refine (hR.out _ hw0.out).mono ?_
    rintro e w1 ⟨rfl, hc1⟩
    have y10 := (hc1.cells.1 _ _ hxl).trans x0
    have y11 := (hc1.cells.1 _ _ hxl).trans x1
    have hl1 := Nat.lt_of_lt_of_le hxl hc1.size
    have hC1 := hid (hw0.out.trans hc1)
    clear hc1 x0 x1 hxl
    go_wp2_with fail
    refine (hL.out _ hC1.out).mono ?_
    rintro e w2 ⟨rfl, hc2⟩
    have y20 := (hc2.cells.1 _ _ hl1).trans y10
    have y21 := (hc2.cells.1 _ _ hl1).trans y11
    have hl2 := Nat.lt_of_lt_of_le hl1 hc2.size
    have hC2 := hid (hC1.out.trans hc2)
    clear hc2 y10 y11 hl1
    go_wp2_with fail
    refine (hP.out _ hC2.out).mono ?_
    rintro e w3 ⟨rfl, hc3⟩
    have y30 := (hc3.cells.1 _ _ hl2).trans y20
    have y31 := (hc3.cells.1 _ _ hl2).trans y21
    have hl3 := Nat.lt_of_lt_of_le hl2 hc3.size
    have hC3 := hid (hC2.out.trans hc3)
    clear hc3 y20 y21 hl2
    go_wp2
    go_ret
    exact ⟨by first | rfl | simp, hC3.out⟩
   | true =>
    go_enter Tryz.func66, Tryz.ntmps66
    go_wp2_with fail
    refine (hR.out _ hw0.out).mono ?_
    rintro e w1 ⟨rfl, hc1⟩
    have y10 := (hc1.cells.1 _ _ hxl).trans x0
    have y11 := (hc1.cells.1 _ _ hxl).trans x1
    have hl1 := Nat.lt_of_lt_of_le hxl hc1.size
    have hC1 := hid (hw0.out.trans hc1)
    clear hc1 x0 x1 hxl
    go_wp2_with fail
    refine (hL.out _ hC1.out).mono ?_
    rintro e w2 ⟨rfl, hc2⟩
    have y20 := (hc2.cells.1 _ _ hl1).trans y10
    have y21 := (hc2.cells.1 _ _ hl1).trans y11
    have hl2 := Nat.lt_of_lt_of_le hl1 hc2.size
    have hC2 := hid (hC1.out.trans hc2)
    clear hc2 y10 y11 hl1
    go_wp2_with fail
    refine (hP.out _ hC2.out).mono ?_
    rintro e w3 ⟨rfl, hc3⟩
    have y30 := (hc3.cells.1 _ _ hl2).trans y20
    have y31 := (hc3.cells.1 _ _ hl2).trans y21
    have hl3 := Nat.lt_of_lt_of_le hl2 hc3.size
    have hC3 := hid (hC2.out.trans hc3)
    clear hc3 y20 y21 hl2
    go_wp2
    go_ret
    exact ⟨by first | rfl | simp, hC3.out⟩
  have n1 : (way == 1) = false := beq_eq_false_iff_ne.2 h1
  have n2 : (way == 2) = false := beq_eq_false_iff_ne.2 h2
  have n3 : (way == 3) = false := beq_eq_false_iff_ne.2 h3
  have n4 : (way == 4) = false := beq_eq_false_iff_ne.2 h4
  have n5 : (way == 5) = false := beq_eq_false_iff_ne.2 h5
  have d1 : decide (way = 1) = false := decide_eq_false h1
  have d2 : decide (way = 2) = false := decide_eq_false h2
  have d3 : decide (way = 3) = false := decide_eq_false h3
  have d4 : decide (way = 4) = false := decide_eq_false h4
  have d5 : decide (way = 5) = false := decide_eq_false h5
  replace h1 := hid h1
  replace h4 := hid h4
  replace h2 := hid h2
  replace h3 := hid h3
  replace h5 := hid h5
  go_enter Tryz.func66, Tryz.ntmps66
  go_wp2_with fail
  refine (hR.out _ hw0.out).mono ?_
  rintro e w1 ⟨rfl, hc1⟩
  have y10 := (hc1.cells.1 _ _ hxl).trans x0
  have y11 := (hc1.cells.1 _ _ hxl).trans x1
  have hl1 := Nat.lt_of_lt_of_le hxl hc1.size
  have hC1 := hid (hw0.out.trans hc1)
  clear hc1 x0 x1 hxl
  go_wp2_with fail
  refine (hL.out _ hC1.out).mono ?_
  rintro e w2 ⟨rfl, hc2⟩
  have y20 := (hc2.cells.1 _ _ hl1).trans y10
  have y21 := (hc2.cells.1 _ _ hl1).trans y11
  have hl2 := Nat.lt_of_lt_of_le hl1 hc2.size
  have hC2 := hid (hC1.out.trans hc2)
  clear hc2 y10 y11 hl1
  go_wp2
  go_ret
  exact ⟨by first | rfl | simp [d1, d2, d3, d4, d5], hC2.out⟩
theorem refAdmits_any (F : Nat → Prop) (A : Option Addr) (n c : Nat) (xs : List Cls) (K way : Int) (w : World) (H : ClsRow F w A n c xs) (hl : xs.length = n) (hn9 : n ≤ 1000000000) :
  Calls Tryz.prog 68 #[.int .i64 way, .agg #[.slice A n c, .int .i64 K]] w fun e w' => e = .returned (.bool (admitsB xs K way)) ∧ Chg Nothing w w' := by
 have hX := Blk.new w #[.slice A n c, .int .i64 K] 34
 have x0 := hX.cell 0 (v := .slice A n c) rfl
 have x1 := hX.cell 1 (v := .int .i64 K) rfl
 have hxl := hX.lt
 have hw0 := hid ((Chg.refl Nothing w).alloc (.cells #[.slice A n c, .int .i64 K] 34))
 have hR := hid (fun (w' : World) (hc : Chg Nothing w w') => refRight7_any F A n c xs K w' (H.chg hc (fun _ _ _ h => h)) hl)
 have hL := hid (fun (w' : World) (hc : Chg Nothing w w') => refLetters_any F A n c xs K w' (H.chg hc (fun _ _ _ h => h)) hl hn9)
 have hP := hid (fun (w' : World) (hc : Chg Nothing w w') => refPlain_any F A n c xs K w' (H.chg hc (fun _ _ _ h => h)) hl hn9)
 obtain ⟨s, hs⟩ := lettersV_is xs
 rw [hs] at hL
 unfold admitsB
 generalize rightB xs K = r at hR ⊢
 generalize lettersB xs = lb at hL ⊢
 generalize plainB xs = pb at hP ⊢
 clear hX H hl hs
 cases r with
 | false =>
  go_enter Tryz.func68, Tryz.ntmps68
  go_wp2_with fail
  refine (hR.out _ hw0.out).mono ?_
  rintro e w1 ⟨rfl, hc1⟩
  have y10 := (hc1.cells.1 _ _ hxl).trans x0
  have y11 := (hc1.cells.1 _ _ hxl).trans x1
  have hl1 := Nat.lt_of_lt_of_le hxl hc1.size
  have hC1 := hid (hw0.out.trans hc1)
  clear hc1 x0 x1 hxl
  go_wp2
  go_ret
  exact ⟨by first | rfl | simp, hC1.out⟩
 | true =>
  by_cases h1 : way = 1
  ·subst h1
   go_enter Tryz.func68, Tryz.ntmps68
   go_wp2_with fail
   refine (hR.out _ hw0.out).mono ?_
   rintro e w1 ⟨rfl, hc1⟩
   have y10 := (hc1.cells.1 _ _ hxl).trans x0
   have y11 := (hc1.cells.1 _ _ hxl).trans x1
   have hl1 := Nat.lt_of_lt_of_le hxl hc1.size
   have hC1 := hid (hw0.out.trans hc1)
   clear hc1 x0 x1 hxl
   go_wp2_with fail
   refine (hL.out _ hC1.out).mono ?_
   rintro e w2 ⟨rfl, hc2⟩
   have y20 := (hc2.cells.1 _ _ hl1).trans y10
   have y21 := (hc2.cells.1 _ _ hl1).trans y11
   have hl2 := Nat.lt_of_lt_of_le hl1 hc2.size
   have hC2 := hid (hC1.out.trans hc2)
   clear hc2 y10 y11 hl1
   go_wp2_with fail
   refine (hP.out _ hC2.out).mono ?_
   rintro e w3 ⟨rfl, hc3⟩
   have y30 := (hc3.cells.1 _ _ hl2).trans y20
   have y31 := (hc3.cells.1 _ _ hl2).trans y21
   have hl3 := Nat.lt_of_lt_of_le hl2 hc3.size
   have hC3 := hid (hC2.out.trans hc3)
   clear hc3 y20 y21 hl2
   go_wp2
   go_ret
   exact ⟨by first | rfl | simp, hC3.out⟩
  by_cases h4 : way = 4
  ·subst h4
   go_enter Tryz.func68, Tryz.ntmps68
   go_wp2_with fail
   refine (hR.out _ hw0.out).mono ?_
   rintro e w1 ⟨rfl, hc1⟩
   have y10 := (hc1.cells.1 _ _ hxl).trans x0
   have y11 := (hc1.cells.1 _ _ hxl).trans x1
   have hl1 := Nat.lt_of_lt_of_le hxl hc1.size
   have hC1 := hid (hw0.out.trans hc1)
   clear hc1 x0 x1 hxl
   go_wp2_with fail
   refine (hL.out _ hC1.out).mono ?_
   rintro e w2 ⟨rfl, hc2⟩
   have y20 := (hc2.cells.1 _ _ hl1).trans y10
   have y21 := (hc2.cells.1 _ _ hl1).trans y11
   have hl2 := Nat.lt_of_lt_of_le hl1 hc2.size
   have hC2 := hid (hC1.out.trans hc2)
   clear hc2 y10 y11 hl1
   go_wp2_with fail
   refine (hP.out _ hC2.out).mono ?_
   rintro e w3 ⟨rfl, hc3⟩
   have y30 := (hc3.cells.1 _ _ hl2).trans y20
   have y31 := (hc3.cells.1 _ _ hl2).trans y21
   have hl3 := Nat.lt_of_lt_of_le hl2 hc3.size
   have hC3 := hid (hC2.out.trans hc3)
   clear hc3 y20 y21 hl2
   go_wp2
   go_ret
   exact ⟨by first | rfl | simp, hC3.out⟩
  by_cases h2 : way = 2
  ·subst h2
   cases lb with
   | false =>
    go_enter Tryz.func68, Tryz.ntmps68
    go_wp2_with fail
    refine (hR.out _ hw0.out).mono ?_
    rintro e w1 ⟨rfl, hc1⟩
    have y10 := (hc1.cells.1 _ _ hxl).trans x0
    have y11 := (hc1.cells.1 _ _ hxl).trans x1
    have hl1 := Nat.lt_of_lt_of_le hxl hc1.size
    have hC1 := hid (hw0.out.trans hc1)
    clear hc1 x0 x1 hxl
    go_wp2_with fail
    refine (hL.out _ hC1.out).mono ?_
    rintro e w2 ⟨rfl, hc2⟩
    have y20 := (hc2.cells.1 _ _ hl1).trans y10
    have y21 := (hc2.cells.1 _ _ hl1).trans y11
    have hl2 := Nat.lt_of_lt_of_le hl1 hc2.size
    have hC2 := hid (hC1.out.trans hc2)
    clear hc2 y10 y11 hl1
    go_wp2_with fail
    refine (hP.out _ hC2.out).mono ?_
    rintro e w3 ⟨rfl, hc3⟩
    have y30 := (hc3.cells.1 _ _ hl2).trans y20
    have y31 := (hc3.cells.1 _ _ hl2).trans y21
    have hl3 := Nat.lt_of_lt_of_le hl2 hc3.size
    have hC3 := hid (hC2.out.trans hc3)
    clear hc3 y20 y21 hl2
    go_wp2
    go_ret
    exact ⟨by first | rfl | simp, hC3.out⟩
   | true =>
    by_cases hK : K = 0
    ·subst hK
     go_enter Tryz.func68, Tryz.ntmps68
     go_wp2_with fail
     refine (hR.out _ hw0.out).mono ?_
     rintro e w1 ⟨rfl, hc1⟩
     have y10 := (hc1.cells.1 _ _ hxl).trans x0
     have y11 := (hc1.cells.1 _ _ hxl).trans x1
     have hl1 := Nat.lt_of_lt_of_le hxl hc1.size
     have hC1 := hid (hw0.out.trans hc1)
     clear hc1 x0 x1 hxl
     go_wp2_with fail
     refine (hL.out _ hC1.out).mono ?_
     rintro e w2 ⟨rfl, hc2⟩
     have y20 := (hc2.cells.1 _ _ hl1).trans y10
     have y21 := (hc2.cells.1 _ _ hl1).trans y11
     have hl2 := Nat.lt_of_lt_of_le hl1 hc2.size
     have hC2 := hid (hC1.out.trans hc2)
     clear hc2 y10 y11 hl1
     go_wp2_with fail
     refine (hP.out _ hC2.out).mono ?_
     rintro e w3 ⟨rfl, hc3⟩
     have y30 := (hc3.cells.1 _ _ hl2).trans y20
     have y31 := (hc3.cells.1 _ _ hl2).trans y21
     have hl3 := Nat.lt_of_lt_of_le hl2 hc3.size
     have hC3 := hid (hC2.out.trans hc3)
     clear hc3 y20 y21 hl2
     go_wp2
     go_ret
     exact ⟨by first | rfl | simp, hC3.out⟩
    ·have k1 : (K == 0) = false := beq_eq_false_iff_ne.2 hK
     have k2 : decide (K = 0) = false := decide_eq_false hK
     replace hK := hid hK
     go_enter Tryz.func68, Tryz.ntmps68
     go_wp2_with fail
     refine (hR.out _ hw0.out).mono ?_
     rintro e w1 ⟨rfl, hc1⟩
     have y10 := (hc1.cells.1 _ _ hxl).trans x0
     have y11 := (hc1.cells.1 _ _ hxl).trans x1
     have hl1 := Nat.lt_of_lt_of_le hxl hc1.size
     have hC1 := hid (hw0.out.trans hc1)
     clear hc1 x0 x1 hxl
     go_wp2_with fail
     refine (hL.out _ hC1.out).mono ?_
     rintro e w2 ⟨rfl, hc2⟩
     have y20 := (hc2.cells.1 _ _ hl1).trans y10
     have y21 := (hc2.cells.1 _ _ hl1).trans y11
     have hl2 := Nat.lt_of_lt_of_le hl1 hc2.size
     have hC2 := hid (hC1.out.trans hc2)
     clear hc2 y10 y11 hl1
     go_wp2_with fail
     refine (hP.out _ hC2.out).mono ?_
     rintro e w3 ⟨rfl, hc3⟩
     have y30 := (hc3.cells.1 _ _ hl2).trans y20
     have y31 := (hc3.cells.1 _ _ hl2).trans y21
     have hl3 := Nat.lt_of_lt_of_le hl2 hc3.size
     have hC3 := hid (hC2.out.trans hc3)
     clear hc3 y20 y21 hl2
     go_wp2
     go_ret
     exact ⟨by first | rfl | simp [k2], hC3.out⟩
  by_cases h3 : way = 3
  ·subst h3
   cases pb with
   | false =>
    go_enter Tryz.func68, Tryz.ntmps68
    go_wp2_with fail
    refine (hR.out _ hw0.out).mono ?_
    rintro e w1 ⟨rfl, hc1⟩
    have y10 := (hc1.cells.1 _ _ hxl).trans x0
    have y11 := (hc1.cells.1 _ _ hxl).trans x1
    have hl1 := Nat.lt_of_lt_of_le hxl hc1.size
    have hC1 := hid (hw0.out.trans hc1)
    clear hc1 x0 x1 hxl
    go_wp2_with fail
    refine (hL.out _ hC1.out).mono ?_
    rintro e w2 ⟨rfl, hc2⟩
    have y20 := (hc2.cells.1 _ _ hl1).trans y10
    have y21 := (hc2.cells.1 _ _ hl1).trans y11
    have hl2 := Nat.lt_of_lt_of_le hl1 hc2.size
    have hC2 := hid (hC1.out.trans hc2)
    clear hc2 y10 y11 hl1
    go_wp2_with fail
    refine (hP.out _ hC2.out).mono ?_
    rintro e w3 ⟨rfl, hc3⟩
    have y30 := (hc3.cells.1 _ _ hl2).trans y20
    have y31 := (hc3.cells.1 _ _ hl2).trans y21
    have hl3 := Nat.lt_of_lt_of_le hl2 hc3.size
    have hC3 := hid (hC2.out.trans hc3)
    clear hc3 y20 y21 hl2
    go_wp2
    go_ret
    exact ⟨by first | rfl | simp, hC3.out⟩
   | true =>
    by_cases hK : K = 0
    ·subst hK
     go_enter Tryz.func68, Tryz.ntmps68
     go_wp2_with fail
     refine (hR.out _ hw0.out).mono ?_
     rintro e w1 ⟨rfl, hc1⟩
     have y10 := (hc1.cells.1 _ _ hxl).trans x0
     have y11 := (hc1.cells.1 _ _ hxl).trans x1
     have hl1 := Nat.lt_of_lt_of_le hxl hc1.size
     have hC1 := hid (hw0.out.trans hc1)
     clear hc1 x0 x1 hxl
     go_wp2_with fail
     refine (hL.out _ hC1.out).mono ?_
     rintro e w2 ⟨rfl, hc2⟩
     have y20 := (hc2.cells.1 _ _ hl1).trans y10
     have y21 := (hc2.cells.1 _ _ hl1).trans y11
     have hl2 := Nat.lt_of_lt_of_le hl1 hc2.size
     have hC2 := hid (hC1.out.trans hc2)
     clear hc2 y10 y11 hl1
     go_wp2_with fail
     refine (hP.out _ hC2.out).mono ?_
     rintro e w3 ⟨rfl, hc3⟩
     have y30 := (hc3.cells.1 _ _ hl2).trans y20
     have y31 := (hc3.cells.1 _ _ hl2).trans y21
     have hl3 := Nat.lt_of_lt_of_le hl2 hc3.size
     have hC3 := hid (hC2.out.trans hc3)
     clear hc3 y20 y21 hl2
     go_wp2
     go_ret
     exact ⟨by first | rfl | simp, hC3.out⟩
    ·have k1 : (K == 0) = false := beq_eq_false_iff_ne.2 hK
     have k2 : decide (K = 0) = false := decide_eq_false hK
     replace hK := hid hK
     go_enter Tryz.func68, Tryz.ntmps68
     go_wp2_with fail
     refine (hR.out _ hw0.out).mono ?_
     rintro e w1 ⟨rfl, hc1⟩
     have y10 := (hc1.cells.1 _ _ hxl).trans x0
     have y11 := (hc1.cells.1 _ _ hxl).trans x1
     have hl1 := Nat.lt_of_lt_of_le hxl hc1.size
     have hC1 := hid (hw0.out.trans hc1)
     clear hc1 x0 x1 hxl
     go_wp2_with fail
     refine (hL.out _ hC1.out).mono ?_
     rintro e w2 ⟨rfl, hc2⟩
     have y20 := (hc2.cells.1 _ _ hl1).trans y10
     have y21 := (hc2.cells.1 _ _ hl1).trans y11
     have hl2 := Nat.lt_of_lt_of_le hl1 hc2.size
     have hC2 := hid (hC1.out.trans hc2)
     clear hc2 y10 y11 hl1
     go_wp2_with fail
     refine (hP.out _ hC2.out).mono ?_
     rintro e w3 ⟨rfl, hc3⟩
     have y30 := (hc3.cells.1 _ _ hl2).trans y20
     have y31 := (hc3.cells.1 _ _ hl2).trans y21
     have hl3 := Nat.lt_of_lt_of_le hl2 hc3.size
     have hC3 := hid (hC2.out.trans hc3)
     clear hc3 y20 y21 hl2
     go_wp2
     go_ret
     exact ⟨by first | rfl | simp [k2], hC3.out⟩
  by_cases h5 : way = 5
  ·subst h5
   cases pb with
   | false =>
    go_enter Tryz.func68, Tryz.ntmps68
    go_wp2_with fail
    refine (hR.out _ hw0.out).mono ?_
    rintro e w1 ⟨rfl, hc1⟩
    have y10 := (hc1.cells.1 _ _ hxl).trans x0
    have y11 := (hc1.cells.1 _ _ hxl).trans x1
    have hl1 := Nat.lt_of_lt_of_le hxl hc1.size
    have hC1 := hid (hw0.out.trans hc1)
    clear hc1 x0 x1 hxl
    go_wp2_with fail
    refine (hL.out _ hC1.out).mono ?_
    rintro e w2 ⟨rfl, hc2⟩
    have y20 := (hc2.cells.1 _ _ hl1).trans y10
    have y21 := (hc2.cells.1 _ _ hl1).trans y11
    have hl2 := Nat.lt_of_lt_of_le hl1 hc2.size
    have hC2 := hid (hC1.out.trans hc2)
    clear hc2 y10 y11 hl1
    go_wp2_with fail
    refine (hP.out _ hC2.out).mono ?_
    rintro e w3 ⟨rfl, hc3⟩
    have y30 := (hc3.cells.1 _ _ hl2).trans y20
    have y31 := (hc3.cells.1 _ _ hl2).trans y21
    have hl3 := Nat.lt_of_lt_of_le hl2 hc3.size
    have hC3 := hid (hC2.out.trans hc3)
    clear hc3 y20 y21 hl2
    go_wp2
    go_ret
    exact ⟨by first | rfl | simp, hC3.out⟩
   | true =>
    go_enter Tryz.func68, Tryz.ntmps68
    go_wp2_with fail
    refine (hR.out _ hw0.out).mono ?_
    rintro e w1 ⟨rfl, hc1⟩
    have y10 := (hc1.cells.1 _ _ hxl).trans x0
    have y11 := (hc1.cells.1 _ _ hxl).trans x1
    have hl1 := Nat.lt_of_lt_of_le hxl hc1.size
    have hC1 := hid (hw0.out.trans hc1)
    clear hc1 x0 x1 hxl
    go_wp2_with fail
    refine (hL.out _ hC1.out).mono ?_
    rintro e w2 ⟨rfl, hc2⟩
    have y20 := (hc2.cells.1 _ _ hl1).trans y10
    have y21 := (hc2.cells.1 _ _ hl1).trans y11
    have hl2 := Nat.lt_of_lt_of_le hl1 hc2.size
    have hC2 := hid (hC1.out.trans hc2)
    clear hc2 y10 y11 hl1
    go_wp2_with fail
    refine (hP.out _ hC2.out).mono ?_
    rintro e w3 ⟨rfl, hc3⟩
    have y30 := (hc3.cells.1 _ _ hl2).trans y20
    have y31 := (hc3.cells.1 _ _ hl2).trans y21
    have hl3 := Nat.lt_of_lt_of_le hl2 hc3.size
    have hC3 := hid (hC2.out.trans hc3)
    clear hc3 y20 y21 hl2
    go_wp2
    go_ret
    exact ⟨by first | rfl | simp, hC3.out⟩
  have n1 : (way == 1) = false := beq_eq_false_iff_ne.2 h1
  have n2 : (way == 2) = false := beq_eq_false_iff_ne.2 h2
  have n3 : (way == 3) = false := beq_eq_false_iff_ne.2 h3
  have n4 : (way == 4) = false := beq_eq_false_iff_ne.2 h4
  have n5 : (way == 5) = false := beq_eq_false_iff_ne.2 h5
  have d1 : decide (way = 1) = false := decide_eq_false h1
  have d2 : decide (way = 2) = false := decide_eq_false h2
  have d3 : decide (way = 3) = false := decide_eq_false h3
  have d4 : decide (way = 4) = false := decide_eq_false h4
  have d5 : decide (way = 5) = false := decide_eq_false h5
  replace h1 := hid h1
  replace h4 := hid h4
  replace h2 := hid h2
  replace h3 := hid h3
  replace h5 := hid h5
  go_enter Tryz.func68, Tryz.ntmps68
  go_wp2_with fail
  refine (hR.out _ hw0.out).mono ?_
  rintro e w1 ⟨rfl, hc1⟩
  have y10 := (hc1.cells.1 _ _ hxl).trans x0
  have y11 := (hc1.cells.1 _ _ hxl).trans x1
  have hl1 := Nat.lt_of_lt_of_le hxl hc1.size
  have hC1 := hid (hw0.out.trans hc1)
  clear hc1 x0 x1 hxl
  go_wp2_with fail
  refine (hL.out _ hC1.out).mono ?_
  rintro e w2 ⟨rfl, hc2⟩
  have y20 := (hc2.cells.1 _ _ hl1).trans y10
  have y21 := (hc2.cells.1 _ _ hl1).trans y11
  have hl2 := Nat.lt_of_lt_of_le hl1 hc2.size
  have hC2 := hid (hC1.out.trans hc2)
  clear hc2 y10 y11 hl1
  go_wp2_with fail
  refine (hP.out _ hC2.out).mono ?_
  rintro e w3 ⟨rfl, hc3⟩
  have y30 := (hc3.cells.1 _ _ hl2).trans y20
  have y31 := (hc3.cells.1 _ _ hl2).trans y21
  have hl3 := Nat.lt_of_lt_of_le hl2 hc3.size
  have hC3 := hid (hC2.out.trans hc3)
  clear hc3 y20 y21 hl2
  go_wp2
  go_ret
  exact ⟨by first | rfl | simp [d1, d2, d3, d4, d5], hC3.out⟩
def whereN (xs : List Cls) (c : Cls) : Nat := (whereTo xs c xs.length).length
def partsTo (xs : List Cls) : Nat → Nat × Nat
 | 0 => (0, 0)
 | k + 1 => if 3 ≤ whereN xs ((kindsL xs).getD k 0) then ((partsTo xs k).1 + 1, (partsTo xs k).2) else ((partsTo xs k).1, (partsTo xs k).2 + whereN xs ((kindsL xs).getD k 0))
def partsF (xs : List Cls) : Nat := (partsTo xs (kindsL xs).length).1
def partsP (xs : List Cls) : Nat := (partsTo xs (kindsL xs).length).2
theorem whereN_le (xs : List Cls) (c : Cls) : whereN xs c ≤ xs.length := whereTo_len xs c xs.length
theorem partsTo_bound (xs : List Cls) : ∀ k, (partsTo xs k).1 ≤ k ∧ (partsTo xs k).2 ≤ k * 2
 | 0 => ⟨Nat.le_refl _, Nat.le_refl _⟩
 | k + 1 => by
  have ih := partsTo_bound xs k
  unfold partsTo
  split <;> simp only [] <;> omega
theorem partsTo_freq (xs : List Cls) : ∀ k, k ≤ (kindsL xs).length → (partsTo xs k).1 = (((kindsL xs).take k).filter (freqB xs 3)).length
 | 0, _ => rfl
 | k + 1, h => by
  have ih := partsTo_freq xs k (by omega)
  have hg : (kindsL xs)[k]? = some ((kindsL xs).getD k 0) := by rw [List.getD_eq_getElem?_getD, List.getElem?_eq_getElem (by omega)]; rfl
  rw [show partsTo xs (k + 1) = if 3 ≤ whereN xs ((kindsL xs).getD k 0) then ((partsTo xs k).1 + 1, (partsTo xs k).2) else ((partsTo xs k).1, (partsTo xs k).2 + whereN xs ((kindsL xs).getD k 0)) from rfl]
  rw [List.take_add_one, hg, List.filter_append, List.length_append, ← ih]
  generalize (kindsL xs).getD k 0 = y
  by_cases h3 : 3 ≤ whereN xs y
  ·rw [if_pos h3]
   have : freqB xs 3 y = true := by unfold freqB; simp only [decide_eq_true_eq]; unfold whereN at h3; omega
   simp [this]
  ·rw [if_neg h3]
   have : freqB xs 3 y = false := by unfold freqB; simp only [decide_eq_false_iff_not]; unfold whereN at h3; omega
   simp [this]
theorem partsF_freq (xs : List Cls) : partsF xs = (freqL xs 3).length := by
 unfold partsF freqL
 rw [partsTo_freq xs _ (Nat.le_refl _), List.take_length]
def PaInv (xs : List Cls) (NK : Nat) (w1 : World) (fv pv iv : Value) (wr : World) : Prop := ∃ k : Nat, k ≤ NK ∧ iv = .int .i64 k ∧ fv = .int .i64 ((partsTo xs k).1 : Nat) ∧ pv = .int .i64 ((partsTo xs k).2 : Nat) ∧ Chg Nothing w1 wr
theorem planParts_any (F : Nat → Prop) (A : Option Addr) (n c : Nat) (xs : List Cls) (K : Int) (w : World) (H : ClsRow F w A n c xs) (hl : xs.length = n) (hn9 : n ≤ 100000000) :
  Calls Tryz.prog 65 #[.agg #[.slice A n c, .int .i64 K]] w fun e w' => e = .returned (.tuple #[.int .i64 (partsF xs : Nat), .int .i64 (partsP xs : Nat)]) ∧ Chg Nothing w w' := by
 have hX := Blk.new w #[.slice A n c, .int .i64 K] 34
 have x0 := hX.cell 0 (v := .slice A n c) rfl
 have x1 := hX.cell 1 (v := .int .i64 K) rfl
 have hXh := hid hX
 have hw0 := hid ((Chg.refl Nothing w).alloc (.cells #[.slice A n c, .int .i64 K] 34))
 have hK := hid (leafKinds_any F A n c xs K (w.alloc (.cells #[.slice A n c, .int .i64 K] 34)) (H.chg hw0.out (fun _ _ _ h => h)) hl (by omega))
 have hWh := hid (fun (v : Cls) (w' : World) (hc : Chg Nothing w w') => (show Calls Tryz.prog 99 #[.agg #[.slice A n c, .int .i64 K], .agg #[.int .u64 (wd v 0), .int .u64 (wd v 1), .int .u64 (wd v 2), .int .u64 (wd v 3)]] w' fun e w'' => (∃ A' c', e = .returned (.slice A' (whereN xs v) c')) ∧ Chg Nothing w' w'' from
  (leafWhere_any F A n c xs K v w' (H.chg hc (fun _ _ _ h => h)) hl (by omega)).mono (fun e w'' ⟨⟨A', c', he, _⟩, hc2⟩ => ⟨⟨A', c', by rw [he, ← hl]; rfl⟩, hc2⟩)))
 have hkl := kindsL_len xs
 have hpf : partsF xs = (partsTo xs (kindsL xs).length).1 := rfl
 have hpp : partsP xs = (partsTo xs (kindsL xs).length).2 := rfl
 rw [hpf, hpp]
 obtain ⟨NK, hNK⟩ : ∃ NK, NK = (kindsL xs).length := ⟨_, rfl⟩
 rw [← hNK] at hK hkl ⊢
 replace hNK := hid hNK
 rw [hl] at hkl
 have hlh := hid hl
 clear H hX hl hpf hpp
 go_enter Tryz.func65, Tryz.ntmps65
 go_wp2_with fail
 refine hK.out.mono ?_
 rintro e w2 ⟨A2, c2, rfl, hO2, hc2⟩
 have hC2 := hid (hw0.out.trans hc2)
 have hX2 := hid (hXh.out.chg hc2 id)
 have hO2h := hid hO2
 clear hO2 hc2 x0 x1 hK hXh
 go_wp2_with fail
 go_loopw [4, 5, 12] (fun fv pv iv wr => PaInv xs NK w2 fv pv iv wr) (fun _ _ iv _ => NK - (intOf iv).toNat)
 case atStart => exact ⟨0, Nat.zero_le _, rfl, rfl, rfl, Chg.refl _ _⟩
 case round =>
  obtain ⟨k, hk, rfl, rfl, rfl, hchg⟩ := hrel
  rcases Nat.lt_or_ge k NK with hkn | hkn
  ·have hk0 : (0 : Int) ≤ (k : Int) := by omega
   have hkI : (k : Int) < (NK : Int) := by omega
   have hOr := hid (own_chg hO2h.out hchg (fun _ _ h => h))
   obtain ⟨g, o, rfl, -, hgl, d0, d1, d2, d3⟩ := ClsRow.four (RowAt.of_own hOr.out) hNK.out.symm hkn
   have hdm := Nat.le_trans (RowAt.of_own hOr.out).le (RowAt.of_own hOr.out).max
   obtain ⟨y, hyd⟩ : ∃ y, y = (kindsL xs).getD k 0 := ⟨_, rfl⟩
   rw [← hyd] at d0 d1 d2 d3
   have hst := hid (show partsTo xs (k + 1) = if 3 ≤ whereN xs y then ((partsTo xs k).1 + 1, (partsTo xs k).2) else ((partsTo xs k).1, (partsTo xs k).2 + whereN xs y) from by rw [hyd]; rfl)
   have hbd := partsTo_bound xs k
   have hwl := whereN_le xs y
   rw [hlh.out] at hwl
   replace hyd := hid hyd
   obtain ⟨f, hf⟩ : ∃ f, f = (partsTo xs k).1 := ⟨_, rfl⟩
   obtain ⟨p, hp⟩ : ∃ p, p = (partsTo xs k).2 := ⟨_, rfl⟩
   obtain ⟨wn, hwn⟩ : ∃ wn, wn = whereN xs y := ⟨_, rfl⟩
   have hW3 := hid (hWh.out y)
   rw [← hf, ← hp] at hbd hst ⊢
   rw [← hwn] at hwl hst hW3
   replace hf := hid hf
   replace hp := hid hp
   replace hwn := hid hwn
   have hz := Blk.new wr #[.int .u64 0, .int .u64 0, .int .u64 0, .int .u64 0] 84
   have hZ := hid hz
   have hXr := hid (hX2.out.chg hchg id)
   have hCr := hid hchg
   clear hz hchg
   go_wp2_with (with_reducible refine halt_op (.store 84 (.tmp 7) (.tmp 15)) ?_)
   unfold Halted
   refine store_blk rfl 84 (.tmp 7) (.tmp 15) (by rfl) _ (by rfl) _ (by rfl) hZ.out (by rfl) (by exact sizeCls) (by rfl) ?_
   intro w3 hB3 hc3
   have hcz := hid (((Chg.refl Nothing wr).alloc (.cells #[.int .u64 0, .int .u64 0, .int .u64 0, .int .u64 0] 84)).then hc3 (fun i hi h => absurd (show i = wr.heap.size from h) (by omega)))
   have hX3 := hid (hXr.out.chg hcz.out id)
   have hC3 := hid (hCr.out.trans hcz.out)
   have hCw := hid (hC2.out.trans hC3.out)
   obtain ⟨r0, r1, r2, r3, -, -, -, -, hlt1⟩ := CBox.at_ (show CBox w3 wr.heap.size y from hB3)
   have x0 := hX3.out.cell 0 (v := .slice A n c) rfl
   have x1 := hX3.out.cell 1 (v := .int .i64 K) rfl
   clear hB3 hc3 hZ d0 d1 d2 d3 hXr hCr hOr
   go_wp2_with fail
   refine (hW3.out _ hCw.out).mono ?_
   rintro e w4 ⟨⟨A4, c4, rfl⟩, hc4⟩
   have hC4 := hid (hC3.out.trans hc4)
   clear r0 r1 r2 r3 x0 x1 hc4
   by_cases h3 : 3 ≤ wn
   ·have e3 : decide ((3 : Int) ≤ (wn : Int)) = true := decide_eq_true (by omega)
    have hst2 := hid (show partsTo xs (k + 1) = (f + 1, p) from by rw [hst.out, if_pos h3])
    go_wp2
    go_roundw
    case rel => exact ⟨k + 1, hkn, by go_num, by rw [hst2.out]; go_num, by rw [hst2.out], hC4.out⟩
    case measure => simp [intOf]; omega
   ·have e3 : decide ((3 : Int) ≤ (wn : Int)) = false := decide_eq_false (by omega)
    have hst2 := hid (show partsTo xs (k + 1) = (f, p + wn) from by rw [hst.out, if_neg h3])
    go_wp2
    go_roundw
    case rel => exact ⟨k + 1, hkn, by go_num, by rw [hst2.out], by rw [hst2.out]; go_num, hC4.out⟩
    case measure => simp [intOf]; omega
  ·obtain rfl : k = NK := by omega
   have hd : decide ((k : Int) < (k : Int)) = false := decide_eq_false (by omega)
   have hCr := hid (hC2.out.trans hchg)
   clear hchg
   go_wp2
   go_ret2
   exact ⟨rfl, hCr.out⟩
theorem refParts_any (F : Nat → Prop) (A : Option Addr) (n c : Nat) (xs : List Cls) (K : Int) (w : World) (H : ClsRow F w A n c xs) (hl : xs.length = n) (hn9 : n ≤ 100000000) :
    Calls Tryz.prog 69 #[.agg #[.slice A n c, .int .i64 K]] w fun e w' => e = .returned (.tuple #[.int .i64 (partsF xs : Nat), .int .i64 (partsP xs : Nat)]) ∧ Chg Nothing w w' := by
  have hX := Blk.new w #[.slice A n c, .int .i64 K] 34
  have x0 := hX.cell 0 (v := .slice A n c) rfl
  have x1 := hX.cell 1 (v := .int .i64 K) rfl
  have hXh := hid hX
  have hw0 := hid ((Chg.refl Nothing w).alloc (.cells #[.slice A n c, .int .i64 K] 34))
  have hK := hid (refKinds_any F A n c xs K (w.alloc (.cells #[.slice A n c, .int .i64 K] 34)) (H.chg hw0.out (fun _ _ _ h => h)) hl (by omega))
  have hWh := hid (fun (v : Cls) (w' : World) (hc : Chg Nothing w w') => (show Calls Tryz.prog 109 #[.agg #[.slice A n c, .int .i64 K], .agg #[.int .u64 (wd v 0), .int .u64 (wd v 1), .int .u64 (wd v 2), .int .u64 (wd v 3)]] w' fun e w'' => (∃ A' c', e = .returned (.slice A' (whereN xs v) c')) ∧ Chg Nothing w' w'' from
    (refWhere_any F A n c xs K v w' (H.chg hc (fun _ _ _ h => h)) hl (by omega)).mono (fun e w'' ⟨⟨A', c', he, _⟩, hc2⟩ => ⟨⟨A', c', by rw [he, ← hl]; rfl⟩, hc2⟩)))
  have hkl := kindsL_len xs
  have hpf : partsF xs = (partsTo xs (kindsL xs).length).1 := rfl
  have hpp : partsP xs = (partsTo xs (kindsL xs).length).2 := rfl
  rw [hpf, hpp]
  obtain ⟨NK, hNK⟩ : ∃ NK, NK = (kindsL xs).length := ⟨_, rfl⟩
  rw [← hNK] at hK hkl ⊢
  replace hNK := hid hNK
  rw [hl] at hkl
  have hlh := hid hl
  clear H hX hl hpf hpp
  go_enter Tryz.func69, Tryz.ntmps69
  go_wp2_with fail
  refine hK.out.mono ?_
  rintro e w2 ⟨A2, c2, rfl, hO2, hc2⟩
  have hC2 := hid (hw0.out.trans hc2)
  have hX2 := hid (hXh.out.chg hc2 id)
  have hO2h := hid hO2
  clear hO2 hc2 x0 x1 hK hXh
  go_wp2_with fail
  go_loopw [5, 6, 7] (fun fv pv iv wr => PaInv xs NK w2 fv pv iv wr) (fun _ _ iv _ => NK - (intOf iv).toNat)
  case atStart => exact ⟨0, Nat.zero_le _, rfl, rfl, rfl, Chg.refl _ _⟩
  case round =>
    obtain ⟨k, hk, rfl, rfl, rfl, hchg⟩ := hrel
    rcases Nat.lt_or_ge k NK with hkn | hkn
    · have hk0 : (0 : Int) ≤ (k : Int) := by omega
      have hkI : (k : Int) < (NK : Int) := by omega
      have hOr := hid (own_chg hO2h.out hchg (fun _ _ h => h))
      obtain ⟨g, o, rfl, -, hgl, d0, d1, d2, d3⟩ := ClsRow.four (RowAt.of_own hOr.out) hNK.out.symm hkn
      have hdm := Nat.le_trans (RowAt.of_own hOr.out).le (RowAt.of_own hOr.out).max
      obtain ⟨y, hyd⟩ : ∃ y, y = (kindsL xs).getD k 0 := ⟨_, rfl⟩
      rw [← hyd] at d0 d1 d2 d3
      have hst := hid (show partsTo xs (k + 1) = if 3 ≤ whereN xs y then ((partsTo xs k).1 + 1, (partsTo xs k).2) else ((partsTo xs k).1, (partsTo xs k).2 + whereN xs y) from by rw [hyd]; rfl)
      have hbd := partsTo_bound xs k
      have hwl := whereN_le xs y
      rw [hlh.out] at hwl
      replace hyd := hid hyd
      obtain ⟨f, hf⟩ : ∃ f, f = (partsTo xs k).1 := ⟨_, rfl⟩
      obtain ⟨p, hp⟩ : ∃ p, p = (partsTo xs k).2 := ⟨_, rfl⟩
      obtain ⟨wn, hwn⟩ : ∃ wn, wn = whereN xs y := ⟨_, rfl⟩
      have hW3 := hid (fun (nn : Calm wr) (hc : Chg Nothing w wr) => hWh.out y nn.val (hc.trans nn.chg))
      rw [← hf, ← hp] at hbd hst ⊢
      rw [← hwn] at hwl hst hW3
      replace hf := hid hf
      replace hp := hid hp
      replace hwn := hid hwn
      have hXr := hX2.out.chg hchg id
      have x0 := hXr.cell 0 (v := .slice A n c) rfl
      have x1 := hXr.cell 1 (v := .int .i64 K) rfl
      have hCr := hid hchg
      have hCw := hid (hC2.out.trans hchg)
      have hS := hid (fun (w' : World) (hc : Chg Nothing wr w') => (⟨(hXr.chg hc id).cell 0 rfl, (hXr.chg hc id).cell 1 rfl, (hc.cells.1 _ _ hgl).trans d0, (hc.cells.1 _ _ hgl).trans d1, (hc.cells.1 _ _ hgl).trans d2, (hc.cells.1 _ _ hgl).trans d3⟩ : w'.cell? ⟨w.heap.size, 0, none⟩ = some (.slice A n c) ∧ w'.cell? ⟨w.heap.size, 1, none⟩ = some (.int .i64 K) ∧ w'.cell? ⟨g, o + k * 4, none⟩ = some (.int .u64 (wd y 0)) ∧ w'.cell? ⟨g, o + k * 4 + 1, none⟩ = some (.int .u64 (wd y 1)) ∧ w'.cell? ⟨g, o + k * 4 + 2, none⟩ = some (.int .u64 (wd y 2)) ∧ w'.cell? ⟨g, o + k * 4 + 3, none⟩ = some (.int .u64 (wd y 3))))
      have hcur := hid ((Chg.refl Nothing wr).drew)
      clear hXr hchg x0 x1 d0 d1 d2 d3
      go_wp2_with fail
      go_region_held3 (fun w' => w'.cell? ⟨w.heap.size, 0, none⟩ = some (.slice A n c) ∧ w'.cell? ⟨w.heap.size, 1, none⟩ = some (.int .i64 K) ∧ w'.cell? ⟨g, o + k * 4, none⟩ = some (.int .u64 (wd y 0)) ∧ w'.cell? ⟨g, o + k * 4 + 1, none⟩ = some (.int .u64 (wd y 1)) ∧ w'.cell? ⟨g, o + k * 4 + 2, none⟩ = some (.int .u64 (wd y 2)) ∧ w'.cell? ⟨g, o + k * 4 + 3, none⟩ = some (.int .u64 (wd y 3)))
        (exact hS.out _ hcur.out)
        (first | (go_at_call 109; with_reducible refine (hW3.out ⟨_, hcur.out⟩ hCw.out).mono ?_; rintro e w4 ⟨⟨A4, c4, rfl⟩, hc4⟩; replace hcur := hid (hcur.out.trans hc4); replace hc4 := hid hc4))
      all_goals
       have hC4 := hid (hCr.out.trans hcur.out)
       clear hS hcur hc4
       by_cases h3 : 3 ≤ wn
       · have e3 : decide ((3 : Int) ≤ (wn : Int)) = true := decide_eq_true (by omega)
         have hst2 := hid (show partsTo xs (k + 1) = (f + 1, p) from by rw [hst.out, if_pos h3])
         go_wp2
         go_roundw
         case rel => exact ⟨k + 1, hkn, by go_num, by rw [hst2.out]; go_num, by rw [hst2.out], hC4.out⟩
         case measure => simp [intOf]; omega
       · have e3 : decide ((3 : Int) ≤ (wn : Int)) = false := decide_eq_false (by omega)
         have hst2 := hid (show partsTo xs (k + 1) = (f, p + wn) from by rw [hst.out, if_neg h3])
         go_wp2
         go_roundw
         case rel => exact ⟨k + 1, hkn, by go_num, by rw [hst2.out], by rw [hst2.out]; go_num, hC4.out⟩
         case measure => simp [intOf]; omega
    · obtain rfl : k = NK := by omega
      have hd : decide ((k : Int) < (k : Int)) = false := decide_eq_false (by omega)
      have hCr := hid (hC2.out.trans hchg)
      clear hchg
      go_wp2
      go_ret2
      exact ⟨rfl, hCr.out⟩
def sizedM (xs : List Cls) (K way n size : Int) : Bool := admitsB xs K way && (decide (way = 1) || decide (way = 2) || (decide (way = 5) && decide (partsF xs = 0)) || !sizeBad xs.length n size)
theorem planSized_any (F : Nat → Prop) (A : Option Addr) (m c : Nat) (xs : List Cls) (K way n size : Int) (w : World) (H : ClsRow F w A m c xs) (hl : xs.length = m) (hn9 : m ≤ 100000000) :
  Calls Tryz.prog 34 #[.int .i64 way, .agg #[.slice A m c, .int .i64 K], .int .i64 n, .int .i64 size] w fun e w' => e = .returned (.bool (sizedM xs K way n size)) ∧ Chg Nothing w w' := by
 have hX := Blk.new w #[.slice A m c, .int .i64 K] 34
 have x0 := hX.cell 0 (v := .slice A m c) rfl
 have x1 := hX.cell 1 (v := .int .i64 K) rfl
 have hxl := hX.lt
 have hw0 := hid ((Chg.refl Nothing w).alloc (.cells #[.slice A m c, .int .i64 K] 34))
 have hAd := hid (fun (w' : World) (hc : Chg Nothing w w') => planAdmits_any F A m c xs K way w' (H.chg hc (fun _ _ _ h => h)) hl (by omega))
 have hPt := hid (fun (w' : World) (hc : Chg Nothing w w') => planParts_any F A m c xs K w' (H.chg hc (fun _ _ _ h => h)) hl hn9)
 have hmx := H.max
 have hle := H.le
 have hLg := hid (fun w => nttLog_any size w)
 unfold sizedM
 rw [hl]
 generalize admitsB xs K way = adm at hAd ⊢
 generalize partsF xs = pf at hPt ⊢
 generalize partsP xs = pp at hPt
 unfold sizeBad
 obtain ⟨lv, hlv⟩ : ∃ lv : Nat, lv = (logS size).getD 0 := ⟨_, rfl⟩
 rw [← hlv] at hLg
 clear hlv
 generalize (logS size).isSome = lg at hLg ⊢
 clear hX H hl
 by_cases h1 : way = 1
 ·subst h1
  cases adm with
  | false =>
   go_enter Tryz.func34, Tryz.ntmps34
   go_wp2_with fail
   refine (hLg.out _).mono ?_
   rintro e w' ⟨rfl, rfl⟩
   go_wp2_with fail
   refine (hPt.out _ hw0.out).mono ?_
   rintro e w2 ⟨rfl, hc2⟩
   have y20 := (hc2.cells.1 _ _ hxl).trans x0
   have y21 := (hc2.cells.1 _ _ hxl).trans x1
   have hl2 := Nat.lt_of_lt_of_le hxl hc2.size
   have hC2 := hid (hw0.out.trans hc2)
   clear hc2 x0 x1 hxl
   go_wp2_with fail
   refine (hAd.out _ hC2.out).mono ?_
   rintro e w3 ⟨rfl, hc3⟩
   have y30 := (hc3.cells.1 _ _ hl2).trans y20
   have y31 := (hc3.cells.1 _ _ hl2).trans y21
   have hl3 := Nat.lt_of_lt_of_le hl2 hc3.size
   have hC3 := hid (hC2.out.trans hc3)
   clear hc3 y20 y21 hl2
   go_wp2
   go_ret
   exact ⟨by first | rfl | (simp []; done), hC3.out⟩
  | true =>
   go_enter Tryz.func34, Tryz.ntmps34
   go_wp2_with fail
   refine (hLg.out _).mono ?_
   rintro e w' ⟨rfl, rfl⟩
   go_wp2_with fail
   refine (hPt.out _ hw0.out).mono ?_
   rintro e w2 ⟨rfl, hc2⟩
   have y20 := (hc2.cells.1 _ _ hxl).trans x0
   have y21 := (hc2.cells.1 _ _ hxl).trans x1
   have hl2 := Nat.lt_of_lt_of_le hxl hc2.size
   have hC2 := hid (hw0.out.trans hc2)
   clear hc2 x0 x1 hxl
   go_wp2_with fail
   refine (hAd.out _ hC2.out).mono ?_
   rintro e w3 ⟨rfl, hc3⟩
   have y30 := (hc3.cells.1 _ _ hl2).trans y20
   have y31 := (hc3.cells.1 _ _ hl2).trans y21
   have hl3 := Nat.lt_of_lt_of_le hl2 hc3.size
   have hC3 := hid (hC2.out.trans hc3)
   clear hc3 y20 y21 hl2
   go_wp2
   go_ret
   exact ⟨by first | rfl | (simp []; done), hC3.out⟩
 by_cases h2 : way = 2
 ·subst h2
  cases adm with
  | false =>
   go_enter Tryz.func34, Tryz.ntmps34
   go_wp2_with fail
   refine (hLg.out _).mono ?_
   rintro e w' ⟨rfl, rfl⟩
   go_wp2_with fail
   refine (hPt.out _ hw0.out).mono ?_
   rintro e w2 ⟨rfl, hc2⟩
   have y20 := (hc2.cells.1 _ _ hxl).trans x0
   have y21 := (hc2.cells.1 _ _ hxl).trans x1
   have hl2 := Nat.lt_of_lt_of_le hxl hc2.size
   have hC2 := hid (hw0.out.trans hc2)
   clear hc2 x0 x1 hxl
   go_wp2_with fail
   refine (hAd.out _ hC2.out).mono ?_
   rintro e w3 ⟨rfl, hc3⟩
   have y30 := (hc3.cells.1 _ _ hl2).trans y20
   have y31 := (hc3.cells.1 _ _ hl2).trans y21
   have hl3 := Nat.lt_of_lt_of_le hl2 hc3.size
   have hC3 := hid (hC2.out.trans hc3)
   clear hc3 y20 y21 hl2
   go_wp2
   go_ret
   exact ⟨by first | rfl | (simp []; done), hC3.out⟩
  | true =>
   go_enter Tryz.func34, Tryz.ntmps34
   go_wp2_with fail
   refine (hLg.out _).mono ?_
   rintro e w' ⟨rfl, rfl⟩
   go_wp2_with fail
   refine (hPt.out _ hw0.out).mono ?_
   rintro e w2 ⟨rfl, hc2⟩
   have y20 := (hc2.cells.1 _ _ hxl).trans x0
   have y21 := (hc2.cells.1 _ _ hxl).trans x1
   have hl2 := Nat.lt_of_lt_of_le hxl hc2.size
   have hC2 := hid (hw0.out.trans hc2)
   clear hc2 x0 x1 hxl
   go_wp2_with fail
   refine (hAd.out _ hC2.out).mono ?_
   rintro e w3 ⟨rfl, hc3⟩
   have y30 := (hc3.cells.1 _ _ hl2).trans y20
   have y31 := (hc3.cells.1 _ _ hl2).trans y21
   have hl3 := Nat.lt_of_lt_of_le hl2 hc3.size
   have hC3 := hid (hC2.out.trans hc3)
   clear hc3 y20 y21 hl2
   go_wp2
   go_ret
   exact ⟨by first | rfl | (simp []; done), hC3.out⟩
 by_cases h5 : way = 5
 ·subst h5
  by_cases hf : pf = 0
  ·subst hf
   cases adm with
   | false =>
    go_enter Tryz.func34, Tryz.ntmps34
    go_wp2_with fail
    refine (hLg.out _).mono ?_
    rintro e w' ⟨rfl, rfl⟩
    go_wp2_with fail
    refine (hPt.out _ hw0.out).mono ?_
    rintro e w2 ⟨rfl, hc2⟩
    have y20 := (hc2.cells.1 _ _ hxl).trans x0
    have y21 := (hc2.cells.1 _ _ hxl).trans x1
    have hl2 := Nat.lt_of_lt_of_le hxl hc2.size
    have hC2 := hid (hw0.out.trans hc2)
    clear hc2 x0 x1 hxl
    go_wp2_with fail
    refine (hAd.out _ hC2.out).mono ?_
    rintro e w3 ⟨rfl, hc3⟩
    have y30 := (hc3.cells.1 _ _ hl2).trans y20
    have y31 := (hc3.cells.1 _ _ hl2).trans y21
    have hl3 := Nat.lt_of_lt_of_le hl2 hc3.size
    have hC3 := hid (hC2.out.trans hc3)
    clear hc3 y20 y21 hl2
    go_wp2
    go_ret
    exact ⟨by first | rfl | (simp []; done), hC3.out⟩
   | true =>
    go_enter Tryz.func34, Tryz.ntmps34
    go_wp2_with fail
    refine (hLg.out _).mono ?_
    rintro e w' ⟨rfl, rfl⟩
    go_wp2_with fail
    refine (hPt.out _ hw0.out).mono ?_
    rintro e w2 ⟨rfl, hc2⟩
    have y20 := (hc2.cells.1 _ _ hxl).trans x0
    have y21 := (hc2.cells.1 _ _ hxl).trans x1
    have hl2 := Nat.lt_of_lt_of_le hxl hc2.size
    have hC2 := hid (hw0.out.trans hc2)
    clear hc2 x0 x1 hxl
    go_wp2_with fail
    refine (hAd.out _ hC2.out).mono ?_
    rintro e w3 ⟨rfl, hc3⟩
    have y30 := (hc3.cells.1 _ _ hl2).trans y20
    have y31 := (hc3.cells.1 _ _ hl2).trans y21
    have hl3 := Nat.lt_of_lt_of_le hl2 hc3.size
    have hC3 := hid (hC2.out.trans hc3)
    clear hc3 y20 y21 hl2
    go_wp2
    go_ret
    exact ⟨by first | rfl | (simp []; done), hC3.out⟩
  ·have f1 : ((pf : Int) == 0) = false := beq_eq_false_iff_ne.2 (by omega)
   have f2 : decide (pf = 0) = false := decide_eq_false hf
   replace hf := hid hf
   cases adm with
   | false =>
    go_enter Tryz.func34, Tryz.ntmps34
    go_wp2_with fail
    refine (hLg.out _).mono ?_
    rintro e w' ⟨rfl, rfl⟩
    go_wp2_with fail
    refine (hPt.out _ hw0.out).mono ?_
    rintro e w2 ⟨rfl, hc2⟩
    have y20 := (hc2.cells.1 _ _ hxl).trans x0
    have y21 := (hc2.cells.1 _ _ hxl).trans x1
    have hl2 := Nat.lt_of_lt_of_le hxl hc2.size
    have hC2 := hid (hw0.out.trans hc2)
    clear hc2 x0 x1 hxl
    go_wp2_with fail
    refine (hAd.out _ hC2.out).mono ?_
    rintro e w3 ⟨rfl, hc3⟩
    have y30 := (hc3.cells.1 _ _ hl2).trans y20
    have y31 := (hc3.cells.1 _ _ hl2).trans y21
    have hl3 := Nat.lt_of_lt_of_le hl2 hc3.size
    have hC3 := hid (hC2.out.trans hc3)
    clear hc3 y20 y21 hl2
    go_wp2
    go_ret
    exact ⟨by first | rfl | (simp [f2]; done), hC3.out⟩
   | true =>
    by_cases hmn : n < (m : Int)
    ·have g1 : decide (n < (m : Int)) = true := decide_eq_true hmn
     have g2 : decide ((m : Int) ≤ n) = false := decide_eq_false (by omega)
     go_enter Tryz.func34, Tryz.ntmps34
     go_wp2_with fail
     refine (hLg.out _).mono ?_
     rintro e w' ⟨rfl, rfl⟩
     go_wp2_with fail
     refine (hPt.out _ hw0.out).mono ?_
     rintro e w2 ⟨rfl, hc2⟩
     have y20 := (hc2.cells.1 _ _ hxl).trans x0
     have y21 := (hc2.cells.1 _ _ hxl).trans x1
     have hl2 := Nat.lt_of_lt_of_le hxl hc2.size
     have hC2 := hid (hw0.out.trans hc2)
     clear hc2 x0 x1 hxl
     go_wp2_with fail
     refine (hAd.out _ hC2.out).mono ?_
     rintro e w3 ⟨rfl, hc3⟩
     have y30 := (hc3.cells.1 _ _ hl2).trans y20
     have y31 := (hc3.cells.1 _ _ hl2).trans y21
     have hl3 := Nat.lt_of_lt_of_le hl2 hc3.size
     have hC3 := hid (hC2.out.trans hc3)
     clear hc3 y20 y21 hl2
     go_wp2
     go_ret
     exact ⟨by first | rfl | (simp [f2, g1, g2]; done), hC3.out⟩
    have g1 : decide (n < (m : Int)) = false := decide_eq_false hmn
    have g2 : decide ((m : Int) ≤ n) = true := decide_eq_true (by omega)
    replace hmn := hid hmn
    cases lg with
    | false =>
     go_enter Tryz.func34, Tryz.ntmps34
     go_wp2_with fail
     refine (hLg.out _).mono ?_
     rintro e w' ⟨rfl, rfl⟩
     go_wp2_with fail
     refine (hPt.out _ hw0.out).mono ?_
     rintro e w2 ⟨rfl, hc2⟩
     have y20 := (hc2.cells.1 _ _ hxl).trans x0
     have y21 := (hc2.cells.1 _ _ hxl).trans x1
     have hl2 := Nat.lt_of_lt_of_le hxl hc2.size
     have hC2 := hid (hw0.out.trans hc2)
     clear hc2 x0 x1 hxl
     go_wp2_with fail
     refine (hAd.out _ hC2.out).mono ?_
     rintro e w3 ⟨rfl, hc3⟩
     have y30 := (hc3.cells.1 _ _ hl2).trans y20
     have y31 := (hc3.cells.1 _ _ hl2).trans y21
     have hl3 := Nat.lt_of_lt_of_le hl2 hc3.size
     have hC3 := hid (hC2.out.trans hc3)
     clear hc3 y20 y21 hl2
     go_wp2
     go_ret
     exact ⟨by first | rfl | (simp [f2, g1, g2]; done), hC3.out⟩
    | true =>
     by_cases hs : (m : Int) ≤ size
     ·have g3 : decide ((m : Int) ≤ size) = true := decide_eq_true hs
      have g4 : decide (size < (m : Int)) = false := decide_eq_false (by omega)
      replace hs := hid hs
      go_enter Tryz.func34, Tryz.ntmps34
      go_wp2_with fail
      refine (hLg.out _).mono ?_
      rintro e w' ⟨rfl, rfl⟩
      go_wp2_with fail
      refine (hPt.out _ hw0.out).mono ?_
      rintro e w2 ⟨rfl, hc2⟩
      have y20 := (hc2.cells.1 _ _ hxl).trans x0
      have y21 := (hc2.cells.1 _ _ hxl).trans x1
      have hl2 := Nat.lt_of_lt_of_le hxl hc2.size
      have hC2 := hid (hw0.out.trans hc2)
      clear hc2 x0 x1 hxl
      go_wp2_with fail
      refine (hAd.out _ hC2.out).mono ?_
      rintro e w3 ⟨rfl, hc3⟩
      have y30 := (hc3.cells.1 _ _ hl2).trans y20
      have y31 := (hc3.cells.1 _ _ hl2).trans y21
      have hl3 := Nat.lt_of_lt_of_le hl2 hc3.size
      have hC3 := hid (hC2.out.trans hc3)
      clear hc3 y20 y21 hl2
      go_wp2
      go_ret
      exact ⟨by first | rfl | (simp [f2, g1, g2, g3, g4]; done), hC3.out⟩
     ·have g3 : decide ((m : Int) ≤ size) = false := decide_eq_false hs
      have g4 : decide (size < (m : Int)) = true := decide_eq_true (by omega)
      replace hs := hid hs
      go_enter Tryz.func34, Tryz.ntmps34
      go_wp2_with fail
      refine (hLg.out _).mono ?_
      rintro e w' ⟨rfl, rfl⟩
      go_wp2_with fail
      refine (hPt.out _ hw0.out).mono ?_
      rintro e w2 ⟨rfl, hc2⟩
      have y20 := (hc2.cells.1 _ _ hxl).trans x0
      have y21 := (hc2.cells.1 _ _ hxl).trans x1
      have hl2 := Nat.lt_of_lt_of_le hxl hc2.size
      have hC2 := hid (hw0.out.trans hc2)
      clear hc2 x0 x1 hxl
      go_wp2_with fail
      refine (hAd.out _ hC2.out).mono ?_
      rintro e w3 ⟨rfl, hc3⟩
      have y30 := (hc3.cells.1 _ _ hl2).trans y20
      have y31 := (hc3.cells.1 _ _ hl2).trans y21
      have hl3 := Nat.lt_of_lt_of_le hl2 hc3.size
      have hC3 := hid (hC2.out.trans hc3)
      clear hc3 y20 y21 hl2
      go_wp2
      go_ret
      exact ⟨by first | rfl | (simp [f2, g1, g2, g3, g4]; done), hC3.out⟩
 have n1 : (way == 1) = false := beq_eq_false_iff_ne.2 h1
 have d1 : decide (way = 1) = false := decide_eq_false h1
 replace h1 := hid h1
 have n2 : (way == 2) = false := beq_eq_false_iff_ne.2 h2
 have d2 : decide (way = 2) = false := decide_eq_false h2
 replace h2 := hid h2
 have n5 : (way == 5) = false := beq_eq_false_iff_ne.2 h5
 have d5 : decide (way = 5) = false := decide_eq_false h5
 replace h5 := hid h5
 cases adm with
 | false =>
  go_enter Tryz.func34, Tryz.ntmps34
  go_wp2_with fail
  refine (hLg.out _).mono ?_
  rintro e w' ⟨rfl, rfl⟩
  go_wp2_with fail
  refine (hPt.out _ hw0.out).mono ?_
  rintro e w2 ⟨rfl, hc2⟩
  have y20 := (hc2.cells.1 _ _ hxl).trans x0
  have y21 := (hc2.cells.1 _ _ hxl).trans x1
  have hl2 := Nat.lt_of_lt_of_le hxl hc2.size
  have hC2 := hid (hw0.out.trans hc2)
  clear hc2 x0 x1 hxl
  go_wp2_with fail
  refine (hAd.out _ hC2.out).mono ?_
  rintro e w3 ⟨rfl, hc3⟩
  have y30 := (hc3.cells.1 _ _ hl2).trans y20
  have y31 := (hc3.cells.1 _ _ hl2).trans y21
  have hl3 := Nat.lt_of_lt_of_le hl2 hc3.size
  have hC3 := hid (hC2.out.trans hc3)
  clear hc3 y20 y21 hl2
  go_wp2
  go_ret
  exact ⟨by first | rfl | (simp [d1, d2, d5]; done), hC3.out⟩
 | true =>
  by_cases hmn : n < (m : Int)
  ·have g1 : decide (n < (m : Int)) = true := decide_eq_true hmn
   have g2 : decide ((m : Int) ≤ n) = false := decide_eq_false (by omega)
   go_enter Tryz.func34, Tryz.ntmps34
   go_wp2_with fail
   refine (hLg.out _).mono ?_
   rintro e w' ⟨rfl, rfl⟩
   go_wp2_with fail
   refine (hPt.out _ hw0.out).mono ?_
   rintro e w2 ⟨rfl, hc2⟩
   have y20 := (hc2.cells.1 _ _ hxl).trans x0
   have y21 := (hc2.cells.1 _ _ hxl).trans x1
   have hl2 := Nat.lt_of_lt_of_le hxl hc2.size
   have hC2 := hid (hw0.out.trans hc2)
   clear hc2 x0 x1 hxl
   go_wp2_with fail
   refine (hAd.out _ hC2.out).mono ?_
   rintro e w3 ⟨rfl, hc3⟩
   have y30 := (hc3.cells.1 _ _ hl2).trans y20
   have y31 := (hc3.cells.1 _ _ hl2).trans y21
   have hl3 := Nat.lt_of_lt_of_le hl2 hc3.size
   have hC3 := hid (hC2.out.trans hc3)
   clear hc3 y20 y21 hl2
   go_wp2
   go_ret
   exact ⟨by first | rfl | (simp [d1, d2, d5, g1, g2]; done), hC3.out⟩
  have g1 : decide (n < (m : Int)) = false := decide_eq_false hmn
  have g2 : decide ((m : Int) ≤ n) = true := decide_eq_true (by omega)
  replace hmn := hid hmn
  cases lg with
  | false =>
   go_enter Tryz.func34, Tryz.ntmps34
   go_wp2_with fail
   refine (hLg.out _).mono ?_
   rintro e w' ⟨rfl, rfl⟩
   go_wp2_with fail
   refine (hPt.out _ hw0.out).mono ?_
   rintro e w2 ⟨rfl, hc2⟩
   have y20 := (hc2.cells.1 _ _ hxl).trans x0
   have y21 := (hc2.cells.1 _ _ hxl).trans x1
   have hl2 := Nat.lt_of_lt_of_le hxl hc2.size
   have hC2 := hid (hw0.out.trans hc2)
   clear hc2 x0 x1 hxl
   go_wp2_with fail
   refine (hAd.out _ hC2.out).mono ?_
   rintro e w3 ⟨rfl, hc3⟩
   have y30 := (hc3.cells.1 _ _ hl2).trans y20
   have y31 := (hc3.cells.1 _ _ hl2).trans y21
   have hl3 := Nat.lt_of_lt_of_le hl2 hc3.size
   have hC3 := hid (hC2.out.trans hc3)
   clear hc3 y20 y21 hl2
   go_wp2
   go_ret
   exact ⟨by first | rfl | (simp [d1, d2, d5, g1, g2]; done), hC3.out⟩
  | true =>
   by_cases hs : (m : Int) ≤ size
   ·have g3 : decide ((m : Int) ≤ size) = true := decide_eq_true hs
    have g4 : decide (size < (m : Int)) = false := decide_eq_false (by omega)
    replace hs := hid hs
    go_enter Tryz.func34, Tryz.ntmps34
    go_wp2_with fail
    refine (hLg.out _).mono ?_
    rintro e w' ⟨rfl, rfl⟩
    go_wp2_with fail
    refine (hPt.out _ hw0.out).mono ?_
    rintro e w2 ⟨rfl, hc2⟩
    have y20 := (hc2.cells.1 _ _ hxl).trans x0
    have y21 := (hc2.cells.1 _ _ hxl).trans x1
    have hl2 := Nat.lt_of_lt_of_le hxl hc2.size
    have hC2 := hid (hw0.out.trans hc2)
    clear hc2 x0 x1 hxl
    go_wp2_with fail
    refine (hAd.out _ hC2.out).mono ?_
    rintro e w3 ⟨rfl, hc3⟩
    have y30 := (hc3.cells.1 _ _ hl2).trans y20
    have y31 := (hc3.cells.1 _ _ hl2).trans y21
    have hl3 := Nat.lt_of_lt_of_le hl2 hc3.size
    have hC3 := hid (hC2.out.trans hc3)
    clear hc3 y20 y21 hl2
    go_wp2
    go_ret
    exact ⟨by first | rfl | (simp [d1, d2, d5, g1, g2, g3, g4]; done), hC3.out⟩
   ·have g3 : decide ((m : Int) ≤ size) = false := decide_eq_false hs
    have g4 : decide (size < (m : Int)) = true := decide_eq_true (by omega)
    replace hs := hid hs
    go_enter Tryz.func34, Tryz.ntmps34
    go_wp2_with fail
    refine (hLg.out _).mono ?_
    rintro e w' ⟨rfl, rfl⟩
    go_wp2_with fail
    refine (hPt.out _ hw0.out).mono ?_
    rintro e w2 ⟨rfl, hc2⟩
    have y20 := (hc2.cells.1 _ _ hxl).trans x0
    have y21 := (hc2.cells.1 _ _ hxl).trans x1
    have hl2 := Nat.lt_of_lt_of_le hxl hc2.size
    have hC2 := hid (hw0.out.trans hc2)
    clear hc2 x0 x1 hxl
    go_wp2_with fail
    refine (hAd.out _ hC2.out).mono ?_
    rintro e w3 ⟨rfl, hc3⟩
    have y30 := (hc3.cells.1 _ _ hl2).trans y20
    have y31 := (hc3.cells.1 _ _ hl2).trans y21
    have hl3 := Nat.lt_of_lt_of_le hl2 hc3.size
    have hC3 := hid (hC2.out.trans hc3)
    clear hc3 y20 y21 hl2
    go_wp2
    go_ret
    exact ⟨by first | rfl | (simp [d1, d2, d5, g1, g2, g3, g4]; done), hC3.out⟩
theorem refSized16_any (F : Nat → Prop) (A : Option Addr) (m c : Nat) (xs : List Cls) (K way n size : Int) (w : World) (H : ClsRow F w A m c xs) (hl : xs.length = m) (hn9 : m ≤ 100000000) :
  Calls Tryz.prog 36 #[.int .i64 way, .agg #[.slice A m c, .int .i64 K], .int .i64 n, .int .i64 size] w fun e w' => e = .returned (.bool (sizedM xs K way n size)) ∧ Chg Nothing w w' := by
 have hX := Blk.new w #[.slice A m c, .int .i64 K] 34
 have x0 := hX.cell 0 (v := .slice A m c) rfl
 have x1 := hX.cell 1 (v := .int .i64 K) rfl
 have hxl := hX.lt
 have hw0 := hid ((Chg.refl Nothing w).alloc (.cells #[.slice A m c, .int .i64 K] 34))
 have hAd := hid (fun (w' : World) (hc : Chg Nothing w w') => refAdmits_any F A m c xs K way w' (H.chg hc (fun _ _ _ h => h)) hl (by omega))
 have hPt := hid (fun (w' : World) (hc : Chg Nothing w w') => refParts_any F A m c xs K w' (H.chg hc (fun _ _ _ h => h)) hl hn9)
 have hmx := H.max
 have hle := H.le
 have hSz := hid (fun w => refSize_bad m n size w)
 unfold sizedM
 rw [hl]
 generalize admitsB xs K way = adm at hAd ⊢
 generalize partsF xs = pf at hPt ⊢
 generalize partsP xs = pp at hPt
 generalize sizeBad m n size = sb at hSz ⊢
 clear hX H hl
 cases adm with
 | false =>
  go_enter Tryz.func36, Tryz.ntmps36
  go_wp2_with fail
  refine (hAd.out _ hw0.out).mono ?_
  rintro e w1 ⟨rfl, hc1⟩
  have y10 := (hc1.cells.1 _ _ hxl).trans x0
  have y11 := (hc1.cells.1 _ _ hxl).trans x1
  have hl1 := Nat.lt_of_lt_of_le hxl hc1.size
  have hC1 := hid (hw0.out.trans hc1)
  clear hc1 x0 x1 hxl
  go_wp2
  go_ret
  exact ⟨by first | rfl | (simp []; done), hC1.out⟩
 | true =>
  by_cases h1 : way = 1
  ·subst h1
   go_enter Tryz.func36, Tryz.ntmps36
   go_wp2_with fail
   refine (hAd.out _ hw0.out).mono ?_
   rintro e w1 ⟨rfl, hc1⟩
   have y10 := (hc1.cells.1 _ _ hxl).trans x0
   have y11 := (hc1.cells.1 _ _ hxl).trans x1
   have hl1 := Nat.lt_of_lt_of_le hxl hc1.size
   have hC1 := hid (hw0.out.trans hc1)
   clear hc1 x0 x1 hxl
   go_wp2_with fail
   refine (hPt.out _ hC1.out).mono ?_
   rintro e w2 ⟨rfl, hc2⟩
   have y20 := (hc2.cells.1 _ _ hl1).trans y10
   have y21 := (hc2.cells.1 _ _ hl1).trans y11
   have hl2 := Nat.lt_of_lt_of_le hl1 hc2.size
   have hC2 := hid (hC1.out.trans hc2)
   clear hc2 y10 y11 hl1
   go_wp2
   go_ret
   exact ⟨by first | rfl | (simp []; done), hC2.out⟩
  by_cases h2 : way = 2
  ·subst h2
   go_enter Tryz.func36, Tryz.ntmps36
   go_wp2_with fail
   refine (hAd.out _ hw0.out).mono ?_
   rintro e w1 ⟨rfl, hc1⟩
   have y10 := (hc1.cells.1 _ _ hxl).trans x0
   have y11 := (hc1.cells.1 _ _ hxl).trans x1
   have hl1 := Nat.lt_of_lt_of_le hxl hc1.size
   have hC1 := hid (hw0.out.trans hc1)
   clear hc1 x0 x1 hxl
   go_wp2_with fail
   refine (hPt.out _ hC1.out).mono ?_
   rintro e w2 ⟨rfl, hc2⟩
   have y20 := (hc2.cells.1 _ _ hl1).trans y10
   have y21 := (hc2.cells.1 _ _ hl1).trans y11
   have hl2 := Nat.lt_of_lt_of_le hl1 hc2.size
   have hC2 := hid (hC1.out.trans hc2)
   clear hc2 y10 y11 hl1
   go_wp2
   go_ret
   exact ⟨by first | rfl | (simp []; done), hC2.out⟩
  by_cases h5 : way = 5
  ·subst h5
   by_cases hf : pf = 0
   ·subst hf
    go_enter Tryz.func36, Tryz.ntmps36
    go_wp2_with fail
    refine (hAd.out _ hw0.out).mono ?_
    rintro e w1 ⟨rfl, hc1⟩
    have y10 := (hc1.cells.1 _ _ hxl).trans x0
    have y11 := (hc1.cells.1 _ _ hxl).trans x1
    have hl1 := Nat.lt_of_lt_of_le hxl hc1.size
    have hC1 := hid (hw0.out.trans hc1)
    clear hc1 x0 x1 hxl
    go_wp2_with fail
    refine (hPt.out _ hC1.out).mono ?_
    rintro e w2 ⟨rfl, hc2⟩
    have y20 := (hc2.cells.1 _ _ hl1).trans y10
    have y21 := (hc2.cells.1 _ _ hl1).trans y11
    have hl2 := Nat.lt_of_lt_of_le hl1 hc2.size
    have hC2 := hid (hC1.out.trans hc2)
    clear hc2 y10 y11 hl1
    go_wp2
    go_ret
    exact ⟨by first | rfl | (simp []; done), hC2.out⟩
   ·have f1 : ((pf : Int) == 0) = false := beq_eq_false_iff_ne.2 (by omega)
    have f2 : decide (pf = 0) = false := decide_eq_false hf
    replace hf := hid hf
    go_enter Tryz.func36, Tryz.ntmps36
    go_wp2_with fail
    refine (hAd.out _ hw0.out).mono ?_
    rintro e w1 ⟨rfl, hc1⟩
    have y10 := (hc1.cells.1 _ _ hxl).trans x0
    have y11 := (hc1.cells.1 _ _ hxl).trans x1
    have hl1 := Nat.lt_of_lt_of_le hxl hc1.size
    have hC1 := hid (hw0.out.trans hc1)
    clear hc1 x0 x1 hxl
    go_wp2_with fail
    refine (hPt.out _ hC1.out).mono ?_
    rintro e w2 ⟨rfl, hc2⟩
    have y20 := (hc2.cells.1 _ _ hl1).trans y10
    have y21 := (hc2.cells.1 _ _ hl1).trans y11
    have hl2 := Nat.lt_of_lt_of_le hl1 hc2.size
    have hC2 := hid (hC1.out.trans hc2)
    clear hc2 y10 y11 hl1
    go_wp2_with fail
    refine (hSz.out _).mono ?_
    rintro e w' ⟨rfl, rfl⟩
    go_wp2
    go_ret
    exact ⟨by first | rfl | (simp [f2]; done), hC2.out⟩
  have n1 : (way == 1) = false := beq_eq_false_iff_ne.2 h1
  have d1 : decide (way = 1) = false := decide_eq_false h1
  replace h1 := hid h1
  have n2 : (way == 2) = false := beq_eq_false_iff_ne.2 h2
  have d2 : decide (way = 2) = false := decide_eq_false h2
  replace h2 := hid h2
  have n5 : (way == 5) = false := beq_eq_false_iff_ne.2 h5
  have d5 : decide (way = 5) = false := decide_eq_false h5
  replace h5 := hid h5
  go_enter Tryz.func36, Tryz.ntmps36
  go_wp2_with fail
  refine (hAd.out _ hw0.out).mono ?_
  rintro e w1 ⟨rfl, hc1⟩
  have y10 := (hc1.cells.1 _ _ hxl).trans x0
  have y11 := (hc1.cells.1 _ _ hxl).trans x1
  have hl1 := Nat.lt_of_lt_of_le hxl hc1.size
  have hC1 := hid (hw0.out.trans hc1)
  clear hc1 x0 x1 hxl
  go_wp2_with fail
  refine (hPt.out _ hC1.out).mono ?_
  rintro e w2 ⟨rfl, hc2⟩
  have y20 := (hc2.cells.1 _ _ hl1).trans y10
  have y21 := (hc2.cells.1 _ _ hl1).trans y11
  have hl2 := Nat.lt_of_lt_of_le hl1 hc2.size
  have hC2 := hid (hC1.out.trans hc2)
  clear hc2 y10 y11 hl1
  go_wp2_with fail
  refine (hSz.out _).mono ?_
  rintro e w' ⟨rfl, rfl⟩
  go_wp2
  go_ret
  exact ⟨by first | rfl | (simp [d1, d2, d5]; done), hC2.out⟩
end Go.Proofs.YtoelilejohfglaaGreat
namespace Go.Proofs.YtoelilejohfglaaGreat
open Go.RowKit
set_option linter.unusedVariables false
set_option linter.unusedSimpArgs false
open Go.ChangeMaps (setBlock heap_setBlock_same heap_setBlock_other)
def xOf (m n size : Int) : Int := countS m n size * size * ((((logS size).getD 0 : Nat) : Int) + 1)
def costV (m n x kl f p way : Int) : Int := if way = 1 then m * (n - m + 1) else if way = 2 then 4 * (n + m) else if way = 3 then 2 * x + 4 * n else if way = 4 then (x + n) * kl + n else (x + n) * f + n * p + n
def costM (xs : List Cls) (way n size : Int) : Int := if min n 100000 < xs.length then 0 else costV xs.length (min n 100000) (xOf xs.length (min n 100000) size) (kindsL xs).length (partsF xs) (partsP xs) way
theorem x_bound {m n size : Int} (hm : 1 ≤ m) (hmn : m ≤ n) (hn : n ≤ 100000) : (0 ≤ countS m n size ∧ countS m n size ≤ 600009) ∧ (0 ≤ countS m n size * size ∧ countS m n size * size ≤ 2500000000) ∧ 0 ≤ xOf m n size ∧ xOf m n size ≤ 33000000000 := by
 unfold xOf
 by_cases hs : sizedB m size = true
 ·have h2 := hs
  unfold sizedB at h2
  simp only [Bool.and_eq_true, decide_eq_true_eq] at h2
  have hsz := logS_le h2.1
  have hlg : (logS size).getD 0 ≤ 12 := by
   obtain ⟨q, hq⟩ := Option.isSome_iff_exists.1 h2.1
   rw [hq]; exact (logS_some.1 hq).1
  have hc : 0 ≤ countS m n size ∧ countS m n size ≤ 600009 := by
   unfold countS
   rw [show min n 1099511627776 = n from by omega, hs, show slidesB m n = true from by unfold slidesB; simp; omega]
   simp only [Bool.and_self, if_true]
   have h3 : 0 ≤ (n - m) / (size - m + 1) := Int.ediv_nonneg (by omega) (by omega)
   have h4 : (n - m) / (size - m + 1) ≤ n - m := Int.ediv_le_self _ (by omega)
   omega
  generalize countS m n size = cs at hc ⊢
  generalize (logS size).getD 0 = lg at hlg ⊢
  have h5 : 0 ≤ cs * size := Int.mul_nonneg hc.1 (by omega)
  have h6 : cs * size ≤ 600009 * 4096 := Int.mul_le_mul hc.2 hsz.2 (by omega) (by omega)
  refine ⟨hc, ⟨h5, by omega⟩, Int.mul_nonneg h5 (by omega), ?_⟩
  have h7 : cs * size * ((lg : Int) + 1) ≤ (600009 * 4096) * 13 := Int.mul_le_mul h6 (by omega) (by omega) (by omega)
  omega
 ·have hc : countS m n size = 0 := by
   unfold countS
   rw [show sizedB m size = false from by simpa using hs]
   simp
  rw [hc]
  simp
theorem keyInt : Maps.Keyed Tryz.prog 3 := Maps.int_keyed Tryz.underlying3
theorem keyI (b : Nat) (h : b < 256) : keyOf Tryz.prog 3 (.int .i64 (b : Nat)) = some (.int .i64 (b : Nat)) := Maps.keyOf_int_mk Tryz.underlying3 (by simp [Lit.wf, IntKind.min, IntKind.max, IntKind.bits, IntKind.signed]; omega)
theorem undMapF : Tryz.prog.underlying 113 = some (.map 3 112) := Tryz.underlying113
theorem i64_inj {a b : Nat} (h : Value.int .i64 (a : Int) = .int .i64 (b : Int)) : a = b := by
 injection h with _ h; omega
def FnM (w : World) (bm n : Nat) (f : Nat → Option Value) : Prop := ∃ es clock, w.heap[bm]? = some (.map es clock) ∧ es.size ≤ n ∧ (∀ e ∈ es.toList, ∃ k : Nat, k < 256 ∧ e.key = .int .i64 (k : Nat) ∧ f k = some e.val) ∧ ∀ k v, f k = some v → ∃ e ∈ es.toList, e.key = .int .i64 (k : Nat)
theorem FnM.made (w : World) : FnM (w.alloc (.map #[] 0)) w.heap.size 0 (fun _ => none) := ⟨#[], 0, (MapKept.heap_alloc w _).1, Nat.le_refl _, by simp, by simp⟩
theorem FnM.chg {S : Nat → Prop} {w w' : World} {bm n : Nat} {f : Nat → Option Value} (h : FnM w bm n f) (hc : Chg S w w') (hn : ¬ S bm) : FnM w' bm n f := by
 obtain ⟨es, clock, hb, h2, h3, h4⟩ := h
 exact ⟨es, clock, (hc.block bm (Array.getElem?_eq_some_iff.1 hb).1 hn).trans hb, h2, h3, h4⟩
theorem FnM.keys {f : Nat → Option Value} {es : Array MapEntry} (h3 : ∀ e ∈ es.toList, ∃ k : Nat, k < 256 ∧ e.key = .int .i64 (k : Nat) ∧ f k = some e.val) : ∀ e ∈ es.toList, ∃ l, keyOf Tryz.prog 3 e.key = some l := fun e he => by
 obtain ⟨k, hk, he, -⟩ := h3 e he
 rw [he]; exact ⟨_, keyI k hk⟩
theorem FnM.lookT {T E : TypeId} (hT : Tryz.prog.underlying T = some (.map 3 E)) {w : World} {bm n : Nat} {f : Nat → Option Value} (h : FnM w bm n f) (k : Nat) (hk : k < 256) (v : Value) (hv : f k = some v) : (Instr.lookup T (.map (some bm)) (.int .i64 (k : Nat)) false).run Tryz.prog w = .ok v w := by
 obtain ⟨es, clock, hb, h2, h3, h4⟩ := h
 rcases keyInt.find w (keyI k hk) es.toList (FnM.keys h3) with ⟨h5, h6⟩ | ⟨j, e0, h5, h6, h7⟩
 ·obtain ⟨e, he, hke⟩ := h4 k v hv
  exact absurd hke (h6 e he)
 ·have hm := List.mem_of_getElem? h6
  obtain ⟨k', hk', hke, hve⟩ := h3 e0 hm
  obtain rfl := i64_inj (hke.symm.trans h7)
  obtain rfl : e0.val = v := by rw [hve] at hv; exact Option.some.inj hv
  simp [Instr.lookup, run_underlying hT, MapKept.run_getObj_map hb, keyInt.check w _ (keyI k' hk'), h5, Result.andThen]
theorem FnM.putT {T E : TypeId} (hT : Tryz.prog.underlying T = some (.map 3 E)) {w : World} {bm n : Nat} {f : Nat → Option Value} (h : FnM w bm n f) (hn : n < maxLen) (k : Nat) (hk : k < 256) (v : Value) (hnew : f k = none) :
  ∃ w', (Instr.mapUpdate T (.map (some bm)) (.int .i64 (k : Nat)) v).run Tryz.prog w = .ok () w' ∧ FnM w' bm (n + 1) (fun j => if j = k then some v else f j) ∧ Chg (One bm) w w' := by
 obtain ⟨es, clock, hb, h2, h3, h4⟩ := h
 have hkey := keyI k hk
 have hchg : ∀ o, Chg (One bm) w (setBlock w bm o) := fun o => ⟨rfl, rfl, rfl, by simp [setBlock], fun i _ hi => heap_setBlock_other hb _ (fun e => hi e)⟩
 have hroom : es.size < maxLen := by omega
 rcases keyInt.find w hkey es.toList (FnM.keys h3) with ⟨h5, h6⟩ | ⟨j, e0, h5, h6, h7⟩
 ·refine ⟨setBlock w bm (.map (es.push ⟨.int .i64 (k : Nat), v, clock⟩) (clock + 1)), ?_, ⟨_, _, heap_setBlock_same hb _, by simp; omega, ?_, ?_⟩, hchg _⟩
  ·simp [Instr.mapUpdate, run_underlying hT, MapKept.run_getObj_map hb, keyInt.check w false hkey, h5, MapKept.run_setObj_map _ hb, Result.andThen, setBlock]
  ·intro e he
   simp only [Array.toList_push, List.mem_append, List.mem_singleton] at he
   rcases he with he | rfl
   ·obtain ⟨q, hq, hqe, hqv⟩ := h3 e he
    refine ⟨q, hq, hqe, ?_⟩
    show (if q = k then some v else f q) = some e.val
    rw [if_neg (fun e2 => by rw [e2, hnew] at hqv; cases hqv)]
    exact hqv
   ·exact ⟨k, hk, rfl, if_pos rfl⟩
  ·intro q u hq
   by_cases hqk : q = k
   ·subst hqk
    exact ⟨⟨.int .i64 (q : Nat), v, clock⟩, by simp, rfl⟩
   ·replace hq : (if q = k then some v else f q) = some u := hq
    rw [if_neg hqk] at hq
    obtain ⟨e, he, hke⟩ := h4 q u hq
    exact ⟨e, by simp [he], hke⟩
 ·have hm := List.mem_of_getElem? h6
  obtain ⟨q, hq, hqe, hqv⟩ := h3 e0 hm
  obtain rfl := i64_inj (hqe.symm.trans h7)
  rw [hnew] at hqv; cases hqv
theorem wpList_fn_insT {T E : TypeId} (hT : Tryz.prog.underlying T = some (.map 3 E)) {w : World} {ops : Array Oper} {rest : List Oper} {o : Oper} {a : Act} {Q : Exit → Act → World → Prop} (hg : o.guard = none) (m x v : Operand) (hop : o.op = Op.insert T m x v)
  {bm n : Nat} {f : Nat → Option Value} (hm : a.eval m = .map (some bm)) (h : FnM w bm n f) (hn : n < maxLen) (k : Nat) (hk : k < 256) (V : Value) (hnew : f k = none) (hx : a.eval x = .int .i64 (k : Nat)) (hv : a.eval v = V)
  (hK : ∀ w', FnM w' bm (n + 1) (fun j => if j = k then some V else f j) → Chg (One bm) w w' → wpList Tryz.prog ops Q rest (a.put o.dst undef) w') : wpList Tryz.prog ops Q (o :: rest) a w := by
 refine wpList_plain hg fun K' hK' => ?_
 obtain ⟨w', hrun, r1, r2⟩ := h.putT hT hn k hk V hnew
 unfold Oper.wp
 simp [execOp, hop, hm, hx, hv, hrun, Result.andThen]
 exact hK' _ _ (hK w' r1 r2)
theorem FnM.look {w : World} {bm n : Nat} {f : Nat → Option Value} (h : FnM w bm n f) (k : Nat) (hk : k < 256) (v : Value) (hv : f k = some v) : (Instr.lookup 113 (.map (some bm)) (.int .i64 (k : Nat)) false).run Tryz.prog w = .ok v w := h.lookT undMapF k hk v hv
theorem wpList_fn_ins {w : World} {ops : Array Oper} {rest : List Oper} {o : Oper} {a : Act} {Q : Exit → Act → World → Prop} (hg : o.guard = none) (m x v : Operand) (hop : o.op = Op.insert 113 m x v)
  {bm n : Nat} {f : Nat → Option Value} (hm : a.eval m = .map (some bm)) (h : FnM w bm n f) (hn : n < maxLen) (k : Nat) (hk : k < 256) (V : Value) (hnew : f k = none) (hx : a.eval x = .int .i64 (k : Nat)) (hv : a.eval v = V)
  (hK : ∀ w', FnM w' bm (n + 1) (fun j => if j = k then some V else f j) → Chg (One bm) w w' → wpList Tryz.prog ops Q rest (a.put o.dst undef) w') : wpList Tryz.prog ops Q (o :: rest) a w := wpList_fn_insT undMapF hg m x v hop hm h hn k hk V hnew hx hv hK
structure CostB (m n x kl f p : Int) : Prop where
 hm : 1 ≤ m ∧ m ≤ 64
 hn : m ≤ n ∧ n ≤ 100000
 hx : 0 ≤ x ∧ x ≤ 33000000000
 hkl : 0 ≤ kl ∧ kl ≤ 64
 hf : 0 ≤ f ∧ f ≤ 64
 hp : 0 ≤ p ∧ p ≤ 200
theorem mul_bound {a b x y : Int} (h1 : 0 ≤ a) (h2 : a ≤ x) (h3 : 0 ≤ b) (h4 : b ≤ y) : 0 ≤ a * b ∧ a * b ≤ x * y := ⟨Int.mul_nonneg h1 h3, Int.mul_le_mul h2 h4 h3 (Int.le_trans h1 h2)⟩
theorem planCost1_any (m n x kl f p : Int) (hB : CostB m n x kl f p) (mb nb : Nat) (w : World) (h1 : Blk w mb #[.int .i64 m] 3) (h2 : Blk w nb #[.int .i64 n] 3) :
  Calls Tryz.prog 102 #[.pointer (some ⟨mb, 0, none⟩), .pointer (some ⟨nb, 0, none⟩)] w fun e w' => e = .returned (.int .i64 (costV m n x kl f p 1)) ∧ Chg Nothing w w' := by
 obtain ⟨⟨a1, a2⟩, ⟨b1, b2⟩, -⟩ := hB
 have c1 := h1.cell 0 (v := .int .i64 m) rfl
 have c2 := h2.cell 0 (v := .int .i64 n) rfl
 have e1 : IntKind.i64.wrap (n - m) = n - m := by rw [IntKind.wrap_i64]; omega
 have e2 : IntKind.i64.wrap (n - m + 1) = n - m + 1 := by rw [IntKind.wrap_i64]; omega
 have hb := mul_bound (a := m) (b := n - m + 1) (x := 64) (y := 100001) (by omega) a2 (by omega) (by omega)
 have e3 : IntKind.i64.wrap (m * (n - m + 1)) = m * (n - m + 1) := by rw [IntKind.wrap_i64]; omega
 have hv := hid (show costV m n x kl f p 1 = m * (n - m + 1) from rfl)
 rw [hv.out]
 clear h1 h2 hb a1 a2 b1 b2
 go_enter Tryz.func102, Tryz.ntmps102
 go_wp2
 go_ret
 exact ⟨rfl, Chg.refl _ _⟩
theorem planCost2_any (m n x kl f p : Int) (hB : CostB m n x kl f p) (mb nb : Nat) (w : World) (h1 : Blk w mb #[.int .i64 m] 3) (h2 : Blk w nb #[.int .i64 n] 3) :
  Calls Tryz.prog 103 #[.pointer (some ⟨nb, 0, none⟩), .pointer (some ⟨mb, 0, none⟩)] w fun e w' => e = .returned (.int .i64 (costV m n x kl f p 2)) ∧ Chg Nothing w w' := by
 obtain ⟨⟨a1, a2⟩, ⟨b1, b2⟩, -⟩ := hB
 have c1 := h1.cell 0 (v := .int .i64 m) rfl
 have c2 := h2.cell 0 (v := .int .i64 n) rfl
 have e1 : IntKind.i64.wrap (n + m) = n + m := by rw [IntKind.wrap_i64]; omega
 have e3 : IntKind.i64.wrap (4 * (n + m)) = 4 * (n + m) := by rw [IntKind.wrap_i64]; omega
 have hv := hid (show costV m n x kl f p 2 = 4 * (n + m) from rfl)
 rw [hv.out]
 clear h1 h2 a1 a2 b1 b2
 go_enter Tryz.func103, Tryz.ntmps103
 go_wp2
 go_ret
 exact ⟨rfl, Chg.refl _ _⟩
theorem planCost3_any (m n x kl f p : Int) (hB : CostB m n x kl f p) (xb nb : Nat) (w : World) (h1 : Blk w xb #[.int .i64 x] 3) (h2 : Blk w nb #[.int .i64 n] 3) :
  Calls Tryz.prog 104 #[.pointer (some ⟨xb, 0, none⟩), .pointer (some ⟨nb, 0, none⟩)] w fun e w' => e = .returned (.int .i64 (costV m n x kl f p 3)) ∧ Chg Nothing w w' := by
 obtain ⟨⟨a1, a2⟩, ⟨b1, b2⟩, ⟨d1, d2⟩, -⟩ := hB
 have c1 := h1.cell 0 (v := .int .i64 x) rfl
 have c2 := h2.cell 0 (v := .int .i64 n) rfl
 have e1 : IntKind.i64.wrap (2 * x) = 2 * x := by rw [IntKind.wrap_i64]; omega
 have e2 : IntKind.i64.wrap (4 * n) = 4 * n := by rw [IntKind.wrap_i64]; omega
 have e3 : IntKind.i64.wrap (2 * x + 4 * n) = 2 * x + 4 * n := by rw [IntKind.wrap_i64]; omega
 have hv := hid (show costV m n x kl f p 3 = 2 * x + 4 * n from rfl)
 rw [hv.out]
 clear h1 h2 a1 a2 b1 b2 d1 d2
 go_enter Tryz.func104, Tryz.ntmps104
 go_wp2
 go_ret
 exact ⟨rfl, Chg.refl _ _⟩
theorem planCost4_any (F : Nat → Prop) (A : Option Addr) (l c : Nat) (xs : List Cls) (K m n x f p : Int) (hB : CostB m n x (kindsL xs).length f p) (xb nb lb : Nat) (w : World) (H : ClsRow F w A l c xs) (hl : xs.length = l) (hl9 : l ≤ 1000000000) (h1 : Blk w xb #[.int .i64 x] 3) (h2 : Blk w nb #[.int .i64 n] 3) (h3 : Blk w lb #[.slice A l c, .int .i64 K] 34) :
  Calls Tryz.prog 105 #[.pointer (some ⟨xb, 0, none⟩), .pointer (some ⟨nb, 0, none⟩), .pointer (some ⟨lb, 0, none⟩)] w fun e w' => e = .returned (.int .i64 (costV m n x (kindsL xs).length f p 4)) ∧ Chg Nothing w w' := by
 have hK := hid (fun (nn : Calm w) => (leafKinds_any F A l c xs K nn.val (H.chg nn.chg (fun _ _ _ h => h)) hl hl9))
 obtain ⟨kl, hkl⟩ : ∃ kl, kl = (kindsL xs).length := ⟨_, rfl⟩
 rw [← hkl] at hB hK ⊢
 replace hkl := hid hkl
 obtain ⟨⟨a1, a2⟩, ⟨b1, b2⟩, ⟨d1, d2⟩, ⟨k1, k2⟩, -⟩ := hB
 have c1 := h1.cell 0 (v := .int .i64 x) rfl
 have c2 := h2.cell 0 (v := .int .i64 n) rfl
 have c3 := h3.cell 0 (v := .slice A l c) rfl
 have c4 := h3.cell 1 (v := .int .i64 K) rfl
 have hS := hid (fun (w' : World) (hc : Chg Nothing w w') => (⟨(h1.chg hc id).cell 0 rfl, (h2.chg hc id).cell 0 rfl, (h3.chg hc id).cell 0 rfl, (h3.chg hc id).cell 1 rfl⟩ : w'.cell? ⟨xb, 0, none⟩ = some (.int .i64 x) ∧ w'.cell? ⟨nb, 0, none⟩ = some (.int .i64 n) ∧ w'.cell? ⟨lb, 0, none⟩ = some (.slice A l c) ∧ w'.cell? ⟨lb, 1, none⟩ = some (.int .i64 K)))
 have e1 : IntKind.i64.wrap (x + n) = x + n := by rw [IntKind.wrap_i64]; omega
 have hb := mul_bound (a := x + n) (b := (kl : Int)) (x := 33000100000) (y := 64) (by omega) (by omega) k1 k2
 have e2 : IntKind.i64.wrap ((x + n) * (kl : Int)) = (x + n) * (kl : Int) := by rw [IntKind.wrap_i64]; omega
 have e3 : IntKind.i64.wrap ((x + n) * (kl : Int) + n) = (x + n) * (kl : Int) + n := by rw [IntKind.wrap_i64]; omega
 have hv := hid (show costV m n x (kl : Int) f p 4 = (x + n) * (kl : Int) + n from rfl)
 have hcur := hid ((Chg.refl Nothing w).drew)
 rw [hv.out]
 clear h1 h2 h3 hb a1 a2 b1 b2 d1 d2 k1 k2 c1 c2 c3 c4 H hl
 go_enter Tryz.func105, Tryz.ntmps105
 go_wp2_with fail
 go_region_held3 (fun w' => w'.cell? ⟨xb, 0, none⟩ = some (.int .i64 x) ∧ w'.cell? ⟨nb, 0, none⟩ = some (.int .i64 n) ∧ w'.cell? ⟨lb, 0, none⟩ = some (.slice A l c) ∧ w'.cell? ⟨lb, 1, none⟩ = some (.int .i64 K))
  (exact hS.out _ hcur.out)
  (first | (go_at_call 98; with_reducible refine (hK.out ⟨_, hcur.out⟩).mono ?_; rintro e wK ⟨AK, cK, rfl, hOK, hcK⟩; replace hcur := hid (hcur.out.trans hcK); replace hcK := hid hcK; clear hOK))
 all_goals
  have hC := hid hcur.out
  clear hcur hS hcK
  go_wp2
  go_ret
  exact ⟨rfl, hC.out⟩
theorem planCost5_any (m n x kl f p : Int) (hB : CostB m n x kl f p) (xb nb fb pb : Nat) (w : World) (h1 : Blk w xb #[.int .i64 x] 3) (h2 : Blk w nb #[.int .i64 n] 3) (h3 : Blk w fb #[.int .i64 f] 3) (h4 : Blk w pb #[.int .i64 p] 3) :
  Calls Tryz.prog 106 #[.pointer (some ⟨xb, 0, none⟩), .pointer (some ⟨nb, 0, none⟩), .pointer (some ⟨fb, 0, none⟩), .pointer (some ⟨pb, 0, none⟩)] w fun e w' => e = .returned (.int .i64 (costV m n x kl f p 5)) ∧ Chg Nothing w w' := by
 obtain ⟨⟨a1, a2⟩, ⟨b1, b2⟩, ⟨d1, d2⟩, -, ⟨f1, f2⟩, ⟨p1, p2⟩⟩ := hB
 have c1 := h1.cell 0 (v := .int .i64 x) rfl
 have c2 := h2.cell 0 (v := .int .i64 n) rfl
 have c3 := h3.cell 0 (v := .int .i64 f) rfl
 have c4 := h4.cell 0 (v := .int .i64 p) rfl
 have hb1 := mul_bound (a := x + n) (b := f) (x := 33000100000) (y := 64) (by omega) (by omega) f1 f2
 have hb2 := mul_bound (a := n) (b := p) (x := 100000) (y := 200) (by omega) (by omega) p1 p2
 have e1 : IntKind.i64.wrap (x + n) = x + n := by rw [IntKind.wrap_i64]; omega
 have e2 : IntKind.i64.wrap ((x + n) * f) = (x + n) * f := by rw [IntKind.wrap_i64]; omega
 have e3 : IntKind.i64.wrap (n * p) = n * p := by rw [IntKind.wrap_i64]; omega
 have e4 : IntKind.i64.wrap ((x + n) * f + n * p) = (x + n) * f + n * p := by rw [IntKind.wrap_i64]; omega
 have e5 : IntKind.i64.wrap ((x + n) * f + n * p + n) = (x + n) * f + n * p + n := by rw [IntKind.wrap_i64]; omega
 have hv := hid (show costV m n x kl f p 5 = (x + n) * f + n * p + n from rfl)
 rw [hv.out]
 clear h1 h2 h3 h4 hb1 hb2 a1 a2 b1 b2 d1 d2 f1 f2 p1 p2
 go_enter Tryz.func106, Tryz.ntmps106
 go_wp2
 go_ret
 exact ⟨rfl, Chg.refl _ _⟩
end Go.Proofs.YtoelilejohfglaaGreat
namespace Go.Proofs.YtoelilejohfglaaGreat
open Go.RowKit
set_option linter.unusedVariables false
set_option linter.unusedSimpArgs false
def costT (xs : List Cls) (K way n size : Int) : Value := if sizedM xs K way n size = true then .tuple #[.int .i64 (costM xs way n size), .bool true] else .tuple #[.int .i64 0, .bool false]
theorem sized_way {xs : List Cls} {K way n size : Int} (h : sizedM xs K way n size = true) : rightB xs K = true ∧ (way = 1 ∨ way = 2 ∨ way = 3 ∨ way = 4 ∨ way = 5) := by
 unfold sizedM admitsB at h
 simp only [Bool.and_eq_true, Bool.or_eq_true, decide_eq_true_eq] at h
 refine ⟨h.1.1, ?_⟩
 omega
theorem parts_le (xs : List Cls) (h : xs.length ≤ 64) : partsF xs ≤ 64 ∧ partsP xs ≤ 200 ∧ (kindsL xs).length ≤ 64 := by
 have h1 := kindsL_len xs
 have h2 := partsTo_bound xs (kindsL xs).length
 unfold partsF partsP
 omega
theorem planCost_any (F : Nat → Prop) (A : Option Addr) (l c : Nat) (xs : List Cls) (K way n size : Int) (w : World) (H : ClsRow F w A l c xs) (hl : xs.length = l) (hl9 : l ≤ 100000000) :
  Calls Tryz.prog 67 #[.int .i64 way, .agg #[.slice A l c, .int .i64 K], .int .i64 n, .int .i64 size] w fun e w' => e = .returned (costT xs K way n size) ∧ Chg Nothing w w' := by
 have hX := (Blk.new w #[.slice A l c, .int .i64 K] 34).alloc (.cells #[.int .i64 n] 3)
 have hU := Blk.new (w.alloc (.cells #[.slice A l c, .int .i64 K] 34)) #[.int .i64 n] 3
 rw [World.size_alloc] at hU
 have x0 := hX.cell 0 (v := .slice A l c) rfl
 have x1 := hX.cell 1 (v := .int .i64 K) rfl
 have u0 := hU.cell 0 (v := .int .i64 n) rfl
 have hXh := hid hX
 have hUh := hid hU
 have hw0 := hid (((Chg.refl Nothing w).alloc (.cells #[.slice A l c, .int .i64 K] 34)).alloc (.cells #[.int .i64 n] 3))
 have hHH := hid (fun (w' : World) (hc : Chg Nothing w w') => H.chg hc (fun _ _ _ h => h))
 have hSz := hid (fun (w' : World) (hc : Chg Nothing w w') => planSized_any F A l c xs K way n size w' (H.chg hc (fun _ _ _ h => h)) hl hl9)
 have hPt := hid (fun (w' : World) (hc : Chg Nothing w w') => planParts_any F A l c xs K w' (H.chg hc (fun _ _ _ h => h)) hl hl9)
 have hLg := hid (fun w => nttLog_any size w)
 have hlh := hid hl
 have hmx := H.max
 have hle := H.le
 unfold costT
 cases hs : sizedM xs K way n size with
 | false =>
  rw [hs] at hSz
  rw [if_neg (by decide)]
  clear hX hU H hl
  go_enter Tryz.func67, Tryz.ntmps67
  go_wp2_with fail
  refine (hSz.out _ hw0.out).mono ?_
  rintro e w1 ⟨rfl, hc1⟩
  have hC1 := hid (hw0.out.trans hc1)
  clear hc1 x0 x1 u0
  go_wp2
  go_ret2
  exact ⟨rfl, hC1.out⟩
 | true =>
  rw [hs] at hSz
  rw [if_pos rfl]
  obtain ⟨hr, hway⟩ := sized_way hs
  have h64 := right_len hr
  obtain ⟨n', hn'⟩ : ∃ n', n' = min n 100000 := ⟨_, rfl⟩
  have hite : (if (100000 : Int) < n then 100000 else n) = n' := by rw [hn']; split <;> omega
  have hn9 : n' ≤ 100000 := by omega
  have hcm : costM xs way n size = if n' < (l : Int) then 0 else costV l n' (xOf l n' size) (kindsL xs).length (partsF xs) (partsP xs) way := by unfold costM; rw [← hn', hl]
  rw [hcm]
  clear hX hU H hcm hs
  replace hn' := hid hn'
  have hl1 : 1 ≤ l := by omega
  have hl64 : l ≤ 64 := by omega
  by_cases hlt : n' < (l : Int)
  ·rw [if_pos hlt]
   have g1 : decide (n' < (l : Int)) = true := decide_eq_true hlt
   go_enter Tryz.func67, Tryz.ntmps67
   go_wp2_with fail
   refine (hSz.out _ hw0.out).mono ?_
   rintro e w1 ⟨rfl, hc1⟩
   have hC1 := hid (hw0.out.trans hc1)
   have hX1 := hid (hXh.out.chg hc1 id)
   have hU1 := hid (hUh.out.chg hc1 id)
   have x0 := hX1.out.cell 0 (v := .slice A l c) rfl
   have u0 := hU1.out.cell 0 (v := .int .i64 n) rfl
   have u1 := hU1.out.free 0
   have u2 := hU1.out.lt
   have x2 := hX1.out.lt
   have hne : ¬ (w.heap.size + 1 = w.heap.size) := by omega
   clear hc1 x1
   go_wp2
   go_ret2
   refine ⟨rfl, ?_⟩
   exact ((hC1.out.then ((Chg.refl (One (w.heap.size + 1)) w1).setOne 0 _) (fun j hj e => absurd (show j = w.heap.size + 1 from e) (by omega))).alloc _)
  ·rw [if_neg hlt]
   have g1 : decide (n' < (l : Int)) = false := decide_eq_false hlt
   have hpl := parts_le xs (by omega)
   obtain ⟨⟨xb1, xb2⟩, ⟨xb3, xb4⟩, xb5, xb6⟩ := x_bound (m := (l : Int)) (n := n') (size := size) (by omega) (by omega) hn9
   have hB : CostB l n' (xOf l n' size) (kindsL xs).length (partsF xs) (partsP xs) := ⟨⟨by omega, by omega⟩, ⟨by omega, hn9⟩, ⟨xb5, xb6⟩, ⟨by omega, by omega⟩, ⟨by omega, by omega⟩, ⟨by omega, by omega⟩⟩
   have hxd : xOf l n' size = countS l n' size * size * ((((logS size).getD 0 : Nat) : Int) + 1) := rfl
   have hCt := hid (fun w => count_any l n' size w)
   have hlg12 : ((logS size).getD 0 : Nat) ≤ 12 := by
    cases ho : logS size with
    | none => exact Nat.zero_le _
    | some q => exact (logS_some.1 ho).1
   obtain ⟨lg, hlgd⟩ : ∃ lg : Nat, lg = (logS size).getD 0 := ⟨_, rfl⟩
   rw [← hlgd] at hxd hLg hlg12
   clear hlgd
   obtain ⟨cs, hcs⟩ : ∃ cs, cs = countS l n' size := ⟨_, rfl⟩
   rw [← hcs] at hxd hCt xb1 xb2 xb3 xb4
   clear hcs
   have hw1 : IntKind.i64.wrap (cs * size) = cs * size := by rw [IntKind.wrap_i64]; omega
   have hw2 : IntKind.i64.wrap ((lg : Int) + 1) = (lg : Int) + 1 := by rw [IntKind.wrap_i64]; omega
   rw [hxd] at xb5 xb6
   have hw3 : IntKind.i64.wrap (cs * size * ((lg : Int) + 1)) = xOf l n' size := by rw [hxd, IntKind.wrap_i64]; omega
   generalize xOf l n' size = x at hB hw3 hxd ⊢
   replace hxd := hid hxd
   obtain ⟨f, hf⟩ : ∃ f : Int, f = (partsF xs : Nat) := ⟨_, rfl⟩
   obtain ⟨p, hp⟩ : ∃ p : Int, p = (partsP xs : Nat) := ⟨_, rfl⟩
   rw [← hf, ← hp] at hB hPt ⊢
   clear hf hp hpl xb1 xb2 xb3 xb4 xb5 xb6
   have hBh := hid hB
   clear hB
   go_enter Tryz.func67, Tryz.ntmps67
   go_wp2_with fail
   refine (hSz.out _ hw0.out).mono ?_
   rintro e w1 ⟨rfl, hc1⟩
   have hC1 := hid (hw0.out.trans hc1)
   have hX1 := hid (hXh.out.chg hc1 id)
   have hU1 := hid (hUh.out.chg hc1 id)
   have x0 := hX1.out.cell 0 (v := .slice A l c) rfl
   have u0 := hU1.out.cell 0 (v := .int .i64 n) rfl
   have u1 := hU1.out.free 0
   have u2 := hU1.out.lt
   have x2 := hX1.out.lt
   have hne : ¬ (w.heap.size + 1 = w.heap.size) := by omega
   clear hc1 x1 hXh hUh
   go_wp2_with fail
   refine (hLg.out _).mono ?_
   rintro e w' ⟨rfl, rfl⟩
   go_wp2_with fail
   refine (hCt.out _).mono ?_
   rintro e w' ⟨rfl, rfl⟩
   have hs1 : Chg (One (w.heap.size + 1)) w1 (w1.setCell ⟨w.heap.size + 1, 0, none⟩ (.int .i64 n')) := (Chg.refl _ _).setOne 0 _
   have hsz : (w1.setCell ⟨w.heap.size + 1, 0, none⟩ (.int .i64 n')).heap.size = w1.heap.size := by simp
   have hX2 := hid (((hX1.out.chg hs1 (fun e => absurd (show w.heap.size = w.heap.size + 1 from e) (by omega))).alloc (.cells #[.int .i64 (l : Int)] 3)).alloc (.cells #[.int .i64 x] 3))
   have hN2 := hid (((hU1.out.set 0 (.int .i64 n')).alloc (.cells #[.int .i64 (l : Int)] 3)).alloc (.cells #[.int .i64 x] 3))
   have hM2 := (Blk.new (w1.setCell ⟨w.heap.size + 1, 0, none⟩ (.int .i64 n')) #[.int .i64 (l : Int)] 3).alloc (.cells #[.int .i64 x] 3)
   have hZ2 := Blk.new ((w1.setCell ⟨w.heap.size + 1, 0, none⟩ (.int .i64 n')).alloc (.cells #[.int .i64 (l : Int)] 3)) #[.int .i64 x] 3
   rw [World.size_alloc] at hZ2
   rw [hsz] at hM2 hZ2
   replace hM2 := hid hM2
   replace hZ2 := hid hZ2
   have hC2 := hid (((hC1.out.then hs1 (fun j hj e => absurd (show j = w.heap.size + 1 from e) (by omega))).alloc (.cells #[.int .i64 (l : Int)] 3)).alloc (.cells #[.int .i64 x] 3))
   have y0 := hX2.out.cell 0 (v := .slice A l c) rfl
   have y1 := hX2.out.cell 1 (v := .int .i64 K) rfl
   have x1 := hX1.out.cell 1 (v := .int .i64 K) rfl
   have hgt := hid (show w.heap.size + 1 < w1.heap.size from u2)
   clear hs1 hsz hX1 hU1 hC1 y0 y1
   go_wp2_with fail
   refine (hPt.out _ hC2.out).mono ?_
   rintro e w3 ⟨rfl, hc3⟩
   have hX3 := hid (hX2.out.chg hc3 id)
   have hN3 := hid (hN2.out.chg hc3 id)
   have hM3 := hid (hM2.out.chg hc3 id)
   have hZ3 := hid (hZ2.out.chg hc3 id)
   have hC3 := hid (hC2.out.trans hc3)
   clear hc3 hX2 hN2 hM2 hZ2 hC2 x0 x1 u0 u1 u2 x2
   have hc4 := (((Chg.refl Nothing w3).alloc (.cells #[.int .i64 f] 3)).alloc (.cells #[.int .i64 p] 3)).alloc (.map #[] 0)
   have hF4 := hid (((Blk.new w3 #[.int .i64 f] 3).alloc (.cells #[.int .i64 p] 3)).alloc (.map #[] 0))
   have hP4 := (Blk.new (w3.alloc (.cells #[.int .i64 f] 3)) #[.int .i64 p] 3).alloc (.map #[] 0)
   have hG4 := FnM.made ((w3.alloc (.cells #[.int .i64 f] 3)).alloc (.cells #[.int .i64 p] 3))
   simp only [World.size_alloc] at hP4 hG4
   replace hP4 := hid hP4
   replace hG4 := hid hG4
   have hX4 := hid (hX3.out.chg hc4 id)
   have hN4 := hid (hN3.out.chg hc4 id)
   have hM4 := hid (hM3.out.chg hc4 id)
   have hZ4 := hid (hZ3.out.chg hc4 id)
   have hC4 := hid (hC3.out.trans hc4)
   have hmm := @run_makeMap Tryz.prog
   have hb3 := hid (show w1.heap.size + 1 < w3.heap.size from hZ3.out.lt)
   have hC3b := hid (hC3.out.size)
   clear hc4 hX3 hN3 hM3 hZ3
   go_wp2_with (refine wpList_fn_ins rfl (.tmp 50) (.const (.int .i64 1)) (.tmp 51) rfl rfl hG4.out (by unfold maxLen; omega) 1 (by decide) _ rfl rfl rfl ?_)
   intro v1 hGa' hc1
   have hGa := hid hGa'
   have hcc1 := hid hc1
   clear hGa' hc1 hG4
   go_wp2_with (refine wpList_fn_ins rfl (.tmp 50) (.const (.int .i64 2)) (.tmp 52) rfl rfl hGa.out (by unfold maxLen; omega) 2 (by decide) _ rfl rfl rfl ?_)
   intro v2 hGb' hc2
   have hGb := hid hGb'
   have hcc2 := hid (hcc1.out.trans hc2)
   clear hGb' hc2 hGa hcc1
   go_wp2_with (refine wpList_fn_ins rfl (.tmp 50) (.const (.int .i64 3)) (.tmp 53) rfl rfl hGb.out (by unfold maxLen; omega) 3 (by decide) _ rfl rfl rfl ?_)
   intro v3 hGc' hc3
   have hGc := hid hGc'
   have hcc3 := hid (hcc2.out.trans hc3)
   clear hGc' hc3 hGb hcc2
   go_wp2_with (refine wpList_fn_ins rfl (.tmp 50) (.const (.int .i64 4)) (.tmp 54) rfl rfl hGc.out (by unfold maxLen; omega) 4 (by decide) _ rfl rfl rfl ?_)
   intro v4 hGd' hc4
   have hGd := hid hGd'
   have hcc4 := hid (hcc3.out.trans hc4)
   clear hGd' hc4 hGc hcc3
   go_wp2_with (refine wpList_fn_ins rfl (.tmp 50) (.const (.int .i64 5)) (.tmp 55) rfl rfl hGd.out (by unfold maxLen; omega) 5 (by decide) _ rfl rfl rfl ?_)
   intro v5 hGe' hc5
   have hGe := hid hGe'
   have hcc5 := hid (hcc4.out.trans hc5)
   clear hGe' hc5 hGd hcc4
   have hC5 := hid (Chg.then hC4.out hcc5.out (fun j hj e => absurd (show j = w3.heap.size + 1 + 1 from e) (by have := hC3b.out; omega)))
   have hX5 := hid (hX4.out.chg hcc5.out (fun e => absurd (show w.heap.size = w3.heap.size + 1 + 1 from e) (by have := hC3b.out; omega)))
   have hN5 := hid (hN4.out.chg hcc5.out (fun e => absurd (show w.heap.size + 1 = w3.heap.size + 1 + 1 from e) (by have := hgt.out; have := hb3.out; omega)))
   have hM5 := hid (hM4.out.chg hcc5.out (fun e => absurd (show w1.heap.size = w3.heap.size + 1 + 1 from e) (by have := hb3.out; omega)))
   have hZ5 := hid (hZ4.out.chg hcc5.out (fun e => absurd (show w1.heap.size + 1 = w3.heap.size + 1 + 1 from e) (by have := hb3.out; omega)))
   have hF5 := hid (hF4.out.chg hcc5.out (fun e => absurd (show w3.heap.size = w3.heap.size + 1 + 1 from e) (by omega)))
   have hP5 := hid (hP4.out.chg hcc5.out (fun e => absurd (show w3.heap.size + 1 = w3.heap.size + 1 + 1 from e) (by omega)))
   clear hcc5 hX4 hN4 hM4 hZ4 hF4 hP4 hC4
   rcases hway with rfl | rfl | rfl | rfl | rfl
   ·have hlk := hGe.out.look 1 (by decide) _ rfl
    try simp only [Int.cast_ofNat_Int, Int.natCast_one] at hlk
    have hCk := hid (planCost1_any _ _ _ _ _ _ hBh.out _ _ _ hM5.out hN5.out)
    clear hGe
    go_wp2_with fail
    refine hCk.out.mono ?_
    rintro e w9 ⟨rfl, hc9⟩
    have hC9 := hid (hC5.out.trans hc9)
    clear hc9
    go_wp2
    go_ret2
    exact ⟨rfl, hC9.out⟩
   ·have hlk := hGe.out.look 2 (by decide) _ rfl
    try simp only [Int.cast_ofNat_Int, Int.natCast_one] at hlk
    have hCk := hid (planCost2_any _ _ _ _ _ _ hBh.out _ _ _ hM5.out hN5.out)
    clear hGe
    go_wp2_with fail
    refine hCk.out.mono ?_
    rintro e w9 ⟨rfl, hc9⟩
    have hC9 := hid (hC5.out.trans hc9)
    clear hc9
    go_wp2
    go_ret2
    exact ⟨rfl, hC9.out⟩
   ·have hlk := hGe.out.look 3 (by decide) _ rfl
    try simp only [Int.cast_ofNat_Int, Int.natCast_one] at hlk
    have hCk := hid (planCost3_any _ _ _ _ _ _ hBh.out _ _ _ hZ5.out hN5.out)
    clear hGe
    go_wp2_with fail
    refine hCk.out.mono ?_
    rintro e w9 ⟨rfl, hc9⟩
    have hC9 := hid (hC5.out.trans hc9)
    clear hc9
    go_wp2
    go_ret2
    exact ⟨rfl, hC9.out⟩
   ·have hlk := hGe.out.look 4 (by decide) _ rfl
    try simp only [Int.cast_ofNat_Int, Int.natCast_one] at hlk
    have hCk := hid (planCost4_any F A l c xs K _ _ _ _ _ hBh.out _ _ _ _ (hHH.out _ hC5.out) hlh.out (by omega) hZ5.out hN5.out hX5.out)
    clear hGe
    go_wp2_with fail
    refine hCk.out.mono ?_
    rintro e w9 ⟨rfl, hc9⟩
    have hC9 := hid (hC5.out.trans hc9)
    clear hc9
    go_wp2
    go_ret2
    exact ⟨rfl, hC9.out⟩
   ·have hlk := hGe.out.look 5 (by decide) _ rfl
    try simp only [Int.cast_ofNat_Int, Int.natCast_one] at hlk
    have hCk := hid (planCost5_any _ _ _ _ _ _ hBh.out _ _ _ _ _ hZ5.out hN5.out hF5.out hP5.out)
    clear hGe
    go_wp2_with fail
    refine hCk.out.mono ?_
    rintro e w9 ⟨rfl, hc9⟩
    have hC9 := hid (hC5.out.trans hc9)
    clear hc9
    go_wp2
    go_ret2
    exact ⟨rfl, hC9.out⟩
theorem refCost_any (F : Nat → Prop) (A : Option Addr) (l c : Nat) (xs : List Cls) (K way n size : Int) (w : World) (H : ClsRow F w A l c xs) (hl : xs.length = l) (hl9 : l ≤ 100000000) :
  Calls Tryz.prog 71 #[.int .i64 way, .agg #[.slice A l c, .int .i64 K], .int .i64 n, .int .i64 size] w fun e w' => e = .returned (costT xs K way n size) ∧ Chg Nothing w w' := by
 have hX := Blk.new w #[.slice A l c, .int .i64 K] 34
 have x0 := hX.cell 0 (v := .slice A l c) rfl
 have x1 := hX.cell 1 (v := .int .i64 K) rfl
 have hxl := hX.lt
 have hw0 := hid ((Chg.refl Nothing w).alloc (.cells #[.slice A l c, .int .i64 K] 34))
 have hSz := hid (fun (w' : World) (hc : Chg Nothing w w') => refSized16_any F A l c xs K way n size w' (H.chg hc (fun _ _ _ h => h)) hl hl9)
 have hPt := hid (fun (w' : World) (hc : Chg Nothing w w') => refParts_any F A l c xs K w' (H.chg hc (fun _ _ _ h => h)) hl hl9)
 have hKi := hid (fun (w' : World) (hc : Chg Nothing w w') => leafKindsRefM F A l c xs K w' (H.chg hc (fun _ _ _ h => h)) hl (by omega))
 have hLg := hid (fun w => refLog_any size w)
 have hmx := H.max
 have hle := H.le
 unfold costT
 clear hX
 cases hs : sizedM xs K way n size with
 | false =>
  rw [hs] at hSz
  rw [if_neg (by decide)]
  clear H hl
  go_enter Tryz.func71, Tryz.ntmps71
  go_wp2_with fail
  refine (hSz.out _ hw0.out).mono ?_
  rintro e w1 ⟨rfl, hc1⟩
  have y10 := (hc1.cells.1 _ _ hxl).trans x0
  have y11 := (hc1.cells.1 _ _ hxl).trans x1
  have hl1 := Nat.lt_of_lt_of_le hxl hc1.size
  have hC1 := hid (hw0.out.trans hc1)
  clear hc1 x0 x1 hxl
  go_wp2
  go_ret2
  exact ⟨rfl, hC1.out⟩
 | true =>
  rw [hs] at hSz
  rw [if_pos rfl]
  obtain ⟨hr, hway⟩ := sized_way hs
  have h64 := right_len hr
  have hl1 : 1 ≤ l := by omega
  have hl64 : l ≤ 64 := by omega
  have hcm : costM xs way n size = if min n 100000 < (l : Int) then 0 else costV l (min n 100000) (xOf l (min n 100000) size) (kindsL xs).length (partsF xs) (partsP xs) way := by unfold costM; rw [hl]
  rw [hcm]
  have hpl := parts_le xs (by omega)
  clear H hl hcm hs
  by_cases hbig : (100000 : Int) < n
  ·have hmin : min n 100000 = 100000 := by omega
   rw [hmin]
   clear hmin
   by_cases hlt : (100000 : Int) < (l : Int)
   ·rw [if_pos hlt]
    have g1 : decide ((100000 : Int) < (l : Int)) = true := decide_eq_true hlt
    replace hlt := hid hlt
    go_enter Tryz.func71, Tryz.ntmps71
    go_wp2_with fail
    refine (hSz.out _ hw0.out).mono ?_
    rintro e w1 ⟨rfl, hc1⟩
    have y10 := (hc1.cells.1 _ _ hxl).trans x0
    have y11 := (hc1.cells.1 _ _ hxl).trans x1
    have hl1 := Nat.lt_of_lt_of_le hxl hc1.size
    have hC1 := hid (hw0.out.trans hc1)
    clear hc1 x0 x1 hxl
    go_wp2
    go_ret2
    exact ⟨rfl, hC1.out⟩
   rw [if_neg hlt]
   have g1 : decide ((100000 : Int) < (l : Int)) = false := decide_eq_false hlt
   obtain ⟨⟨xb1, xb2⟩, ⟨xb3, xb4⟩, xb5, xb6⟩ := x_bound (m := (l : Int)) (n := 100000) (size := size) (by omega) (by omega) (by omega)
   have hxd : xOf l 100000 size = countS l 100000 size * size * ((((logS size).getD 0 : Nat) : Int) + 1) := rfl
   have hCt := hid (fun w => refCount_any l 100000 size w)
   have hlg12 : ((logS size).getD 0 : Nat) ≤ 12 := by
    cases ho : logS size with
    | none => exact Nat.zero_le _
    | some q => exact (logS_some.1 ho).1
   obtain ⟨lg, hlgd⟩ : ∃ lg : Nat, lg = (logS size).getD 0 := ⟨_, rfl⟩
   rw [← hlgd] at hxd hLg hlg12
   clear hlgd
   obtain ⟨cs, hcs⟩ : ∃ cs, cs = countS l 100000 size := ⟨_, rfl⟩
   rw [← hcs] at hxd hCt xb1 xb2 xb3 xb4
   clear hcs
   have hw1 : IntKind.i64.wrap (cs * size) = cs * size := by rw [IntKind.wrap_i64]; omega
   have hw2 : IntKind.i64.wrap ((lg : Int) + 1) = (lg : Int) + 1 := by rw [IntKind.wrap_i64]; omega
   have xb5h := xb5
   have xb6h := xb6
   rw [hxd] at xb5 xb6
   have hw3 : IntKind.i64.wrap (cs * size * ((lg : Int) + 1)) = xOf l 100000 size := by rw [hxd, IntKind.wrap_i64]; omega
   generalize xOf l 100000 size = x at hw3 hxd xb5h xb6h ⊢
   replace hxd := hid hxd
   clear xb1 xb2 xb3 xb4 xb5 xb6
   obtain ⟨kl, hkl⟩ : ∃ kl, kl = (kindsL xs).length := ⟨_, rfl⟩
   obtain ⟨f, hf⟩ : ∃ f, f = partsF xs := ⟨_, rfl⟩
   obtain ⟨p, hp⟩ : ∃ p, p = partsP xs := ⟨_, rfl⟩
   rw [← hf, ← hp, ← hkl] at hpl ⊢
   rw [← hf, ← hp] at hPt
   rw [← hkl] at hKi
   clear hf hp hkl
   obtain ⟨pl1, pl2, pl3⟩ := hpl
   have m1 := mul_bound (a := (l : Int)) (b := 100000 - l + 1) (x := 64) (y := 100001) (by omega) (by omega) (by omega) (by omega)
   have m2 := mul_bound (a := (kl : Int)) (b := x + 100000) (x := 64) (y := 33000100000) (by omega) (by omega) (by omega) (by omega)
   have m3 := mul_bound (a := (f : Int)) (b := x + 100000) (x := 64) (y := 33000100000) (by omega) (by omega) (by omega) (by omega)
   have m4 := mul_bound (a := (100000 : Int)) (b := (p : Int)) (x := 100000) (y := 200) (by omega) (by omega) (by omega) (by omega)
   have hln : (l : Int) ≤ 100000 := by omega
   replace hlt := hid hlt
   rcases hway with rfl | rfl | rfl | rfl | rfl
   ·have hv := hid (show costV l 100000 x kl f p 1 = (l : Int) * (100000 - (l : Int) + 1) from by rfl)
    rw [hv.out]
    have e0 : IntKind.i64.wrap (100000 - (l : Int)) = 100000 - (l : Int) := by rw [IntKind.wrap_i64]; omega
    have e1 : IntKind.i64.wrap (100000 - (l : Int) + 1) = 100000 - (l : Int) + 1 := by rw [IntKind.wrap_i64]; omega
    have e2 : IntKind.i64.wrap ((l : Int) * (100000 - (l : Int) + 1)) = (l : Int) * (100000 - (l : Int) + 1) := by rw [IntKind.wrap_i64]; omega
    clear m1 m2 m3 m4
    go_enter Tryz.func71, Tryz.ntmps71
    go_wp2_with fail
    refine (hSz.out _ hw0.out).mono ?_
    rintro e w1 ⟨rfl, hc1⟩
    have y10 := (hc1.cells.1 _ _ hxl).trans x0
    have y11 := (hc1.cells.1 _ _ hxl).trans x1
    have hl1 := Nat.lt_of_lt_of_le hxl hc1.size
    have hC1 := hid (hw0.out.trans hc1)
    clear hc1 x0 x1 hxl
    go_wp2_with fail
    refine (hLg.out _).mono ?_
    rintro e w' ⟨rfl, rfl⟩
    go_wp2_with fail
    refine (hCt.out _).mono ?_
    rintro e w' ⟨rfl, rfl⟩
    go_wp2_with fail
    refine (hPt.out _ hC1.out).mono ?_
    rintro e w4 ⟨rfl, hc4⟩
    have y40 := (hc4.cells.1 _ _ hl1).trans y10
    have y41 := (hc4.cells.1 _ _ hl1).trans y11
    have hl4 := Nat.lt_of_lt_of_le hl1 hc4.size
    have hC4 := hid (hC1.out.trans hc4)
    clear hc4 y10 y11 hl1
    go_wp2
    go_ret2
    exact ⟨rfl, hC4.out⟩
   ·have hv := hid (show costV l 100000 x kl f p 2 = 4 * (100000 + (l : Int)) from by rfl)
    rw [hv.out]
    have e0 : IntKind.i64.wrap (100000 + (l : Int)) = 100000 + (l : Int) := by rw [IntKind.wrap_i64]; omega
    have e1 : IntKind.i64.wrap (4 * (100000 + (l : Int))) = 4 * (100000 + (l : Int)) := by rw [IntKind.wrap_i64]; omega
    clear m1 m2 m3 m4
    go_enter Tryz.func71, Tryz.ntmps71
    go_wp2_with fail
    refine (hSz.out _ hw0.out).mono ?_
    rintro e w1 ⟨rfl, hc1⟩
    have y10 := (hc1.cells.1 _ _ hxl).trans x0
    have y11 := (hc1.cells.1 _ _ hxl).trans x1
    have hl1 := Nat.lt_of_lt_of_le hxl hc1.size
    have hC1 := hid (hw0.out.trans hc1)
    clear hc1 x0 x1 hxl
    go_wp2_with fail
    refine (hLg.out _).mono ?_
    rintro e w' ⟨rfl, rfl⟩
    go_wp2_with fail
    refine (hCt.out _).mono ?_
    rintro e w' ⟨rfl, rfl⟩
    go_wp2_with fail
    refine (hPt.out _ hC1.out).mono ?_
    rintro e w4 ⟨rfl, hc4⟩
    have y40 := (hc4.cells.1 _ _ hl1).trans y10
    have y41 := (hc4.cells.1 _ _ hl1).trans y11
    have hl4 := Nat.lt_of_lt_of_le hl1 hc4.size
    have hC4 := hid (hC1.out.trans hc4)
    clear hc4 y10 y11 hl1
    go_wp2
    go_ret2
    exact ⟨rfl, hC4.out⟩
   ·have hv := hid (show costV l 100000 x kl f p 3 = 2 * x + 4 * (100000 : Int) from by rfl)
    rw [hv.out]
    have e0 : IntKind.i64.wrap (2 * x) = 2 * x := by rw [IntKind.wrap_i64]; omega
    have e1 : IntKind.i64.wrap (4 * (100000 : Int)) = 4 * (100000 : Int) := by rw [IntKind.wrap_i64]; omega
    have e2 : IntKind.i64.wrap (2 * x + 4 * (100000 : Int)) = 2 * x + 4 * (100000 : Int) := by rw [IntKind.wrap_i64]; omega
    clear m1 m2 m3 m4
    go_enter Tryz.func71, Tryz.ntmps71
    go_wp2_with fail
    refine (hSz.out _ hw0.out).mono ?_
    rintro e w1 ⟨rfl, hc1⟩
    have y10 := (hc1.cells.1 _ _ hxl).trans x0
    have y11 := (hc1.cells.1 _ _ hxl).trans x1
    have hl1 := Nat.lt_of_lt_of_le hxl hc1.size
    have hC1 := hid (hw0.out.trans hc1)
    clear hc1 x0 x1 hxl
    go_wp2_with fail
    refine (hLg.out _).mono ?_
    rintro e w' ⟨rfl, rfl⟩
    go_wp2_with fail
    refine (hCt.out _).mono ?_
    rintro e w' ⟨rfl, rfl⟩
    go_wp2_with fail
    refine (hPt.out _ hC1.out).mono ?_
    rintro e w4 ⟨rfl, hc4⟩
    have y40 := (hc4.cells.1 _ _ hl1).trans y10
    have y41 := (hc4.cells.1 _ _ hl1).trans y11
    have hl4 := Nat.lt_of_lt_of_le hl1 hc4.size
    have hC4 := hid (hC1.out.trans hc4)
    clear hc4 y10 y11 hl1
    go_wp2
    go_ret2
    exact ⟨rfl, hC4.out⟩
   ·have hv := hid (show costV l 100000 x kl f p 4 = (kl : Int) * (x + 100000) + 100000 from by rw [Int.mul_comm (kl : Int)]; rfl)
    rw [hv.out]
    have e0 : IntKind.i64.wrap (x + 100000) = x + 100000 := by rw [IntKind.wrap_i64]; omega
    have e1 : IntKind.i64.wrap ((kl : Int) * (x + 100000)) = (kl : Int) * (x + 100000) := by rw [IntKind.wrap_i64]; omega
    have e2 : IntKind.i64.wrap ((kl : Int) * (x + 100000) + 100000) = (kl : Int) * (x + 100000) + 100000 := by rw [IntKind.wrap_i64]; omega
    clear m1 m2 m3 m4
    go_enter Tryz.func71, Tryz.ntmps71
    go_wp2_with fail
    refine (hSz.out _ hw0.out).mono ?_
    rintro e w1 ⟨rfl, hc1⟩
    have y10 := (hc1.cells.1 _ _ hxl).trans x0
    have y11 := (hc1.cells.1 _ _ hxl).trans x1
    have hl1 := Nat.lt_of_lt_of_le hxl hc1.size
    have hC1 := hid (hw0.out.trans hc1)
    clear hc1 x0 x1 hxl
    go_wp2_with fail
    refine (hLg.out _).mono ?_
    rintro e w' ⟨rfl, rfl⟩
    go_wp2_with fail
    refine (hCt.out _).mono ?_
    rintro e w' ⟨rfl, rfl⟩
    go_wp2_with fail
    refine (hPt.out _ hC1.out).mono ?_
    rintro e w4 ⟨rfl, hc4⟩
    have y40 := (hc4.cells.1 _ _ hl1).trans y10
    have y41 := (hc4.cells.1 _ _ hl1).trans y11
    have hl4 := Nat.lt_of_lt_of_le hl1 hc4.size
    have hC4 := hid (hC1.out.trans hc4)
    clear hc4 y10 y11 hl1
    go_wp2_with fail
    refine (hKi.out _ hC4.out).mono ?_
    rintro e w5 ⟨AK, cK, rfl, hc5⟩
    have y50 := (hc5.cells.1 _ _ hl4).trans y40
    have y51 := (hc5.cells.1 _ _ hl4).trans y41
    have hl5 := Nat.lt_of_lt_of_le hl4 hc5.size
    have hC5 := hid (hC4.out.trans hc5)
    clear hc5 y40 y41 hl4
    go_wp2
    go_ret2
    exact ⟨rfl, hC5.out⟩
   ·have hv := hid (show costV l 100000 x kl f p 5 = (f : Int) * (x + 100000) + (100000 : Int) * (p : Int) + 100000 from by rw [Int.mul_comm (f : Int)]; rfl)
    rw [hv.out]
    have e0 : IntKind.i64.wrap (x + 100000) = x + 100000 := by rw [IntKind.wrap_i64]; omega
    have e1 : IntKind.i64.wrap ((f : Int) * (x + 100000)) = (f : Int) * (x + 100000) := by rw [IntKind.wrap_i64]; omega
    have e2 : IntKind.i64.wrap ((100000 : Int) * (p : Int)) = (100000 : Int) * (p : Int) := by rw [IntKind.wrap_i64]; omega
    have e3 : IntKind.i64.wrap ((f : Int) * (x + 100000) + (100000 : Int) * (p : Int)) = (f : Int) * (x + 100000) + (100000 : Int) * (p : Int) := by rw [IntKind.wrap_i64]; omega
    have e4 : IntKind.i64.wrap ((f : Int) * (x + 100000) + (100000 : Int) * (p : Int) + 100000) = (f : Int) * (x + 100000) + (100000 : Int) * (p : Int) + 100000 := by rw [IntKind.wrap_i64]; omega
    clear m1 m2 m3 m4
    go_enter Tryz.func71, Tryz.ntmps71
    go_wp2_with fail
    refine (hSz.out _ hw0.out).mono ?_
    rintro e w1 ⟨rfl, hc1⟩
    have y10 := (hc1.cells.1 _ _ hxl).trans x0
    have y11 := (hc1.cells.1 _ _ hxl).trans x1
    have hl1 := Nat.lt_of_lt_of_le hxl hc1.size
    have hC1 := hid (hw0.out.trans hc1)
    clear hc1 x0 x1 hxl
    go_wp2_with fail
    refine (hLg.out _).mono ?_
    rintro e w' ⟨rfl, rfl⟩
    go_wp2_with fail
    refine (hCt.out _).mono ?_
    rintro e w' ⟨rfl, rfl⟩
    go_wp2_with fail
    refine (hPt.out _ hC1.out).mono ?_
    rintro e w4 ⟨rfl, hc4⟩
    have y40 := (hc4.cells.1 _ _ hl1).trans y10
    have y41 := (hc4.cells.1 _ _ hl1).trans y11
    have hl4 := Nat.lt_of_lt_of_le hl1 hc4.size
    have hC4 := hid (hC1.out.trans hc4)
    clear hc4 y10 y11 hl1
    go_wp2
    go_ret2
    exact ⟨rfl, hC4.out⟩
  ·have hmin : min n 100000 = n := by omega
   rw [hmin]
   clear hmin
   by_cases hlt : (n : Int) < (l : Int)
   ·rw [if_pos hlt]
    have g1 : decide ((n : Int) < (l : Int)) = true := decide_eq_true hlt
    replace hlt := hid hlt
    go_enter Tryz.func71, Tryz.ntmps71
    go_wp2_with fail
    refine (hSz.out _ hw0.out).mono ?_
    rintro e w1 ⟨rfl, hc1⟩
    have y10 := (hc1.cells.1 _ _ hxl).trans x0
    have y11 := (hc1.cells.1 _ _ hxl).trans x1
    have hl1 := Nat.lt_of_lt_of_le hxl hc1.size
    have hC1 := hid (hw0.out.trans hc1)
    clear hc1 x0 x1 hxl
    go_wp2
    go_ret2
    exact ⟨rfl, hC1.out⟩
   rw [if_neg hlt]
   have g1 : decide ((n : Int) < (l : Int)) = false := decide_eq_false hlt
   obtain ⟨⟨xb1, xb2⟩, ⟨xb3, xb4⟩, xb5, xb6⟩ := x_bound (m := (l : Int)) (n := n) (size := size) (by omega) (by omega) (by omega)
   have hxd : xOf l n size = countS l n size * size * ((((logS size).getD 0 : Nat) : Int) + 1) := rfl
   have hCt := hid (fun w => refCount_any l n size w)
   have hlg12 : ((logS size).getD 0 : Nat) ≤ 12 := by
    cases ho : logS size with
    | none => exact Nat.zero_le _
    | some q => exact (logS_some.1 ho).1
   obtain ⟨lg, hlgd⟩ : ∃ lg : Nat, lg = (logS size).getD 0 := ⟨_, rfl⟩
   rw [← hlgd] at hxd hLg hlg12
   clear hlgd
   obtain ⟨cs, hcs⟩ : ∃ cs, cs = countS l n size := ⟨_, rfl⟩
   rw [← hcs] at hxd hCt xb1 xb2 xb3 xb4
   clear hcs
   have hw1 : IntKind.i64.wrap (cs * size) = cs * size := by rw [IntKind.wrap_i64]; omega
   have hw2 : IntKind.i64.wrap ((lg : Int) + 1) = (lg : Int) + 1 := by rw [IntKind.wrap_i64]; omega
   have xb5h := xb5
   have xb6h := xb6
   rw [hxd] at xb5 xb6
   have hw3 : IntKind.i64.wrap (cs * size * ((lg : Int) + 1)) = xOf l n size := by rw [hxd, IntKind.wrap_i64]; omega
   generalize xOf l n size = x at hw3 hxd xb5h xb6h ⊢
   replace hxd := hid hxd
   clear xb1 xb2 xb3 xb4 xb5 xb6
   obtain ⟨kl, hkl⟩ : ∃ kl, kl = (kindsL xs).length := ⟨_, rfl⟩
   obtain ⟨f, hf⟩ : ∃ f, f = partsF xs := ⟨_, rfl⟩
   obtain ⟨p, hp⟩ : ∃ p, p = partsP xs := ⟨_, rfl⟩
   rw [← hf, ← hp, ← hkl] at hpl ⊢
   rw [← hf, ← hp] at hPt
   rw [← hkl] at hKi
   clear hf hp hkl
   obtain ⟨pl1, pl2, pl3⟩ := hpl
   have m1 := mul_bound (a := (l : Int)) (b := n - l + 1) (x := 64) (y := 100001) (by omega) (by omega) (by omega) (by omega)
   have m2 := mul_bound (a := (kl : Int)) (b := x + n) (x := 64) (y := 33000100000) (by omega) (by omega) (by omega) (by omega)
   have m3 := mul_bound (a := (f : Int)) (b := x + n) (x := 64) (y := 33000100000) (by omega) (by omega) (by omega) (by omega)
   have m4 := mul_bound (a := (n : Int)) (b := (p : Int)) (x := 100000) (y := 200) (by omega) (by omega) (by omega) (by omega)
   have hln : (l : Int) ≤ n := by omega
   replace hlt := hid hlt
   rcases hway with rfl | rfl | rfl | rfl | rfl
   ·have hv := hid (show costV l n x kl f p 1 = (l : Int) * (n - (l : Int) + 1) from by rfl)
    rw [hv.out]
    have e0 : IntKind.i64.wrap (n - (l : Int)) = n - (l : Int) := by rw [IntKind.wrap_i64]; omega
    have e1 : IntKind.i64.wrap (n - (l : Int) + 1) = n - (l : Int) + 1 := by rw [IntKind.wrap_i64]; omega
    have e2 : IntKind.i64.wrap ((l : Int) * (n - (l : Int) + 1)) = (l : Int) * (n - (l : Int) + 1) := by rw [IntKind.wrap_i64]; omega
    clear m1 m2 m3 m4
    go_enter Tryz.func71, Tryz.ntmps71
    go_wp2_with fail
    refine (hSz.out _ hw0.out).mono ?_
    rintro e w1 ⟨rfl, hc1⟩
    have y10 := (hc1.cells.1 _ _ hxl).trans x0
    have y11 := (hc1.cells.1 _ _ hxl).trans x1
    have hl1 := Nat.lt_of_lt_of_le hxl hc1.size
    have hC1 := hid (hw0.out.trans hc1)
    clear hc1 x0 x1 hxl
    go_wp2_with fail
    refine (hLg.out _).mono ?_
    rintro e w' ⟨rfl, rfl⟩
    go_wp2_with fail
    refine (hCt.out _).mono ?_
    rintro e w' ⟨rfl, rfl⟩
    go_wp2_with fail
    refine (hPt.out _ hC1.out).mono ?_
    rintro e w4 ⟨rfl, hc4⟩
    have y40 := (hc4.cells.1 _ _ hl1).trans y10
    have y41 := (hc4.cells.1 _ _ hl1).trans y11
    have hl4 := Nat.lt_of_lt_of_le hl1 hc4.size
    have hC4 := hid (hC1.out.trans hc4)
    clear hc4 y10 y11 hl1
    go_wp2
    go_ret2
    exact ⟨rfl, hC4.out⟩
   ·have hv := hid (show costV l n x kl f p 2 = 4 * (n + (l : Int)) from by rfl)
    rw [hv.out]
    have e0 : IntKind.i64.wrap (n + (l : Int)) = n + (l : Int) := by rw [IntKind.wrap_i64]; omega
    have e1 : IntKind.i64.wrap (4 * (n + (l : Int))) = 4 * (n + (l : Int)) := by rw [IntKind.wrap_i64]; omega
    clear m1 m2 m3 m4
    go_enter Tryz.func71, Tryz.ntmps71
    go_wp2_with fail
    refine (hSz.out _ hw0.out).mono ?_
    rintro e w1 ⟨rfl, hc1⟩
    have y10 := (hc1.cells.1 _ _ hxl).trans x0
    have y11 := (hc1.cells.1 _ _ hxl).trans x1
    have hl1 := Nat.lt_of_lt_of_le hxl hc1.size
    have hC1 := hid (hw0.out.trans hc1)
    clear hc1 x0 x1 hxl
    go_wp2_with fail
    refine (hLg.out _).mono ?_
    rintro e w' ⟨rfl, rfl⟩
    go_wp2_with fail
    refine (hCt.out _).mono ?_
    rintro e w' ⟨rfl, rfl⟩
    go_wp2_with fail
    refine (hPt.out _ hC1.out).mono ?_
    rintro e w4 ⟨rfl, hc4⟩
    have y40 := (hc4.cells.1 _ _ hl1).trans y10
    have y41 := (hc4.cells.1 _ _ hl1).trans y11
    have hl4 := Nat.lt_of_lt_of_le hl1 hc4.size
    have hC4 := hid (hC1.out.trans hc4)
    clear hc4 y10 y11 hl1
    go_wp2
    go_ret2
    exact ⟨rfl, hC4.out⟩
   ·have hv := hid (show costV l n x kl f p 3 = 2 * x + 4 * (n : Int) from by rfl)
    rw [hv.out]
    have e0 : IntKind.i64.wrap (2 * x) = 2 * x := by rw [IntKind.wrap_i64]; omega
    have e1 : IntKind.i64.wrap (4 * (n : Int)) = 4 * (n : Int) := by rw [IntKind.wrap_i64]; omega
    have e2 : IntKind.i64.wrap (2 * x + 4 * (n : Int)) = 2 * x + 4 * (n : Int) := by rw [IntKind.wrap_i64]; omega
    clear m1 m2 m3 m4
    go_enter Tryz.func71, Tryz.ntmps71
    go_wp2_with fail
    refine (hSz.out _ hw0.out).mono ?_
    rintro e w1 ⟨rfl, hc1⟩
    have y10 := (hc1.cells.1 _ _ hxl).trans x0
    have y11 := (hc1.cells.1 _ _ hxl).trans x1
    have hl1 := Nat.lt_of_lt_of_le hxl hc1.size
    have hC1 := hid (hw0.out.trans hc1)
    clear hc1 x0 x1 hxl
    go_wp2_with fail
    refine (hLg.out _).mono ?_
    rintro e w' ⟨rfl, rfl⟩
    go_wp2_with fail
    refine (hCt.out _).mono ?_
    rintro e w' ⟨rfl, rfl⟩
    go_wp2_with fail
    refine (hPt.out _ hC1.out).mono ?_
    rintro e w4 ⟨rfl, hc4⟩
    have y40 := (hc4.cells.1 _ _ hl1).trans y10
    have y41 := (hc4.cells.1 _ _ hl1).trans y11
    have hl4 := Nat.lt_of_lt_of_le hl1 hc4.size
    have hC4 := hid (hC1.out.trans hc4)
    clear hc4 y10 y11 hl1
    go_wp2
    go_ret2
    exact ⟨rfl, hC4.out⟩
   ·have hv := hid (show costV l n x kl f p 4 = (kl : Int) * (x + n) + n from by rw [Int.mul_comm (kl : Int)]; rfl)
    rw [hv.out]
    have e0 : IntKind.i64.wrap (x + n) = x + n := by rw [IntKind.wrap_i64]; omega
    have e1 : IntKind.i64.wrap ((kl : Int) * (x + n)) = (kl : Int) * (x + n) := by rw [IntKind.wrap_i64]; omega
    have e2 : IntKind.i64.wrap ((kl : Int) * (x + n) + n) = (kl : Int) * (x + n) + n := by rw [IntKind.wrap_i64]; omega
    clear m1 m2 m3 m4
    go_enter Tryz.func71, Tryz.ntmps71
    go_wp2_with fail
    refine (hSz.out _ hw0.out).mono ?_
    rintro e w1 ⟨rfl, hc1⟩
    have y10 := (hc1.cells.1 _ _ hxl).trans x0
    have y11 := (hc1.cells.1 _ _ hxl).trans x1
    have hl1 := Nat.lt_of_lt_of_le hxl hc1.size
    have hC1 := hid (hw0.out.trans hc1)
    clear hc1 x0 x1 hxl
    go_wp2_with fail
    refine (hLg.out _).mono ?_
    rintro e w' ⟨rfl, rfl⟩
    go_wp2_with fail
    refine (hCt.out _).mono ?_
    rintro e w' ⟨rfl, rfl⟩
    go_wp2_with fail
    refine (hPt.out _ hC1.out).mono ?_
    rintro e w4 ⟨rfl, hc4⟩
    have y40 := (hc4.cells.1 _ _ hl1).trans y10
    have y41 := (hc4.cells.1 _ _ hl1).trans y11
    have hl4 := Nat.lt_of_lt_of_le hl1 hc4.size
    have hC4 := hid (hC1.out.trans hc4)
    clear hc4 y10 y11 hl1
    go_wp2_with fail
    refine (hKi.out _ hC4.out).mono ?_
    rintro e w5 ⟨AK, cK, rfl, hc5⟩
    have y50 := (hc5.cells.1 _ _ hl4).trans y40
    have y51 := (hc5.cells.1 _ _ hl4).trans y41
    have hl5 := Nat.lt_of_lt_of_le hl4 hc5.size
    have hC5 := hid (hC4.out.trans hc5)
    clear hc5 y40 y41 hl4
    go_wp2
    go_ret2
    exact ⟨rfl, hC5.out⟩
   ·have hv := hid (show costV l n x kl f p 5 = (f : Int) * (x + n) + (n : Int) * (p : Int) + n from by rw [Int.mul_comm (f : Int)]; rfl)
    rw [hv.out]
    have e0 : IntKind.i64.wrap (x + n) = x + n := by rw [IntKind.wrap_i64]; omega
    have e1 : IntKind.i64.wrap ((f : Int) * (x + n)) = (f : Int) * (x + n) := by rw [IntKind.wrap_i64]; omega
    have e2 : IntKind.i64.wrap ((n : Int) * (p : Int)) = (n : Int) * (p : Int) := by rw [IntKind.wrap_i64]; omega
    have e3 : IntKind.i64.wrap ((f : Int) * (x + n) + (n : Int) * (p : Int)) = (f : Int) * (x + n) + (n : Int) * (p : Int) := by rw [IntKind.wrap_i64]; omega
    have e4 : IntKind.i64.wrap ((f : Int) * (x + n) + (n : Int) * (p : Int) + n) = (f : Int) * (x + n) + (n : Int) * (p : Int) + n := by rw [IntKind.wrap_i64]; omega
    clear m1 m2 m3 m4
    go_enter Tryz.func71, Tryz.ntmps71
    go_wp2_with fail
    refine (hSz.out _ hw0.out).mono ?_
    rintro e w1 ⟨rfl, hc1⟩
    have y10 := (hc1.cells.1 _ _ hxl).trans x0
    have y11 := (hc1.cells.1 _ _ hxl).trans x1
    have hl1 := Nat.lt_of_lt_of_le hxl hc1.size
    have hC1 := hid (hw0.out.trans hc1)
    clear hc1 x0 x1 hxl
    go_wp2_with fail
    refine (hLg.out _).mono ?_
    rintro e w' ⟨rfl, rfl⟩
    go_wp2_with fail
    refine (hCt.out _).mono ?_
    rintro e w' ⟨rfl, rfl⟩
    go_wp2_with fail
    refine (hPt.out _ hC1.out).mono ?_
    rintro e w4 ⟨rfl, hc4⟩
    have y40 := (hc4.cells.1 _ _ hl1).trans y10
    have y41 := (hc4.cells.1 _ _ hl1).trans y11
    have hl4 := Nat.lt_of_lt_of_le hl1 hc4.size
    have hC4 := hid (hC1.out.trans hc4)
    clear hc4 y10 y11 hl1
    go_wp2
    go_ret2
    exact ⟨rfl, hC4.out⟩
def chooseTo (xs : List Cls) (K n size : Int) : Nat → Int × Int
 | 0 => (0, 0)
 | k + 1 => if sizedM xs K ((k : Int) + 1) n size = true ∧ ((chooseTo xs K n size k).1 = 0 ∨ costM xs ((k : Int) + 1) n size < (chooseTo xs K n size k).2) then ((k : Int) + 1, costM xs ((k : Int) + 1) n size) else chooseTo xs K n size k
def chooseM (xs : List Cls) (K n size : Int) : Int := (chooseTo xs K n size 5).1
theorem chooseTo_sized (xs : List Cls) (K n size : Int) : ∀ k, ((chooseTo xs K n size k).1 = 0 ∨ sizedM xs K (chooseTo xs K n size k).1 n size = true) ∧ 0 ≤ (chooseTo xs K n size k).1 ∧ (chooseTo xs K n size k).1 ≤ k
 | 0 => ⟨.inl rfl, Int.le_refl _, Int.le_refl _⟩
 | k + 1 => by
  have ih := chooseTo_sized xs K n size k
  unfold chooseTo
  by_cases h : sizedM xs K ((k : Int) + 1) n size = true ∧ ((chooseTo xs K n size k).1 = 0 ∨ costM xs ((k : Int) + 1) n size < (chooseTo xs K n size k).2)
  ·rw [if_pos h]
   exact ⟨.inr h.1, by show (0 : Int) ≤ (k : Int) + 1; omega, by show (k : Int) + 1 ≤ ((k + 1 : Nat) : Int); omega⟩
  ·rw [if_neg h]
   exact ⟨ih.1, ih.2.1, by have := ih.2.2; omega⟩
theorem sized_naive {xs : List Cls} {K n size : Int} (h : rightB xs K = true) : sizedM xs K 1 n size = true := by
 unfold sizedM admitsB
 rw [h]
 simp
theorem choose_one {xs : List Cls} {K n size : Int} (h : rightB xs K = true) : ∀ k, 1 ≤ k → (chooseTo xs K n size k).1 ≠ 0
 | 0, h1 => by omega
 | k + 1, _ => by
  unfold chooseTo
  by_cases hc : sizedM xs K ((k : Int) + 1) n size = true ∧ ((chooseTo xs K n size k).1 = 0 ∨ costM xs ((k : Int) + 1) n size < (chooseTo xs K n size k).2)
  ·rw [if_pos hc]
   show (k : Int) + 1 ≠ 0
   omega
  ·rw [if_neg hc]
   rcases Nat.eq_zero_or_pos k with h0 | h0
   ·subst h0
    exact absurd ⟨sized_naive h, .inl rfl⟩ hc
   ·exact choose_one h k h0
theorem choose_right {xs : List Cls} {K n size : Int} (h : rightB xs K = true) : sizedM xs K (chooseM xs K n size) n size = true := by
 have h1 := (chooseTo_sized xs K n size 5).1
 exact h1.resolve_left (choose_one h 5 (by decide))
def ChInv (xs : List Cls) (K n size : Int) (b : Nat) (A : Option Addr) (l c : Nat) (w1 : World) (bv lv iv : Value) (wr : World) : Prop := ∃ k : Nat, k ≤ 5 ∧ iv = .int .i64 ((k : Int) + 1) ∧ bv = .int .i64 (chooseTo xs K n size k).1 ∧ lv = .int .i64 (chooseTo xs K n size k).2 ∧ Blk wr b #[.slice A l c, .int .i64 K] 34 ∧ Chg Nothing w1 wr
theorem planChoose_any (F : Nat → Prop) (A : Option Addr) (l c : Nat) (xs : List Cls) (K n size : Int) (w : World) (H : ClsRow F w A l c xs) (hl : xs.length = l) (hl9 : l ≤ 100000000) :
  Calls Tryz.prog 35 #[.agg #[.slice A l c, .int .i64 K], .int .i64 n, .int .i64 size] w fun e w' => e = .returned (.int .i64 (chooseM xs K n size)) ∧ Chg Nothing w w' := by
 have hX := hid (Blk.new w #[.slice A l c, .int .i64 K] 34)
 have hw0 := hid ((Chg.refl Nothing w).alloc (.cells #[.slice A l c, .int .i64 K] 34))
 have hCo := hid (fun (way : Int) (w' : World) (hc : Chg Nothing w w') => planCost_any F A l c xs K way n size w' (H.chg hc (fun _ _ _ h => h)) hl hl9)
 have hfin := hid (show chooseM xs K n size = (chooseTo xs K n size 5).1 from rfl)
 clear H hl
 go_enter Tryz.func35, Tryz.ntmps35
 go_wp2_with fail
 go_loopw [7, 8, 9] (fun bv lv iv wr => ChInv xs K n size w.heap.size A l c w bv lv iv wr) (fun _ _ iv _ => 6 - (intOf iv).toNat)
 case atStart => exact ⟨0, by decide, rfl, rfl, rfl, hX.out, hw0.out⟩
 case round =>
  obtain ⟨k, hk, rfl, rfl, rfl, hXr, hchg⟩ := hrel
  have x0 := hXr.cell 0 (v := .slice A l c) rfl
  have x1 := hXr.cell 1 (v := .int .i64 K) rfl
  have hXh := hid hXr
  have hCr := hid hchg
  clear hXr hchg
  rcases Nat.lt_or_ge k 5 with hk5 | hk5
  ·have g0 : decide ((k : Int) + 1 ≤ 5) = true := decide_eq_true (by omega)
   have hwk : IntKind.i64.wrap ((k : Int) + 1 + 1) = (k : Int) + 1 + 1 := by rw [IntKind.wrap_i64]; omega
   have hst := hid (show chooseTo xs K n size (k + 1) = if sizedM xs K ((k : Int) + 1) n size = true ∧ ((chooseTo xs K n size k).1 = 0 ∨ costM xs ((k : Int) + 1) n size < (chooseTo xs K n size k).2) then ((k : Int) + 1, costM xs ((k : Int) + 1) n size) else chooseTo xs K n size k from rfl)
   have hC1 := hid (hCo.out ((k : Int) + 1) _ hCr.out)
   unfold costT at hC1
   obtain ⟨p, hp⟩ : ∃ p, p = chooseTo xs K n size k := ⟨_, rfl⟩
   rw [← hp] at hst ⊢
   obtain ⟨bst, lst⟩ := p
   obtain ⟨q, hq⟩ : ∃ q, q = costM xs ((k : Int) + 1) n size := ⟨_, rfl⟩
   rw [← hq] at hst hC1
   replace hp := hid hp
   replace hq := hid hq
   simp only [] at hst ⊢
   cases hs : sizedM xs K ((k : Int) + 1) n size with
   | false =>
    rw [hs] at hC1 hst
    rw [if_neg (by decide)] at hC1
    have hst2 := hid (show chooseTo xs K n size (k + 1) = (bst, lst) from by rw [hst.out, if_neg (by simp)])
    clear hst
    go_wp2_with fail
    refine hC1.out.mono ?_
    rintro e w2 ⟨rfl, hc2⟩
    have hC2 := hid (hCr.out.trans hc2)
    have hX2 := hid (hXh.out.chg hc2 id)
    clear hc2 x0 x1
    go_wp2
    go_roundw
    case rel => exact ⟨k + 1, hk5, by go_num, by rw [hst2.out], by rw [hst2.out], hX2.out, hC2.out⟩
    case measure => simp [intOf]; omega
   | true =>
    rw [hs] at hC1 hst
    rw [if_pos rfl] at hC1
    by_cases hb : bst = 0
    ·have b1 : (bst == 0) = true := beq_iff_eq.2 hb
     have hst2 := hid (show chooseTo xs K n size (k + 1) = ((k : Int) + 1, q) from by rw [hst.out, if_pos ⟨rfl, .inl hb⟩])
     clear hst
     replace hb := hid hb
     go_wp2_with fail
     refine hC1.out.mono ?_
     rintro e w2 ⟨rfl, hc2⟩
     have hC2 := hid (hCr.out.trans hc2)
     have hX2 := hid (hXh.out.chg hc2 id)
     clear hc2 x0 x1
     go_wp2
     go_roundw
     case rel => exact ⟨k + 1, hk5, by go_num, by rw [hst2.out], by rw [hst2.out], hX2.out, hC2.out⟩
     case measure => simp [intOf]; omega
    ·have b1 : (bst == 0) = false := beq_eq_false_iff_ne.2 hb
     by_cases hlt : q < lst
     ·have b2 : decide (q < lst) = true := decide_eq_true hlt
      have hst2 := hid (show chooseTo xs K n size (k + 1) = ((k : Int) + 1, q) from by rw [hst.out, if_pos ⟨rfl, .inr hlt⟩])
      clear hst
      replace hb := hid hb
      replace hlt := hid hlt
      go_wp2_with fail
      refine hC1.out.mono ?_
      rintro e w2 ⟨rfl, hc2⟩
      have hC2 := hid (hCr.out.trans hc2)
      have hX2 := hid (hXh.out.chg hc2 id)
      clear hc2 x0 x1
      go_wp2
      go_roundw
      case rel => exact ⟨k + 1, hk5, by go_num, by rw [hst2.out], by rw [hst2.out], hX2.out, hC2.out⟩
      case measure => simp [intOf]; omega
     ·have b2 : decide (q < lst) = false := decide_eq_false hlt
      have hst2 := hid (show chooseTo xs K n size (k + 1) = (bst, lst) from by rw [hst.out, if_neg (by rintro ⟨-, h | h⟩; exact hb h; exact hlt h)])
      clear hst
      replace hb := hid hb
      replace hlt := hid hlt
      go_wp2_with fail
      refine hC1.out.mono ?_
      rintro e w2 ⟨rfl, hc2⟩
      have hC2 := hid (hCr.out.trans hc2)
      have hX2 := hid (hXh.out.chg hc2 id)
      clear hc2 x0 x1
      go_wp2
      go_roundw
      case rel => exact ⟨k + 1, hk5, by go_num, by rw [hst2.out], by rw [hst2.out], hX2.out, hC2.out⟩
      case measure => simp [intOf]; omega
  ·obtain rfl : k = 5 := by omega
   obtain ⟨p, hp⟩ : ∃ p, p = chooseTo xs K n size 5 := ⟨_, rfl⟩
   rw [← hp]
   obtain ⟨bst, lst⟩ := p
   replace hp := hid hp
   clear x0 x1
   go_wp2
   go_ret
   exact ⟨by rw [hfin.out, ← hp.out]; rfl, hCr.out⟩
theorem refChoose_any (F : Nat → Prop) (A : Option Addr) (l c : Nat) (xs : List Cls) (K n size : Int) (w : World) (H : ClsRow F w A l c xs) (hl : xs.length = l) (hl9 : l ≤ 100000000) :
  Calls Tryz.prog 37 #[.agg #[.slice A l c, .int .i64 K], .int .i64 n, .int .i64 size] w fun e w' => e = .returned (.int .i64 (chooseM xs K n size)) ∧ Chg Nothing w w' := by
 have hX := hid (Blk.new w #[.slice A l c, .int .i64 K] 34)
 have hw0 := hid ((Chg.refl Nothing w).alloc (.cells #[.slice A l c, .int .i64 K] 34))
 have hCo := hid (fun (way : Int) (w' : World) (hc : Chg Nothing w w') => refCost_any F A l c xs K way n size w' (H.chg hc (fun _ _ _ h => h)) hl hl9)
 have hfin := hid (show chooseM xs K n size = (chooseTo xs K n size 5).1 from rfl)
 clear H hl
 go_enter Tryz.func37, Tryz.ntmps37
 go_wp2_with fail
 go_loopw [7, 8, 9] (fun bv lv iv wr => ChInv xs K n size w.heap.size A l c w bv lv iv wr) (fun _ _ iv _ => 6 - (intOf iv).toNat)
 case atStart => exact ⟨0, by decide, rfl, rfl, rfl, hX.out, hw0.out⟩
 case round =>
  obtain ⟨k, hk, rfl, rfl, rfl, hXr, hchg⟩ := hrel
  have x0 := hXr.cell 0 (v := .slice A l c) rfl
  have x1 := hXr.cell 1 (v := .int .i64 K) rfl
  have hXh := hid hXr
  have hCr := hid hchg
  clear hXr hchg
  rcases Nat.lt_or_ge k 5 with hk5 | hk5
  ·have g0 : decide ((k : Int) + 1 ≤ 5) = true := decide_eq_true (by omega)
   have hwk : IntKind.i64.wrap ((k : Int) + 1 + 1) = (k : Int) + 1 + 1 := by rw [IntKind.wrap_i64]; omega
   have hst := hid (show chooseTo xs K n size (k + 1) = if sizedM xs K ((k : Int) + 1) n size = true ∧ ((chooseTo xs K n size k).1 = 0 ∨ costM xs ((k : Int) + 1) n size < (chooseTo xs K n size k).2) then ((k : Int) + 1, costM xs ((k : Int) + 1) n size) else chooseTo xs K n size k from rfl)
   have hC1 := hid (hCo.out ((k : Int) + 1) _ hCr.out)
   unfold costT at hC1
   obtain ⟨p, hp⟩ : ∃ p, p = chooseTo xs K n size k := ⟨_, rfl⟩
   rw [← hp] at hst ⊢
   obtain ⟨bst, lst⟩ := p
   obtain ⟨q, hq⟩ : ∃ q, q = costM xs ((k : Int) + 1) n size := ⟨_, rfl⟩
   rw [← hq] at hst hC1
   replace hp := hid hp
   replace hq := hid hq
   simp only [] at hst ⊢
   cases hs : sizedM xs K ((k : Int) + 1) n size with
   | false =>
    rw [hs] at hC1 hst
    rw [if_neg (by decide)] at hC1
    have hst2 := hid (show chooseTo xs K n size (k + 1) = (bst, lst) from by rw [hst.out, if_neg (by simp)])
    clear hst
    go_wp2_with fail
    refine hC1.out.mono ?_
    rintro e w2 ⟨rfl, hc2⟩
    have hC2 := hid (hCr.out.trans hc2)
    have hX2 := hid (hXh.out.chg hc2 id)
    clear hc2 x0 x1
    go_wp2
    go_roundw
    case rel => exact ⟨k + 1, hk5, by go_num, by rw [hst2.out], by rw [hst2.out], hX2.out, hC2.out⟩
    case measure => simp [intOf]; omega
   | true =>
    rw [hs] at hC1 hst
    rw [if_pos rfl] at hC1
    by_cases hb : bst = 0
    ·have b1 : (bst == 0) = true := beq_iff_eq.2 hb
     have hst2 := hid (show chooseTo xs K n size (k + 1) = ((k : Int) + 1, q) from by rw [hst.out, if_pos ⟨rfl, .inl hb⟩])
     clear hst
     replace hb := hid hb
     go_wp2_with fail
     refine hC1.out.mono ?_
     rintro e w2 ⟨rfl, hc2⟩
     have hC2 := hid (hCr.out.trans hc2)
     have hX2 := hid (hXh.out.chg hc2 id)
     clear hc2 x0 x1
     go_wp2
     go_roundw
     case rel => exact ⟨k + 1, hk5, by go_num, by rw [hst2.out], by rw [hst2.out], hX2.out, hC2.out⟩
     case measure => simp [intOf]; omega
    ·have b1 : (bst == 0) = false := beq_eq_false_iff_ne.2 hb
     by_cases hlt : q < lst
     ·have b2 : decide (q < lst) = true := decide_eq_true hlt
      have hst2 := hid (show chooseTo xs K n size (k + 1) = ((k : Int) + 1, q) from by rw [hst.out, if_pos ⟨rfl, .inr hlt⟩])
      clear hst
      replace hb := hid hb
      replace hlt := hid hlt
      go_wp2_with fail
      refine hC1.out.mono ?_
      rintro e w2 ⟨rfl, hc2⟩
      have hC2 := hid (hCr.out.trans hc2)
      have hX2 := hid (hXh.out.chg hc2 id)
      clear hc2 x0 x1
      go_wp2
      go_roundw
      case rel => exact ⟨k + 1, hk5, by go_num, by rw [hst2.out], by rw [hst2.out], hX2.out, hC2.out⟩
      case measure => simp [intOf]; omega
     ·have b2 : decide (q < lst) = false := decide_eq_false hlt
      have hst2 := hid (show chooseTo xs K n size (k + 1) = (bst, lst) from by rw [hst.out, if_neg (by rintro ⟨-, h | h⟩; exact hb h; exact hlt h)])
      clear hst
      replace hb := hid hb
      replace hlt := hid hlt
      go_wp2_with fail
      refine hC1.out.mono ?_
      rintro e w2 ⟨rfl, hc2⟩
      have hC2 := hid (hCr.out.trans hc2)
      have hX2 := hid (hXh.out.chg hc2 id)
      clear hc2 x0 x1
      go_wp2
      go_roundw
      case rel => exact ⟨k + 1, hk5, by go_num, by rw [hst2.out], by rw [hst2.out], hX2.out, hC2.out⟩
      case measure => simp [intOf]; omega
  ·obtain rfl : k = 5 := by omega
   obtain ⟨p, hp⟩ : ∃ p, p = chooseTo xs K n size 5 := ⟨_, rfl⟩
   rw [← hp]
   obtain ⟨bst, lst⟩ := p
   replace hp := hid hp
   clear x0 x1
   go_wp2
   go_ret
   exact ⟨by rw [hfin.out, ← hp.out]; rfl, hCr.out⟩
end Go.Proofs.YtoelilejohfglaaGreat
