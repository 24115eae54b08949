/- Joined texts: FitA EvA EvB. -/
import Derived.Test.YtoelilejohfglaaGreatBunR
import Derived.Test.YtoelilejohfglaaGreatBunZ
import Derived.Test.YtoelilejohfglaaGreatBunI
import Derived.Test.YtoelilejohfglaaGreatBunA
import Derived.Deep.RegionHeld3
set_option maxHeartbeats 16000000
set_option maxRecDepth 100000
namespace Go.Proofs.YtoelilejohfglaaGreat
open Go.RowKit
set_option linter.unusedVariables false
set_option linter.unusedSimpArgs false
def costF (m n : Int) (k : Nat) : Int := countS m n (2 ^ k) * 2 ^ k * ((k : Int) + 1)
def fitTo (m n : Int) : Nat → Int × Int
 | 0 => (0, 0)
 | k + 1 => if 0 < costF m n k ∧ ((fitTo m n k).1 = 0 ∨ costF m n k < (fitTo m n k).2) then (2 ^ k, costF m n k) else fitTo m n k
def fitS (m n : Int) : Int := (fitTo m n 13).1
theorem countF_bound (m n s : Int) : 0 ≤ countS m n s ∧ countS m n s ≤ 6597069766700 := by
 unfold countS
 split
 ·rename_i h
  simp only [Bool.and_eq_true] at h
  obtain ⟨⟨-, z2⟩, z3, s1, s2⟩ := count_parts h.1 h.2
  have h1 : 0 ≤ (min n 1099511627776 - m) / (s - m + 1) := Int.ediv_nonneg (by omega) (by omega)
  have h2 : (min n 1099511627776 - m) / (s - m + 1) ≤ min n 1099511627776 - m := Int.ediv_le_self _ (by omega)
  omega
 ·omega
theorem costF_bound (m n : Int) (k : Nat) (hk : k ≤ 12) : (1 ≤ (2 : Int) ^ k ∧ (2 : Int) ^ k ≤ 4096) ∧ (0 ≤ countS m n (2 ^ k) * 2 ^ k ∧ countS m n (2 ^ k) * 2 ^ k ≤ 27021597764403200) ∧ 0 ≤ costF m n k ∧ costF m n k ≤ 351280770937241600 := by
 have hp := pow2_le k hk
 have hc := countF_bound m n (2 ^ k)
 unfold costF
 generalize countS m n (2 ^ k) = c at hc ⊢
 generalize (2 : Int) ^ k = s at hp ⊢
 have h1 : 0 ≤ c * s := Int.mul_nonneg hc.1 (by omega)
 have h2 : c * s ≤ 6597069766700 * 4096 := Int.mul_le_mul hc.2 hp.2 (by omega) (by omega)
 generalize c * s = p at h1 h2 ⊢
 have h3 : 0 ≤ p * ((k : Int) + 1) := Int.mul_nonneg h1 (by omega)
 have h4 : p * ((k : Int) + 1) ≤ (6597069766700 * 4096) * 13 := Int.mul_le_mul h2 (by omega) (by omega) (by omega)
 omega
def FtInv (m n : Int) (w : World) (bv lv iv : Value) (wr : World) : Prop := ∃ k : Nat, k ≤ 13 ∧ iv = .int .i64 k ∧ bv = .int .i64 (fitTo m n k).1 ∧ lv = .int .i64 (fitTo m n k).2 ∧ Chg Nothing w wr
theorem blockFit_any (m n : Int) (w : World) : Calls Tryz.prog 32 #[.int .i64 m, .int .i64 n] w fun e w' => e = .returned (.int .i64 (fitS m n)) ∧ Chg Nothing w w' := by
 go_enter Tryz.func32, Tryz.ntmps32
 go_wp2_with fail
 go_loopw [5, 6, 10] (fun bv lv iv wr => FtInv m n w bv lv iv wr) (fun _ _ iv _ => 14 - (intOf iv).toNat)
 case atStart => exact ⟨0, by decide, rfl, rfl, rfl, Chg.refl _ _⟩
 case round =>
  obtain ⟨k, hk, rfl, rfl, rfl, hchg⟩ := hrel
  have hCr := hid hchg
  clear hchg
  rcases Nat.lt_or_ge k 13 with hk5 | hk5
  ·have g0 : decide ((k : Int) < 13) = true := decide_eq_true (by omega)
   have hk64 : (k : Int) ≤ 64 := by omega
   have hk0 : (0 : Int) ≤ (k : Int) := by omega
   have hwk : IntKind.i64.wrap ((k : Int) + 1) = (k : Int) + 1 := by rw [IntKind.wrap_i64]; omega
   have hst := hid (show fitTo m n (k + 1) = if 0 < costF m n k ∧ ((fitTo m n k).1 = 0 ∨ costF m n k < (fitTo m n k).2) then (2 ^ k, costF m n k) else fitTo m n k from rfl)
   obtain ⟨⟨p1, p2⟩, ⟨p3, p4⟩, p5, p6⟩ := costF_bound m n k (by omega)
   have hCo := hid (count_any m n (2 ^ k))
   have hq0 := hid (show costF m n k = countS m n (2 ^ k) * 2 ^ k * ((k : Int) + 1) from rfl)
   have hsh : IntKind.i64.wrap (2 ^ k) = 2 ^ k := by rw [IntKind.wrap_i64]; omega
   obtain ⟨S, hS⟩ : ∃ S : Int, (2 : Int) ^ k = S := ⟨_, rfl⟩
   have hs1 : IntKind.i64.wrap (1 * 2 ^ (k : Int).toNat) = S := by rw [Int.toNat_natCast, Int.one_mul, hsh, hS]
   have hs2 : IntKind.i64.wrap (2 ^ k) = S := by rw [hsh, hS]
   have hs3 : IntKind.i64.wrap (2 ^ (k : Int).toNat) = S := by rw [Int.toNat_natCast, hsh, hS]
   clear hsh
   rw [hS] at hst p1 p2 p3 p4 hCo hq0
   replace hS := hid hS
   obtain ⟨cS, hcS⟩ : ∃ cS : Int, countS m n S = cS := ⟨_, rfl⟩
   rw [hcS] at p3 p4 hq0
   have hCo2 := hid (fun w => (show Calls Tryz.prog 63 #[.int .i64 m, .int .i64 n, .int .i64 S] w fun e w' => e = .returned (.int .i64 cS) ∧ w' = w from by rw [← hcS]; exact hCo.out w))
   clear hCo
   replace hcS := hid hcS
   have e1 : IntKind.i64.wrap (cS * S) = cS * S := by rw [IntKind.wrap_i64]; omega
   obtain ⟨q, hq⟩ : ∃ q, q = costF m n k := ⟨_, rfl⟩
   rw [← hq] at hst p5 p6 hq0
   have e3 : IntKind.i64.wrap (cS * S * ((k : Int) + 1)) = q := by rw [hq0.out, IntKind.wrap_i64]; rw [hq0.out] at p5 p6; omega
   replace hq := hid hq
   clear hq0 p1 p2 p3 p4
   obtain ⟨p, hp⟩ : ∃ p, p = fitTo m n k := ⟨_, rfl⟩
   rw [← hp] at hst ⊢
   obtain ⟨bst, lst⟩ := p
   replace hp := hid hp
   simp only [] at hst ⊢
   have hk6 := hid hk5
   clear hk hk5
   by_cases hpos : 0 < q
   ·have g1 : decide (0 < q) = true := decide_eq_true hpos
    by_cases hb : bst = 0
    ·have b1 : (bst == 0) = true := beq_iff_eq.2 hb
     have hst2 := hid (show fitTo m n (k + 1) = (S, q) from by rw [hst.out, if_pos ⟨hpos, .inl hb⟩])
     clear hst
     replace hb := hid hb
     go_wp2_with fail
     refine (hCo2.out _).mono ?_
     rintro e w2 ⟨rfl, rfl⟩
     go_wp2
     go_roundw
     case rel => exact ⟨k + 1, hk6.out, by go_num, by rw [hst2.out], by rw [hst2.out], hCr.out⟩
     case measure => have := hk6.out; simp [intOf]; omega
    ·have b1 : (bst == 0) = false := beq_eq_false_iff_ne.2 hb
     by_cases hlt : q < lst
     ·have b2 : decide (q < lst) = true := decide_eq_true hlt
      have hst2 := hid (show fitTo m n (k + 1) = (S, q) from by rw [hst.out, if_pos ⟨hpos, .inr hlt⟩])
      clear hst
      replace hb := hid hb
      replace hlt := hid hlt
      go_wp2_with fail
      refine (hCo2.out _).mono ?_
      rintro e w2 ⟨rfl, rfl⟩
      go_wp2
      go_roundw
      case rel => exact ⟨k + 1, hk6.out, by go_num, by rw [hst2.out], by rw [hst2.out], hCr.out⟩
      case measure => have := hk6.out; simp [intOf]; omega
     ·have b2 : decide (q < lst) = false := decide_eq_false hlt
      have hst2 := hid (show fitTo m n (k + 1) = (bst, lst) from by rw [hst.out, if_neg (by rintro ⟨-, h | h⟩; exact hb h; exact hlt h)])
      clear hst
      replace hb := hid hb
      replace hlt := hid hlt
      go_wp2_with fail
      refine (hCo2.out _).mono ?_
      rintro e w2 ⟨rfl, rfl⟩
      go_wp2
      go_roundw
      case rel => exact ⟨k + 1, hk6.out, by go_num, by rw [hst2.out], by rw [hst2.out], hCr.out⟩
      case measure => have := hk6.out; simp [intOf]; omega
   ·have g1 : decide (0 < q) = false := decide_eq_false hpos
    have hst2 := hid (show fitTo m n (k + 1) = (bst, lst) from by rw [hst.out, if_neg (by rintro ⟨h, -⟩; exact hpos h)])
    clear hst
    replace hpos := hid hpos
    go_wp2_with fail
    refine (hCo2.out _).mono ?_
    rintro e w2 ⟨rfl, rfl⟩
    go_wp2
    go_roundw
    case rel => exact ⟨k + 1, hk6.out, by go_num, by rw [hst2.out], by rw [hst2.out], hCr.out⟩
    case measure => have := hk6.out; simp [intOf]; omega
  ·obtain rfl : k = 13 := by omega
   have hfin := hid (show fitS m n = (fitTo m n 13).1 from rfl)
   obtain ⟨p, hp⟩ : ∃ p, p = fitTo m n 13 := ⟨_, rfl⟩
   rw [← hp] at hfin ⊢
   obtain ⟨bst, lst⟩ := p
   replace hp := hid hp
   go_wp2
   go_ret
   exact ⟨by rw [hfin.out]; rfl, hCr.out⟩
def FrInv (m n : Int) (w : World) (bv lv sv iv : Value) (wr : World) : Prop := ∃ k : Nat, k ≤ 13 ∧ iv = .int .i64 k ∧ bv = .int .i64 (fitTo m n k).1 ∧ lv = .int .u64 (fitTo m n k).2 ∧ sv = .int .i64 (2 ^ k) ∧ Chg Nothing w wr
theorem refFit_any (m n : Int) (w : World) : Calls Tryz.prog 33 #[.int .i64 m, .int .i64 n] w fun e w' => e = .returned (.int .i64 (fitS m n)) ∧ Chg Nothing w w' := by
 go_enter Tryz.func33, Tryz.ntmps33
 go_wp2_with fail
 go_loopw [5, 6, 7, 8] (fun bv lv sv iv wr => FrInv m n w bv lv sv iv wr) (fun _ _ _ iv _ => 14 - (intOf iv).toNat)
 case atStart => exact ⟨0, by decide, rfl, rfl, rfl, rfl, Chg.refl _ _⟩
 case round =>
  obtain ⟨k, hk, rfl, rfl, rfl, rfl, hchg⟩ := hrel
  have hCr := hid hchg
  clear hchg
  rcases Nat.lt_or_ge k 13 with hk5 | hk5
  ·have g0 : decide ((k : Int) ≤ 12) = true := decide_eq_true (by omega)
   have hk64 : (k : Int) ≤ 64 := by omega
   have hk0 : (0 : Int) ≤ (k : Int) := by omega
   have hwk : IntKind.i64.wrap ((k : Int) + 1) = (k : Int) + 1 := by rw [IntKind.wrap_i64]; omega
   have hst := hid (show fitTo m n (k + 1) = if 0 < costF m n k ∧ ((fitTo m n k).1 = 0 ∨ costF m n k < (fitTo m n k).2) then (2 ^ k, costF m n k) else fitTo m n k from rfl)
   obtain ⟨⟨p1, p2⟩, ⟨p3, p4⟩, p5, p6⟩ := costF_bound m n k (by omega)
   have hCo := hid (refCount_any m n (2 ^ k))
   have hq0 := hid (show costF m n k = countS m n (2 ^ k) * 2 ^ k * ((k : Int) + 1) from rfl)
   have hsh2 := hid (show (2 : Int) ^ (k + 1) = 2 * 2 ^ k from by rw [Int.pow_succ, Int.mul_comm])
   obtain ⟨S, hS⟩ : ∃ S : Int, (2 : Int) ^ k = S := ⟨_, rfl⟩
   rw [hS] at hsh2 ⊢
   have hs1 : IntKind.i64.wrap (2 * S) = 2 * S := by rw [← hS, IntKind.wrap_i64]; omega
   have hs2 : IntKind.u64.wrap S = S := by rw [← hS, IntKind.wrap_u64]; omega
   rw [hS] at hst p1 p2 p3 p4 hCo hq0
   replace hS := hid hS
   obtain ⟨cS, hcS⟩ : ∃ cS : Int, countS m n S = cS := ⟨_, rfl⟩
   have hcb := countF_bound m n S
   rw [hcS] at p3 p4 hq0 hcb
   have hCo2 := hid (fun w => (show Calls Tryz.prog 64 #[.int .i64 m, .int .i64 n, .int .i64 S] w fun e w' => e = .returned (.int .i64 cS) ∧ w' = w from by rw [← hcS]; exact hCo.out w))
   clear hCo
   replace hcS := hid hcS
   have e0 : IntKind.u64.wrap cS = cS := by rw [IntKind.wrap_u64]; omega
   have e1 : IntKind.u64.wrap (cS * S) = cS * S := by rw [IntKind.wrap_u64]; omega
   have e2 : IntKind.u64.wrap ((k : Int) + 1) = (k : Int) + 1 := by rw [IntKind.wrap_u64]; omega
   obtain ⟨q, hq⟩ : ∃ q, q = costF m n k := ⟨_, rfl⟩
   rw [← hq] at hst p5 p6 hq0
   have e3 : IntKind.u64.wrap (cS * S * ((k : Int) + 1)) = q := by rw [hq0.out, IntKind.wrap_u64]; rw [hq0.out] at p5 p6; omega
   replace hq := hid hq
   clear hq0 p1 p2 p3 p4 hcb
   obtain ⟨p, hp⟩ : ∃ p, p = fitTo m n k := ⟨_, rfl⟩
   rw [← hp] at hst ⊢
   obtain ⟨bst, lst⟩ := p
   replace hp := hid hp
   simp only [] at hst ⊢
   have hk6 := hid hk5
   clear hk hk5
   by_cases hpos : 0 < q
   ·have g1 : decide (0 < q) = true := decide_eq_true hpos
    by_cases hb : bst = 0
    ·have b1 : (bst == 0) = true := beq_iff_eq.2 hb
     have hst2 := hid (show fitTo m n (k + 1) = (S, q) from by rw [hst.out, if_pos ⟨hpos, .inl hb⟩])
     clear hst
     replace hb := hid hb
     go_wp2_with fail
     refine (hCo2.out _).mono ?_
     rintro e w2 ⟨rfl, rfl⟩
     go_wp2
     go_roundw
     case rel => exact ⟨k + 1, hk6.out, by go_num, by rw [hst2.out], by rw [hst2.out], by rw [hsh2.out], hCr.out⟩
     case measure => have := hk6.out; simp [intOf]; omega
    ·have b1 : (bst == 0) = false := beq_eq_false_iff_ne.2 hb
     by_cases hlt : q < lst
     ·have b2 : decide (q < lst) = true := decide_eq_true hlt
      have hst2 := hid (show fitTo m n (k + 1) = (S, q) from by rw [hst.out, if_pos ⟨hpos, .inr hlt⟩])
      clear hst
      replace hb := hid hb
      replace hlt := hid hlt
      go_wp2_with fail
      refine (hCo2.out _).mono ?_
      rintro e w2 ⟨rfl, rfl⟩
      go_wp2
      go_roundw
      case rel => exact ⟨k + 1, hk6.out, by go_num, by rw [hst2.out], by rw [hst2.out], by rw [hsh2.out], hCr.out⟩
      case measure => have := hk6.out; simp [intOf]; omega
     ·have b2 : decide (q < lst) = false := decide_eq_false hlt
      have hst2 := hid (show fitTo m n (k + 1) = (bst, lst) from by rw [hst.out, if_neg (by rintro ⟨-, h | h⟩; exact hb h; exact hlt h)])
      clear hst
      replace hb := hid hb
      replace hlt := hid hlt
      go_wp2_with fail
      refine (hCo2.out _).mono ?_
      rintro e w2 ⟨rfl, rfl⟩
      go_wp2
      go_roundw
      case rel => exact ⟨k + 1, hk6.out, by go_num, by rw [hst2.out], by rw [hst2.out], by rw [hsh2.out], hCr.out⟩
      case measure => have := hk6.out; simp [intOf]; omega
   ·have g1 : decide (0 < q) = false := decide_eq_false hpos
    have hst2 := hid (show fitTo m n (k + 1) = (bst, lst) from by rw [hst.out, if_neg (by rintro ⟨h, -⟩; exact hpos h)])
    clear hst
    replace hpos := hid hpos
    go_wp2_with fail
    refine (hCo2.out _).mono ?_
    rintro e w2 ⟨rfl, rfl⟩
    go_wp2
    go_roundw
    case rel => exact ⟨k + 1, hk6.out, by go_num, by rw [hst2.out], by rw [hst2.out], by rw [hsh2.out], hCr.out⟩
    case measure => have := hk6.out; simp [intOf]; omega
  ·obtain rfl : k = 13 := by omega
   have hfin := hid (show fitS m n = (fitTo m n 13).1 from rfl)
   obtain ⟨p, hp⟩ : ∃ p, p = fitTo m n 13 := ⟨_, rfl⟩
   rw [← hp] at hfin ⊢
   obtain ⟨bst, lst⟩ := p
   replace hp := hid hp
   go_wp2
   go_ret
   exact ⟨by rw [hfin.out]; rfl, hCr.out⟩
def evE (ps : List NP) (force size : Int) : Int := if rightN (ps.map NP.x) = false ∨ force < 0 ∨ 5 < force then 180 else if size ≠ 0 ∧ ((logS size).isSome = false ∨ size < (longL (leavesP ps) : Nat)) then 50 else 0
def evS (m : Nat) (n size : Int) : Int := if size = 0 then fitS m n else size
def evW (xs : List Cls) (K force n size : Int) : Int := if sizedM xs K force n (evS xs.length n size) = true then force else chooseM xs K n (evS xs.length n size)
theorem evalCheck_any (F : Nat → Prop) (A : Option Addr) (n c : Nat) (ps : List NP) (force size : Int) (w : World) (H : NRow F w A n c ps) (hn : n ≤ 1000000) :
  Calls Tryz.prog 11 #[.slice A n c, .agg #[.int .i64 force, .int .i64 size]] w fun e w' => e = .returned (.int .i64 (evE ps force size)) ∧ Chg Nothing w w' := by
 have hX := hid (Blk.new w #[.int .i64 force, .int .i64 size] 29)
 have hw0 := hid ((Chg.refl Nothing w).alloc (.cells #[.int .i64 force, .int .i64 size] 29))
 have hLg := hid (fun w => nttLog_any size w)
 have hRt := hid (fun (w' : World) (hc : Chg Nothing w w') => Right_any F A n c ps w' (H.calm hc) hn)
 have hLn := hid (fun (w' : World) (hc : Chg Nothing w w') => longest_any F A n c ps w' (H.calm hc) hn)
 have x0 := hX.out.cell 0 (v := .int .i64 force) rfl
 have x1 := hX.out.cell 1 (v := .int .i64 size) rfl
 obtain ⟨E, hE⟩ : ∃ E, E = evE ps force size := ⟨_, rfl⟩
 rw [← hE]
 unfold evE at hE
 clear H
 generalize rightN (ps.map NP.x) = r at hE hRt
 generalize (logS size).isSome = is at hE hLg
 generalize (logS size).getD 0 = lg at hLg
 generalize longL (leavesP ps) = m at hE hLn
 by_cases hr : r = false
 ·obtain rfl : E = 180 := by rw [hE, if_pos (.inl hr)]
  subst hr
  clear hE
  go_enter Tryz.func11, Tryz.ntmps11
  go_wp2_with fail
  refine (hLg.out _).mono ?_
  rintro e w1 ⟨rfl, rfl⟩
  go_wp2_with fail
  refine (hRt.out _ hw0.out).mono ?_
  rintro e w2 ⟨rfl, hc2⟩
  have hC2 := hid (hw0.out.trans hc2)
  have hX2 := hid (hX.out.chg hc2 id)
  have hlt := hX2.out.lt
  have y0 := hX2.out.cell 0 (v := .int .i64 force) rfl
  have y1 := hX2.out.cell 1 (v := .int .i64 size) rfl
  clear hc2 x0 x1
  go_wp2
  go_ret
  exact ⟨rfl, hC2.out⟩
 ·obtain rfl : r = true := by simpa using hr
  clear hr
  by_cases hf0 : force < 0
  ·obtain rfl : E = 180 := by rw [hE, if_pos (.inr (.inl hf0))]
   clear hE
   have b0 : decide (force < 0) = true := decide_eq_true hf0
   go_enter Tryz.func11, Tryz.ntmps11
   go_wp2_with fail
   refine (hLg.out _).mono ?_
   rintro e w1 ⟨rfl, rfl⟩
   go_wp2_with fail
   refine (hRt.out _ hw0.out).mono ?_
   rintro e w2 ⟨rfl, hc2⟩
   have hC2 := hid (hw0.out.trans hc2)
   have hX2 := hid (hX.out.chg hc2 id)
   have hlt := hX2.out.lt
   have y0 := hX2.out.cell 0 (v := .int .i64 force) rfl
   have y1 := hX2.out.cell 1 (v := .int .i64 size) rfl
   clear hc2 x0 x1
   go_wp2
   go_ret
   exact ⟨rfl, hC2.out⟩
  ·by_cases hf5 : 5 < force
   ·obtain rfl : E = 180 := by rw [hE, if_pos (.inr (.inr hf5))]
    clear hE
    have b0 : decide (force < 0) = false := decide_eq_false hf0
    have b5 : decide (5 < force) = true := decide_eq_true hf5
    go_enter Tryz.func11, Tryz.ntmps11
    go_wp2_with fail
    refine (hLg.out _).mono ?_
    rintro e w1 ⟨rfl, rfl⟩
    go_wp2_with fail
    refine (hRt.out _ hw0.out).mono ?_
    rintro e w2 ⟨rfl, hc2⟩
    have hC2 := hid (hw0.out.trans hc2)
    have hX2 := hid (hX.out.chg hc2 id)
    have hlt := hX2.out.lt
    have y0 := hX2.out.cell 0 (v := .int .i64 force) rfl
    have y1 := hX2.out.cell 1 (v := .int .i64 size) rfl
    clear hc2 x0 x1
    go_wp2
    go_ret
    exact ⟨rfl, hC2.out⟩
   ·rw [if_neg (by rintro (h | h | h); cases h; exact hf0 h; exact hf5 h)] at hE
    have b0 : decide (force < 0) = false := decide_eq_false hf0
    have b5 : decide (5 < force) = false := decide_eq_false hf5
    by_cases hs0 : size = 0
    ·obtain rfl : E = 0 := by rw [hE, if_neg (fun h => h.1 hs0)]
     have bs : (size != 0) = false := by rw [hs0]; rfl
     have hs0' := hid hs0
     clear hE hs0
     go_enter Tryz.func11, Tryz.ntmps11
     go_wp2_with fail
     refine (hLg.out _).mono ?_
     rintro e w1 ⟨rfl, rfl⟩
     go_wp2_with fail
     refine (hRt.out _ hw0.out).mono ?_
     rintro e w2 ⟨rfl, hc2⟩
     have hC2 := hid (hw0.out.trans hc2)
     have hX2 := hid (hX.out.chg hc2 id)
     have hlt := hX2.out.lt
     have y0 := hX2.out.cell 0 (v := .int .i64 force) rfl
     have y1 := hX2.out.cell 1 (v := .int .i64 size) rfl
     clear hc2 x0 x1
     have z1 := Calm.cell hlt y1
     go_wp2_with fail
     try simp only [List.append_eq, List.cons_append, List.nil_append]
     refine wp_region_calm_lit (by kernel_rfl) (by kernel_rfl) ?_
     repeat (go_big_quiet_step ((fail)))
     refine wpQuiet_nil ?_
     intro _ hw'
     obtain ⟨nq, hw''⟩ := hw'
     subst hw''
     have hC3 := hid (hC2.out.trans nq.chg)
     clear y0 y1
     go_wp2
     go_ret
     exact ⟨rfl, hC3.out⟩
    ·have bs : (size != 0) = true := bne_iff_ne.2 hs0
     cases is with
     | false =>
      obtain rfl : E = 50 := by rw [hE, if_pos ⟨hs0, .inl rfl⟩]
      clear hE
      go_enter Tryz.func11, Tryz.ntmps11
      go_wp2_with fail
      refine (hLg.out _).mono ?_
      rintro e w1 ⟨rfl, rfl⟩
      go_wp2_with fail
      refine (hRt.out _ hw0.out).mono ?_
      rintro e w2 ⟨rfl, hc2⟩
      have hC2 := hid (hw0.out.trans hc2)
      have hX2 := hid (hX.out.chg hc2 id)
      have hlt := hX2.out.lt
      have y0 := hX2.out.cell 0 (v := .int .i64 force) rfl
      have y1 := hX2.out.cell 1 (v := .int .i64 size) rfl
      clear hc2 x0 x1
      have z1 := Calm.cell hlt y1
      go_wp2_with fail
      try simp only [List.append_eq, List.cons_append, List.nil_append]
      refine wp_region_calm_lit (by kernel_rfl) (by kernel_rfl) ?_
      repeat (go_big_quiet_step ((fail)))
      refine wpQuiet_nil ?_
      intro _ hw'
      obtain ⟨nq, hw''⟩ := hw'
      subst hw''
      have hC3 := hid (hC2.out.trans nq.chg)
      clear y0 y1
      go_wp2
      go_ret
      exact ⟨rfl, hC3.out⟩
     | true =>
      have hE2 : E = if size < (m : Int) then 50 else 0 := by
       rw [hE]
       by_cases h : size < (m : Int)
       ·rw [if_pos h, if_pos ⟨hs0, .inr h⟩]
       ·rw [if_neg h, if_neg (by rintro ⟨-, h' | h'⟩; cases h'; exact h h')]
      clear hE
      by_cases hlm : size < (m : Int)
      ·obtain rfl : E = 50 := by rw [hE2, if_pos hlm]
       have bm : decide (size < (m : Int)) = true := decide_eq_true hlm
       clear hE2
       replace hlm := hid hlm
       go_enter Tryz.func11, Tryz.ntmps11
       go_wp2_with fail
       refine (hLg.out _).mono ?_
       rintro e w1 ⟨rfl, rfl⟩
       go_wp2_with fail
       refine (hRt.out _ hw0.out).mono ?_
       rintro e w2 ⟨rfl, hc2⟩
       have hC2 := hid (hw0.out.trans hc2)
       have hX2 := hid (hX.out.chg hc2 id)
       have hlt := hX2.out.lt
       have y0 := hX2.out.cell 0 (v := .int .i64 force) rfl
       have y1 := hX2.out.cell 1 (v := .int .i64 size) rfl
       clear hc2 x0 x1
       have z1 := Calm.cell hlt y1
       go_wp2_with fail
       try simp only [List.append_eq, List.cons_append, List.nil_append]
       refine wp_region_calm_lit (by kernel_rfl) (by kernel_rfl) ?_
       repeat (go_big_quiet_step (((go_at_call 29; exact calm_of (hLn.out _ (hC2.out.trans (Calm.chg _)))))))
       refine wpQuiet_nil ?_
       intro _ hw'
       obtain ⟨nq, hw''⟩ := hw'
       subst hw''
       have hC3 := hid (hC2.out.trans nq.chg)
       clear y0 y1
       go_wp2
       go_ret
       exact ⟨rfl, hC3.out⟩
      ·obtain rfl : E = 0 := by rw [hE2, if_neg hlm]
       have bm : decide (size < (m : Int)) = false := decide_eq_false hlm
       clear hE2
       replace hlm := hid hlm
       go_enter Tryz.func11, Tryz.ntmps11
       go_wp2_with fail
       refine (hLg.out _).mono ?_
       rintro e w1 ⟨rfl, rfl⟩
       go_wp2_with fail
       refine (hRt.out _ hw0.out).mono ?_
       rintro e w2 ⟨rfl, hc2⟩
       have hC2 := hid (hw0.out.trans hc2)
       have hX2 := hid (hX.out.chg hc2 id)
       have hlt := hX2.out.lt
       have y0 := hX2.out.cell 0 (v := .int .i64 force) rfl
       have y1 := hX2.out.cell 1 (v := .int .i64 size) rfl
       clear hc2 x0 x1
       have z1 := Calm.cell hlt y1
       go_wp2_with fail
       try simp only [List.append_eq, List.cons_append, List.nil_append]
       refine wp_region_calm_lit (by kernel_rfl) (by kernel_rfl) ?_
       repeat (go_big_quiet_step (((go_at_call 29; exact calm_of (hLn.out _ (hC2.out.trans (Calm.chg _)))))))
       refine wpQuiet_nil ?_
       intro _ hw'
       obtain ⟨nq, hw''⟩ := hw'
       subst hw''
       have hC3 := hid (hC2.out.trans nq.chg)
       clear y0 y1
       go_wp2
       go_ret
       exact ⟨rfl, hC3.out⟩
theorem refCheck18_any (F : Nat → Prop) (A : Option Addr) (n c : Nat) (ps : List NP) (force size : Int) (w : World) (H : NRow F w A n c ps) (hn : n ≤ 1000000) :
  Calls Tryz.prog 12 #[.slice A n c, .agg #[.int .i64 force, .int .i64 size]] w fun e w' => e = .returned (.int .i64 (evE ps force size)) ∧ Chg Nothing w w' := by
 have hX := hid (Blk.new w #[.int .i64 force, .int .i64 size] 24)
 have hw0 := hid ((Chg.refl Nothing w).alloc (.cells #[.int .i64 force, .int .i64 size] 24))
 have hLg := hid (fun w => refLog_any size w)
 have hRt := hid (fun (w' : World) (hc : Chg Nothing w w') => refRight_any F A n c ps w' (H.calm hc) hn)
 have hLn := hid (fun (w' : World) (hc : Chg Nothing w w') => refLongest_any F A n c ps w' (H.calm hc) hn)
 have x0 := hX.out.cell 0 (v := .int .i64 force) rfl
 have x1 := hX.out.cell 1 (v := .int .i64 size) rfl
 obtain ⟨E, hE⟩ : ∃ E, E = evE ps force size := ⟨_, rfl⟩
 rw [← hE]
 unfold evE at hE
 clear H
 generalize rightN (ps.map NP.x) = r at hE hRt
 generalize (logS size).isSome = is at hE hLg
 generalize (logS size).getD 0 = lg at hLg
 generalize longL (leavesP ps) = m at hE hLn
 by_cases hr : r = false
 ·obtain rfl : E = 180 := by rw [hE, if_pos (.inl hr)]
  subst hr
  clear hE
  go_enter Tryz.func12, Tryz.ntmps12
  go_wp2_with fail
  refine (hRt.out _ hw0.out).mono ?_
  rintro e w2 ⟨rfl, hc2⟩
  have hC2 := hid (hw0.out.trans hc2)
  have hX2 := hid (hX.out.chg hc2 id)
  have hlt := hX2.out.lt
  have y0 := hX2.out.cell 0 (v := .int .i64 force) rfl
  have y1 := hX2.out.cell 1 (v := .int .i64 size) rfl
  clear hc2 x0 x1
  go_wp2
  go_ret
  exact ⟨rfl, hC2.out⟩
 ·obtain rfl : r = true := by simpa using hr
  clear hr
  by_cases hf0 : force < 0
  ·obtain rfl : E = 180 := by rw [hE, if_pos (.inr (.inl hf0))]
   clear hE
   have b0 : decide (force < 0) = true := decide_eq_true hf0
   go_enter Tryz.func12, Tryz.ntmps12
   go_wp2_with fail
   refine (hRt.out _ hw0.out).mono ?_
   rintro e w2 ⟨rfl, hc2⟩
   have hC2 := hid (hw0.out.trans hc2)
   have hX2 := hid (hX.out.chg hc2 id)
   have hlt := hX2.out.lt
   have y0 := hX2.out.cell 0 (v := .int .i64 force) rfl
   have y1 := hX2.out.cell 1 (v := .int .i64 size) rfl
   clear hc2 x0 x1
   go_wp2
   go_ret
   exact ⟨rfl, hC2.out⟩
  ·by_cases hf5 : 5 < force
   ·obtain rfl : E = 180 := by rw [hE, if_pos (.inr (.inr hf5))]
    clear hE
    have b0 : decide (force < 0) = false := decide_eq_false hf0
    have b5 : decide (5 < force) = true := decide_eq_true hf5
    go_enter Tryz.func12, Tryz.ntmps12
    go_wp2_with fail
    refine (hRt.out _ hw0.out).mono ?_
    rintro e w2 ⟨rfl, hc2⟩
    have hC2 := hid (hw0.out.trans hc2)
    have hX2 := hid (hX.out.chg hc2 id)
    have hlt := hX2.out.lt
    have y0 := hX2.out.cell 0 (v := .int .i64 force) rfl
    have y1 := hX2.out.cell 1 (v := .int .i64 size) rfl
    clear hc2 x0 x1
    go_wp2
    go_ret
    exact ⟨rfl, hC2.out⟩
   ·rw [if_neg (by rintro (h | h | h); cases h; exact hf0 h; exact hf5 h)] at hE
    have b0 : decide (force < 0) = false := decide_eq_false hf0
    have b5 : decide (5 < force) = false := decide_eq_false hf5
    by_cases hs0 : size = 0
    ·obtain rfl : E = 0 := by rw [hE, if_neg (fun h => h.1 hs0)]
     have bs : (size != 0) = false := by rw [hs0]; rfl
     have hs0' := hid hs0
     clear hE hs0
     go_enter Tryz.func12, Tryz.ntmps12
     go_wp2_with fail
     refine (hRt.out _ hw0.out).mono ?_
     rintro e w2 ⟨rfl, hc2⟩
     have hC2 := hid (hw0.out.trans hc2)
     have hX2 := hid (hX.out.chg hc2 id)
     have hlt := hX2.out.lt
     have y0 := hX2.out.cell 0 (v := .int .i64 force) rfl
     have y1 := hX2.out.cell 1 (v := .int .i64 size) rfl
     clear hc2 x0 x1
     go_wp2_with fail
     refine (hLg.out _).mono ?_
     rintro e w1 ⟨rfl, rfl⟩
     have z1 := Calm.cell hlt y1
     go_wp2_with fail
     try simp only [List.append_eq, List.cons_append, List.nil_append]
     refine wp_region_calm_lit (by kernel_rfl) (by kernel_rfl) ?_
     repeat (go_big_quiet_step ((fail)))
     refine wpQuiet_nil ?_
     intro _ hw'
     obtain ⟨nq, hw''⟩ := hw'
     subst hw''
     have hC3 := hid (hC2.out.trans nq.chg)
     clear y0 y1
     go_wp2
     go_ret
     exact ⟨rfl, hC3.out⟩
    ·have bs : (size != 0) = true := bne_iff_ne.2 hs0
     cases is with
     | false =>
      obtain rfl : E = 50 := by rw [hE, if_pos ⟨hs0, .inl rfl⟩]
      clear hE
      go_enter Tryz.func12, Tryz.ntmps12
      go_wp2_with fail
      refine (hRt.out _ hw0.out).mono ?_
      rintro e w2 ⟨rfl, hc2⟩
      have hC2 := hid (hw0.out.trans hc2)
      have hX2 := hid (hX.out.chg hc2 id)
      have hlt := hX2.out.lt
      have y0 := hX2.out.cell 0 (v := .int .i64 force) rfl
      have y1 := hX2.out.cell 1 (v := .int .i64 size) rfl
      clear hc2 x0 x1
      go_wp2_with fail
      refine (hLg.out _).mono ?_
      rintro e w1 ⟨rfl, rfl⟩
      have z1 := Calm.cell hlt y1
      go_wp2_with fail
      try simp only [List.append_eq, List.cons_append, List.nil_append]
      refine wp_region_calm_lit (by kernel_rfl) (by kernel_rfl) ?_
      repeat (go_big_quiet_step ((fail)))
      refine wpQuiet_nil ?_
      intro _ hw'
      obtain ⟨nq, hw''⟩ := hw'
      subst hw''
      have hC3 := hid (hC2.out.trans nq.chg)
      clear y0 y1
      go_wp2
      go_ret
      exact ⟨rfl, hC3.out⟩
     | true =>
      have hE2 : E = if size < (m : Int) then 50 else 0 := by
       rw [hE]
       by_cases h : size < (m : Int)
       ·rw [if_pos h, if_pos ⟨hs0, .inr h⟩]
       ·rw [if_neg h, if_neg (by rintro ⟨-, h' | h'⟩; cases h'; exact h h')]
      clear hE
      by_cases hlm : size < (m : Int)
      ·obtain rfl : E = 50 := by rw [hE2, if_pos hlm]
       have bm : decide (size < (m : Int)) = true := decide_eq_true hlm
       clear hE2
       replace hlm := hid hlm
       go_enter Tryz.func12, Tryz.ntmps12
       go_wp2_with fail
       refine (hRt.out _ hw0.out).mono ?_
       rintro e w2 ⟨rfl, hc2⟩
       have hC2 := hid (hw0.out.trans hc2)
       have hX2 := hid (hX.out.chg hc2 id)
       have hlt := hX2.out.lt
       have y0 := hX2.out.cell 0 (v := .int .i64 force) rfl
       have y1 := hX2.out.cell 1 (v := .int .i64 size) rfl
       clear hc2 x0 x1
       go_wp2_with fail
       refine (hLg.out _).mono ?_
       rintro e w1 ⟨rfl, rfl⟩
       have z1 := Calm.cell hlt y1
       go_wp2_with fail
       try simp only [List.append_eq, List.cons_append, List.nil_append]
       refine wp_region_calm_lit (by kernel_rfl) (by kernel_rfl) ?_
       repeat (go_big_quiet_step (((go_at_call 31; exact calm_of (hLn.out _ (hC2.out.trans (Calm.chg _)))))))
       refine wpQuiet_nil ?_
       intro _ hw'
       obtain ⟨nq, hw''⟩ := hw'
       subst hw''
       have hC3 := hid (hC2.out.trans nq.chg)
       clear y0 y1
       go_wp2
       go_ret
       exact ⟨rfl, hC3.out⟩
      ·obtain rfl : E = 0 := by rw [hE2, if_neg hlm]
       have bm : decide (size < (m : Int)) = false := decide_eq_false hlm
       clear hE2
       replace hlm := hid hlm
       go_enter Tryz.func12, Tryz.ntmps12
       go_wp2_with fail
       refine (hRt.out _ hw0.out).mono ?_
       rintro e w2 ⟨rfl, hc2⟩
       have hC2 := hid (hw0.out.trans hc2)
       have hX2 := hid (hX.out.chg hc2 id)
       have hlt := hX2.out.lt
       have y0 := hX2.out.cell 0 (v := .int .i64 force) rfl
       have y1 := hX2.out.cell 1 (v := .int .i64 size) rfl
       clear hc2 x0 x1
       go_wp2_with fail
       refine (hLg.out _).mono ?_
       rintro e w1 ⟨rfl, rfl⟩
       have z1 := Calm.cell hlt y1
       go_wp2_with fail
       try simp only [List.append_eq, List.cons_append, List.nil_append]
       refine wp_region_calm_lit (by kernel_rfl) (by kernel_rfl) ?_
       repeat (go_big_quiet_step (((go_at_call 31; exact calm_of (hLn.out _ (hC2.out.trans (Calm.chg _)))))))
       refine wpQuiet_nil ?_
       intro _ hw'
       obtain ⟨nq, hw''⟩ := hw'
       subst hw''
       have hC3 := hid (hC2.out.trans nq.chg)
       clear y0 y1
       go_wp2
       go_ret
       exact ⟨rfl, hC3.out⟩
theorem evalSize_any (A : Option Addr) (l c : Nat) (K n force size : Int) (w : World) :
  Calls Tryz.prog 13 #[.agg #[.slice A l c, .int .i64 K], .int .i64 n, .agg #[.int .i64 force, .int .i64 size]] w fun e w' => e = .returned (.int .i64 (evS l n size)) ∧ Chg Nothing w w' := by
 have hX := hid (Blk.new w #[.slice A l c, .int .i64 K] 34)
 have hX1 := hid (hX.out.chg ((Chg.refl Nothing _).alloc (.cells #[.int .i64 force, .int .i64 size] 29)) id)
 have hY := hid (Blk.new (w.alloc (.cells #[.slice A l c, .int .i64 K] 34)) #[.int .i64 force, .int .i64 size] 29)
 have hw0 := hid (((Chg.refl Nothing w).alloc (.cells #[.slice A l c, .int .i64 K] 34)).alloc (.cells #[.int .i64 force, .int .i64 size] 29))
 have x0 := hX1.out.cell 0 (v := .slice A l c) rfl
 have y1 := hY.out.cell 1 (v := .int .i64 size) rfl
 have hFt := hid (fun w => blockFit_any l n w)
 unfold evS
 by_cases hs : size = 0
 ·rw [if_pos hs]
  have bs : (size != 0) = false := by rw [hs]; rfl
  replace hs := hid hs
  generalize fitS l n = r at hFt ⊢
  go_enter Tryz.func13, Tryz.ntmps13
  go_wp2_with fail
  refine (hFt.out _).mono ?_
  rintro e w1 ⟨rfl, hc1⟩
  have hC1 := hid (hw0.out.trans hc1)
  clear hc1 x0 y1
  go_wp2
  go_ret
  exact ⟨rfl, hC1.out⟩
 ·rw [if_neg hs]
  have bs : (size != 0) = true := bne_iff_ne.2 hs
  replace hs := hid hs
  clear x0
  go_enter Tryz.func13, Tryz.ntmps13
  go_wp2
  go_ret
  exact ⟨rfl, hw0.out⟩
theorem ref18Size_any (A : Option Addr) (l c : Nat) (K n force size : Int) (w : World) :
  Calls Tryz.prog 14 #[.agg #[.slice A l c, .int .i64 K], .int .i64 n, .agg #[.int .i64 force, .int .i64 size]] w fun e w' => e = .returned (.int .i64 (evS l n size)) ∧ Chg Nothing w w' := by
 have hX := hid (Blk.new w #[.slice A l c, .int .i64 K] 34)
 have hX1 := hid (hX.out.chg ((Chg.refl Nothing _).alloc (.cells #[.int .i64 force, .int .i64 size] 24)) id)
 have hY := hid (Blk.new (w.alloc (.cells #[.slice A l c, .int .i64 K] 34)) #[.int .i64 force, .int .i64 size] 24)
 have hw0 := hid (((Chg.refl Nothing w).alloc (.cells #[.slice A l c, .int .i64 K] 34)).alloc (.cells #[.int .i64 force, .int .i64 size] 24))
 have x0 := hX1.out.cell 0 (v := .slice A l c) rfl
 have y1 := hY.out.cell 1 (v := .int .i64 size) rfl
 have hFt := hid (fun w => refFit_any l n w)
 unfold evS
 by_cases hs : size = 0
 ·rw [if_pos hs]
  have bs : (size != 0) = false := by rw [hs]; rfl
  replace hs := hid hs
  generalize fitS l n = r at hFt ⊢
  go_enter Tryz.func14, Tryz.ntmps14
  go_wp2_with fail
  refine (hFt.out _).mono ?_
  rintro e w1 ⟨rfl, hc1⟩
  have hC1 := hid (hw0.out.trans hc1)
  clear hc1 x0 y1
  go_wp2
  go_ret
  exact ⟨rfl, hC1.out⟩
 ·rw [if_neg hs]
  have bs : (size != 0) = true := bne_iff_ne.2 hs
  replace hs := hid hs
  clear x0
  go_enter Tryz.func14, Tryz.ntmps14
  go_wp2
  go_ret
  exact ⟨rfl, hw0.out⟩
theorem evalWay_any (F : Nat → Prop) (A : Option Addr) (n c : Nat) (xs : List Cls) (K N force size : Int) (w : World) (H : ClsRow F w A n c xs) (hl : xs.length = n) (hn9 : n ≤ 100000000) :
  Calls Tryz.prog 15 #[.agg #[.slice A n c, .int .i64 K], .int .i64 N, .agg #[.int .i64 force, .int .i64 size]] w fun e w' => e = .returned (.int .i64 (evW xs K force N size)) ∧ Chg Nothing w w' := by
 have hX := hid (Blk.new w #[.slice A n c, .int .i64 K] 34)
 have hX1 := hid (hX.out.chg ((Chg.refl Nothing _).alloc (.cells #[.int .i64 force, .int .i64 size] 29)) id)
 have hY := hid (show Blk _ (w.heap.size + 1) #[.int .i64 force, .int .i64 size] 29 from by have := Blk.new (w.alloc (.cells #[.slice A n c, .int .i64 K] 34)) #[.int .i64 force, .int .i64 size] 29; rwa [World.size_alloc] at this)
 have hw0 := hid (((Chg.refl Nothing w).alloc (.cells #[.slice A n c, .int .i64 K] 34)).alloc (.cells #[.int .i64 force, .int .i64 size] 29))
 have x0 := hX1.out.cell 0 (v := .slice A n c) rfl
 have x1 := hX1.out.cell 1 (v := .int .i64 K) rfl
 have y0 := hY.out.cell 0 (v := .int .i64 force) rfl
 have y1 := hY.out.cell 1 (v := .int .i64 size) rfl
 have hSz := hid (fun w => evalSize_any A n c K N force size w)
 unfold evW
 rw [hl]
 generalize evS n N size = z at hSz ⊢
 have hSd := hid (fun (w' : World) (hc : Chg Nothing w w') => planSized_any F A n c xs K force N z w' (H.chg hc (fun _ _ _ h => h)) hl (by omega))
 have hCh := hid (fun (w' : World) (hc : Chg Nothing w w') => planChoose_any F A n c xs K N z w' (H.chg hc (fun _ _ _ h => h)) hl (by omega))
 generalize chooseM xs K N z = ch at hCh ⊢
 clear H hl
 cases hb : sizedM xs K force N z with
 | true =>
  rw [hb] at hSd
  rw [if_pos rfl]
  clear hb
  go_enter Tryz.func15, Tryz.ntmps15
  go_wp2_with fail
  refine (hSz.out _).mono ?_
  rintro e w1 ⟨rfl, hc1⟩
  have hC1 := hid (hw0.out.trans hc1)
  have hX3 := hid (hX1.out.chg hc1 id)
  have hY1 := hid (hY.out.chg hc1 id)
  clear hc1 x0 x1 y0 y1
  have p0 := hX3.out.cell 0 (v := .slice A n c) rfl
  have p1 := hX3.out.cell 1 (v := .int .i64 K) rfl
  have q0 := hY1.out.cell 0 (v := .int .i64 force) rfl
  have q1 := hY1.out.cell 1 (v := .int .i64 size) rfl
  go_wp2_with fail
  refine (hSd.out _ hC1.out).mono ?_
  rintro e w2 ⟨rfl, hc2⟩
  have hC2 := hid (hC1.out.trans hc2)
  have hY2 := hid (hY1.out.chg hc2 id)
  have hX2 := hid (hX3.out.chg hc2 id)
  clear hc2 p0 p1 q0 q1
  have p0 := hX2.out.cell 0 (v := .slice A n c) rfl
  have p1 := hX2.out.cell 1 (v := .int .i64 K) rfl
  have q0 := hY2.out.cell 0 (v := .int .i64 force) rfl
  have q1 := hY2.out.cell 1 (v := .int .i64 size) rfl
  go_wp2
  go_ret
  exact ⟨rfl, hC2.out⟩
 | false =>
  rw [hb] at hSd
  rw [if_neg (by decide)]
  clear hb
  go_enter Tryz.func15, Tryz.ntmps15
  go_wp2_with fail
  refine (hSz.out _).mono ?_
  rintro e w1 ⟨rfl, hc1⟩
  have hC1 := hid (hw0.out.trans hc1)
  have hX3 := hid (hX1.out.chg hc1 id)
  have hY1 := hid (hY.out.chg hc1 id)
  clear hc1 x0 x1 y0 y1
  have p0 := hX3.out.cell 0 (v := .slice A n c) rfl
  have p1 := hX3.out.cell 1 (v := .int .i64 K) rfl
  have q0 := hY1.out.cell 0 (v := .int .i64 force) rfl
  have q1 := hY1.out.cell 1 (v := .int .i64 size) rfl
  go_wp2_with fail
  refine (hSd.out _ hC1.out).mono ?_
  rintro e w2 ⟨rfl, hc2⟩
  have hC2 := hid (hC1.out.trans hc2)
  have hY2 := hid (hY1.out.chg hc2 id)
  have hX2 := hid (hX3.out.chg hc2 id)
  clear hc2 p0 p1 q0 q1
  have p0 := hX2.out.cell 0 (v := .slice A n c) rfl
  have p1 := hX2.out.cell 1 (v := .int .i64 K) rfl
  have q0 := hY2.out.cell 0 (v := .int .i64 force) rfl
  have q1 := hY2.out.cell 1 (v := .int .i64 size) rfl
  go_wp2_with fail
  refine (hCh.out _ hC2.out).mono ?_
  rintro e w3 ⟨rfl, hc3⟩
  have hC3 := hid (hC2.out.trans hc3)
  clear hc3 p0 p1 q0 q1
  go_wp2
  go_ret
  exact ⟨rfl, hC3.out⟩
theorem ref18Way_any (F : Nat → Prop) (A : Option Addr) (n c : Nat) (xs : List Cls) (K N force size : Int) (w : World) (H : ClsRow F w A n c xs) (hl : xs.length = n) (hn9 : n ≤ 100000000) :
  Calls Tryz.prog 16 #[.agg #[.slice A n c, .int .i64 K], .int .i64 N, .agg #[.int .i64 force, .int .i64 size]] w fun e w' => e = .returned (.int .i64 (evW xs K force N size)) ∧ Chg Nothing w w' := by
 have hX := hid (Blk.new w #[.slice A n c, .int .i64 K] 34)
 have hX1 := hid (hX.out.chg ((Chg.refl Nothing _).alloc (.cells #[.int .i64 force, .int .i64 size] 24)) id)
 have hY := hid (show Blk _ (w.heap.size + 1) #[.int .i64 force, .int .i64 size] 24 from by have := Blk.new (w.alloc (.cells #[.slice A n c, .int .i64 K] 34)) #[.int .i64 force, .int .i64 size] 24; rwa [World.size_alloc] at this)
 have hw0 := hid (((Chg.refl Nothing w).alloc (.cells #[.slice A n c, .int .i64 K] 34)).alloc (.cells #[.int .i64 force, .int .i64 size] 24))
 have x0 := hX1.out.cell 0 (v := .slice A n c) rfl
 have x1 := hX1.out.cell 1 (v := .int .i64 K) rfl
 have y0 := hY.out.cell 0 (v := .int .i64 force) rfl
 have y1 := hY.out.cell 1 (v := .int .i64 size) rfl
 have hSz := hid (fun w => ref18Size_any A n c K N force size w)
 unfold evW
 rw [hl]
 generalize evS n N size = z at hSz ⊢
 have hSd := hid (fun (w' : World) (hc : Chg Nothing w w') => refSized16_any F A n c xs K force N z w' (H.chg hc (fun _ _ _ h => h)) hl (by omega))
 have hCh := hid (fun (w' : World) (hc : Chg Nothing w w') => refChoose_any F A n c xs K N z w' (H.chg hc (fun _ _ _ h => h)) hl (by omega))
 generalize chooseM xs K N z = ch at hCh ⊢
 clear H hl
 cases hb : sizedM xs K force N z with
 | true =>
  rw [hb] at hSd
  rw [if_pos rfl]
  clear hb
  have hxl := hX1.out.lt
  have hyl := hY.out.lt
  have p0 := Calm.cell hxl x0
  have p1 := Calm.cell hxl x1
  have q0 := Calm.cell hyl y0
  have q1 := Calm.cell hyl y1
  go_enter Tryz.func16, Tryz.ntmps16
  go_wp2_with fail
  try simp only [List.append_eq, List.cons_append, List.nil_append]
  refine wp_region_calm_lit (by kernel_rfl) (by kernel_rfl) ?_
  repeat (go_big_quiet_step (((first | (go_at_call 14; exact calm_of (hSz.out _)) | (go_at_call 36; exact calm_of (hSd.out _ (hw0.out.trans (Calm.chg _))))))))
  refine wpQuiet_nil ?_
  intro _ hw'
  obtain ⟨nq, hw''⟩ := hw'
  subst hw''
  have hC1 := hid (hw0.out.trans nq.chg)
  have hX3 := hid (hX1.out.chg nq.chg id)
  have hY1 := hid (hY.out.chg nq.chg id)
  clear p0 p1 q0 q1 x0 x1 y0 y1
  have r0 := hX3.out.cell 0 (v := .slice A n c) rfl
  have r1 := hX3.out.cell 1 (v := .int .i64 K) rfl
  have s0 := hY1.out.cell 0 (v := .int .i64 force) rfl
  have s1 := hY1.out.cell 1 (v := .int .i64 size) rfl
  go_wp2
  go_ret
  exact ⟨rfl, hC1.out⟩
 | false =>
  rw [hb] at hSd
  rw [if_neg (by decide)]
  clear hb
  have hxl := hX1.out.lt
  have hyl := hY.out.lt
  have p0 := Calm.cell hxl x0
  have p1 := Calm.cell hxl x1
  have q0 := Calm.cell hyl y0
  have q1 := Calm.cell hyl y1
  go_enter Tryz.func16, Tryz.ntmps16
  go_wp2_with fail
  try simp only [List.append_eq, List.cons_append, List.nil_append]
  refine wp_region_calm_lit (by kernel_rfl) (by kernel_rfl) ?_
  repeat (go_big_quiet_step (((first | (go_at_call 14; exact calm_of (hSz.out _)) | (go_at_call 36; exact calm_of (hSd.out _ (hw0.out.trans (Calm.chg _))))))))
  refine wpQuiet_nil ?_
  intro _ hw'
  obtain ⟨nq, hw''⟩ := hw'
  subst hw''
  have hC1 := hid (hw0.out.trans nq.chg)
  have hX3 := hid (hX1.out.chg nq.chg id)
  have hY1 := hid (hY.out.chg nq.chg id)
  clear p0 p1 q0 q1 x0 x1 y0 y1
  have r0 := hX3.out.cell 0 (v := .slice A n c) rfl
  have r1 := hX3.out.cell 1 (v := .int .i64 K) rfl
  have s0 := hY1.out.cell 0 (v := .int .i64 force) rfl
  have s1 := hY1.out.cell 1 (v := .int .i64 size) rfl
  have hxl := hX3.out.lt
  have hyl := hY1.out.lt
  have p0 := Calm.cell hxl r0
  have p1 := Calm.cell hxl r1
  have q0 := Calm.cell hyl s0
  have q1 := Calm.cell hyl s1
  go_wp2_with fail
  try simp only [List.append_eq, List.cons_append, List.nil_append]
  refine wp_region_calm_lit (by kernel_rfl) (by kernel_rfl) ?_
  repeat (go_big_quiet_step (((first | (go_at_call 14; exact calm_of (hSz.out _)) | (go_at_call 37; exact calm_of (hCh.out _ (hC1.out.trans (Calm.chg _))))))))
  refine wpQuiet_nil ?_
  intro _ hw'
  obtain ⟨nq, hw''⟩ := hw'
  subst hw''
  have hC2 := hid (hC1.out.trans nq.chg)
  clear p0 p1 q0 q1 r0 r1 s0 s1
  go_wp2
  go_ret
  exact ⟨rfl, hC2.out⟩
theorem evalLeaf_any (F : Nat → Prop) (A : Option Addr) (n c : Nat) (xs : List Cls) (K force size : Int) (s : ByteArray) (w : World) (H : ClsRow F w A n c xs) (hF : ∀ k, F k → k < w.heap.size) (hl : xs.length = n) (hn9 : n ≤ 100) (hs : s.size ≤ 100000000) :
  Calls Tryz.prog 17 #[.agg #[.slice A n c, .int .i64 K], .string s, .agg #[.int .i64 force, .int .i64 size]] w fun e w' => GivesSym w.heap.size w' e (mF xs K (evW xs K force s.size size) s (evS n s.size size)) (mN xs K (evW xs K force s.size size) s.size (evS n s.size size)) (mE xs K (evW xs K force s.size size) s.size (evS n s.size size)) ∧ Chg Nothing w w' := by
 have hX := hid (Blk.new w #[.slice A n c, .int .i64 K] 34)
 have hX1 := hid (hX.out.chg ((Chg.refl Nothing _).alloc (.cells #[.int .i64 force, .int .i64 size] 29)) id)
 have hY := hid (show Blk _ (w.heap.size + 1) #[.int .i64 force, .int .i64 size] 29 from by have := Blk.new (w.alloc (.cells #[.slice A n c, .int .i64 K] 34)) #[.int .i64 force, .int .i64 size] 29; rwa [World.size_alloc] at this)
 have hw0 := hid (((Chg.refl Nothing w).alloc (.cells #[.slice A n c, .int .i64 K] 34)).alloc (.cells #[.int .i64 force, .int .i64 size] 29))
 have x0 := hX1.out.cell 0 (v := .slice A n c) rfl
 have x1 := hX1.out.cell 1 (v := .int .i64 K) rfl
 have y0 := hY.out.cell 0 (v := .int .i64 force) rfl
 have y1 := hY.out.cell 1 (v := .int .i64 size) rfl
 have hSz := hid (fun w => evalSize_any A n c K s.size force size w)
 have hWy := hid (fun (w' : World) (hc : Chg Nothing w w') => evalWay_any F A n c xs K s.size force size w' (H.chg hc (fun _ _ _ h => h)) hl (by omega))
 generalize evS n s.size size = z at hSz ⊢
 generalize evW xs K force s.size size = way at hWy ⊢
 have hFn := hid (fun (w' : World) (hc : Chg Nothing w w') => matchFind_any F A n c xs K way s z w' (H.chg hc (fun _ _ _ h => h)) (fun k hk => Nat.lt_of_lt_of_le (hF k hk) hc.size) hl hn9 hs)
 generalize mF xs K way s z = ys at hFn ⊢
 generalize mN xs K way s.size z = num at hFn ⊢
 generalize mE xs K way s.size z = E at hFn ⊢
 have hs2 := hid hs
 clear H hl hF hs
 go_enter Tryz.func17, Tryz.ntmps17
 go_wp2_with fail
 have hS := hid (fun (w' : World) (hc : Chg Nothing ((w.alloc (.cells #[.slice A n c, .int .i64 K] 34)).alloc (.cells #[.int .i64 force, .int .i64 size] 29)) w') => (⟨(hX1.out.chg hc id).cell 0 rfl, (hX1.out.chg hc id).cell 1 rfl, (hY.out.chg hc id).cell 0 rfl, (hY.out.chg hc id).cell 1 rfl⟩ : w'.cell? ⟨w.heap.size, 0, none⟩ = some (.slice A n c) ∧ w'.cell? ⟨w.heap.size, 1, none⟩ = some (.int .i64 K) ∧ w'.cell? ⟨w.heap.size + 1, 0, none⟩ = some (.int .i64 force) ∧ w'.cell? ⟨w.heap.size + 1, 1, none⟩ = some (.int .i64 size)))
 have hcur := hid ((Chg.refl Nothing ((w.alloc (.cells #[.slice A n c, .int .i64 K] 34)).alloc (.cells #[.int .i64 force, .int .i64 size] 29))).drew)
 clear x0 x1 y0 y1
 go_region_held3 (fun w' => w'.cell? ⟨w.heap.size, 0, none⟩ = some (.slice A n c) ∧ w'.cell? ⟨w.heap.size, 1, none⟩ = some (.int .i64 K) ∧ w'.cell? ⟨w.heap.size + 1, 0, none⟩ = some (.int .i64 force) ∧ w'.cell? ⟨w.heap.size + 1, 1, none⟩ = some (.int .i64 size))
  (exact hS.out _ hcur.out)
  (first
  | (go_at_call 15; with_reducible refine (hWy.out _ (hw0.out.trans hcur.out)).mono ?_; rintro e wW ⟨rfl, hcW⟩; replace hcur := hid (hcur.out.trans hcW); replace hcW := hid hcW)
  | (go_at_call 13; with_reducible refine (hSz.out _).mono ?_; rintro e wW ⟨rfl, hcW⟩; replace hcur := hid (hcur.out.trans hcW); replace hcW := hid hcW)
  | (go_at_call 38; with_reducible refine (symFlat (hFn.out _ (hw0.out.trans hcur.out))).mono ?_; rintro e wF ⟨AF, cF, rfl, hRF, hcF⟩; replace hRF := hid (own_low hRF (hw0.out.trans hcur.out).size); replace hcur := hid (hcur.out.trans hcF); replace hcF := hid hcF))
 all_goals
  have hC2 := hid (hw0.out.trans hcur.out)
  clear hS hcur
  go_wp2
  go_ret3
  exact ⟨⟨AF, cF, rfl, hRF.out⟩, hC2.out⟩
theorem ref18Leaf_any (F : Nat → Prop) (A : Option Addr) (n c : Nat) (xs : List Cls) (K force size : Int) (s : ByteArray) (w : World) (H : ClsRow F w A n c xs) (hF : ∀ k, F k → k < w.heap.size) (hl : xs.length = n) (hn9 : n ≤ 100) (hs : s.size ≤ 100000000) :
  Calls Tryz.prog 18 #[.agg #[.slice A n c, .int .i64 K], .string s, .agg #[.int .i64 force, .int .i64 size]] w fun e w' => GivesSym w.heap.size w' e (mF xs K (evW xs K force s.size size) s (evS n s.size size)) (mN xs K (evW xs K force s.size size) s.size (evS n s.size size)) (mE xs K (evW xs K force s.size size) s.size (evS n s.size size)) ∧ Chg Nothing w w' := by
 have hX := hid (Blk.new w #[.slice A n c, .int .i64 K] 34)
 have hX1 := hid (hX.out.chg ((Chg.refl Nothing _).alloc (.cells #[.int .i64 force, .int .i64 size] 24)) id)
 have hY := hid (show Blk _ (w.heap.size + 1) #[.int .i64 force, .int .i64 size] 24 from by have := Blk.new (w.alloc (.cells #[.slice A n c, .int .i64 K] 34)) #[.int .i64 force, .int .i64 size] 24; rwa [World.size_alloc] at this)
 have hw0 := hid (((Chg.refl Nothing w).alloc (.cells #[.slice A n c, .int .i64 K] 34)).alloc (.cells #[.int .i64 force, .int .i64 size] 24))
 have x0 := hX1.out.cell 0 (v := .slice A n c) rfl
 have x1 := hX1.out.cell 1 (v := .int .i64 K) rfl
 have y0 := hY.out.cell 0 (v := .int .i64 force) rfl
 have y1 := hY.out.cell 1 (v := .int .i64 size) rfl
 have hSz := hid (fun w => ref18Size_any A n c K s.size force size w)
 have hWy := hid (fun (w' : World) (hc : Chg Nothing w w') => ref18Way_any F A n c xs K s.size force size w' (H.chg hc (fun _ _ _ h => h)) hl (by omega))
 generalize evS n s.size size = z at hSz ⊢
 generalize evW xs K force s.size size = way at hWy ⊢
 have hFn := hid (fun (w' : World) (hc : Chg Nothing w w') => refFind17_any F A n c xs K way s z w' (H.chg hc (fun _ _ _ h => h)) hl hn9 hs)
 generalize mF xs K way s z = ys at hFn ⊢
 generalize mN xs K way s.size z = num at hFn ⊢
 generalize mE xs K way s.size z = E at hFn ⊢
 have hs2 := hid hs
 clear H hl hF hs
 go_enter Tryz.func18, Tryz.ntmps18
 go_wp2_with fail
 have hS := hid (fun (w' : World) (hc : Chg Nothing ((w.alloc (.cells #[.slice A n c, .int .i64 K] 34)).alloc (.cells #[.int .i64 force, .int .i64 size] 24)) w') => (⟨(hX1.out.chg hc id).cell 0 rfl, (hX1.out.chg hc id).cell 1 rfl, (hY.out.chg hc id).cell 0 rfl, (hY.out.chg hc id).cell 1 rfl⟩ : w'.cell? ⟨w.heap.size, 0, none⟩ = some (.slice A n c) ∧ w'.cell? ⟨w.heap.size, 1, none⟩ = some (.int .i64 K) ∧ w'.cell? ⟨w.heap.size + 1, 0, none⟩ = some (.int .i64 force) ∧ w'.cell? ⟨w.heap.size + 1, 1, none⟩ = some (.int .i64 size)))
 have hcur := hid ((Chg.refl Nothing ((w.alloc (.cells #[.slice A n c, .int .i64 K] 34)).alloc (.cells #[.int .i64 force, .int .i64 size] 24))).drew)
 clear x0 x1 y0 y1
 go_region_held3 (fun w' => w'.cell? ⟨w.heap.size, 0, none⟩ = some (.slice A n c) ∧ w'.cell? ⟨w.heap.size, 1, none⟩ = some (.int .i64 K) ∧ w'.cell? ⟨w.heap.size + 1, 0, none⟩ = some (.int .i64 force) ∧ w'.cell? ⟨w.heap.size + 1, 1, none⟩ = some (.int .i64 size))
  (exact hS.out _ hcur.out)
  (first
  | (go_at_call 16; with_reducible refine (hWy.out _ (hw0.out.trans hcur.out)).mono ?_; rintro e wW ⟨rfl, hcW⟩; replace hcur := hid (hcur.out.trans hcW); replace hcW := hid hcW)
  | (go_at_call 14; with_reducible refine (hSz.out _).mono ?_; rintro e wW ⟨rfl, hcW⟩; replace hcur := hid (hcur.out.trans hcW); replace hcW := hid hcW)
  | (go_at_call 39; with_reducible refine (symFlat (hFn.out _ (hw0.out.trans hcur.out))).mono ?_; rintro e wF ⟨AF, cF, rfl, hRF, hcF⟩; replace hRF := hid (own_low hRF (hw0.out.trans hcur.out).size); replace hcur := hid (hcur.out.trans hcF); replace hcF := hid hcF))
 all_goals
  have hC2 := hid (hw0.out.trans hcur.out)
  clear hS hcur
  go_wp2
  go_ret3
  exact ⟨⟨AF, cF, rfl, hRF.out⟩, hC2.out⟩
end Go.Proofs.YtoelilejohfglaaGreat
