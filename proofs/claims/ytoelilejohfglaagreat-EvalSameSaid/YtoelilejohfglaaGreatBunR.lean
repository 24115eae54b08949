/- Joined texts: KndA SmbA SmbB SmbC SmbD SmbE SmbF WhrA MapA KndB KndC SmbG SmbH SmbI SmbJ. -/
import Derived.Test.YtoelilejohfglaaGreatBunP
import Derived.Test.YtoelilejohfglaaGreatBunB
import Derived.Test.YtoelilejohfglaaGreatBunQ
import Derived.Deep.QuietTactic
import Derived.Test.YtoelilejohfglaaGreatBunA
import Derived.Test.YtoelilejohfglaaGreatBunF
import Derived.Deep.RegionHeld3
import Derived.Maps.OwnOps
import Derived.WideKeyArr
import Derived.Maps.OwnIn
set_option maxHeartbeats 16000000
set_option maxRecDepth 100000
namespace Go.Proofs.YtoelilejohfglaaGreat
open Go.RowKit
set_option linter.unusedVariables false
set_option linter.unusedSimpArgs false
def markF (c : Cls) (s : ByteArray) (i : Nat) : Int := if c.getLsbD (s.data[i]?.getD 0).toNat = true then 1 else 0
def placeF (xs : List Cls) (c : Cls) (i : Nat) : Int := if xs.getD i 0 = c then 1 else 0
def kindsTo (xs : List Cls) : Nat → List Cls
 | 0 => []
 | k + 1 => if xs.getD k 0 ∈ fullC :: kindsTo xs k then kindsTo xs k else kindsTo xs k ++ [xs.getD k 0]
def kindsL (xs : List Cls) : List Cls := kindsTo xs xs.length
def whereTo (xs : List Cls) (c : Cls) (n : Nat) : List Int := ((List.range n).filter fun i => decide (xs.getD i 0 = c)).map fun (i : Nat) => (i : Int)
theorem whereTo_yes {xs : List Cls} {c : Cls} {n : Nat} (h : xs.getD n 0 = c) : whereTo xs c (n + 1) = whereTo xs c n ++ [(n : Int)] := by
 unfold whereTo; rw [List.range_succ, List.filter_append, List.map_append, List.filter_cons_of_pos (by simpa using h)]; simp
theorem whereTo_no {xs : List Cls} {c : Cls} {n : Nat} (h : ¬ xs.getD n 0 = c) : whereTo xs c (n + 1) = whereTo xs c n := by
 unfold whereTo; rw [List.range_succ, List.filter_append, List.map_append, List.filter_cons_of_neg (by simpa using h)]; simp
theorem whereTo_len (xs : List Cls) (c : Cls) (n : Nat) : (whereTo xs c n).length ≤ n := by
 unfold whereTo; rw [List.length_map]; exact Nat.le_trans (List.length_filter_le _ _) (by simp)
def boundN (xs : List Cls) : Int := (xs.length : Int) - ((whereTo xs fullC xs.length).length : Int)
def missN (xs : List Cls) (s : ByteArray) (i : Nat) : Int := sumN xs.length (fun j => if (xs.getD j 0).getLsbD (s.data[i + j]?.getD 0).toNat = true then 0 else 1)
def countsL (xs : List Cls) (s : ByteArray) : List Int := (List.range (s.size + 1 - xs.length)).map fun i => missN xs s i
theorem kindsTo_nodup (xs : List Cls) : ∀ n, (fullC :: kindsTo xs n).Nodup
 | 0 => by simp [kindsTo]
 | n + 1 => by
  have ih := kindsTo_nodup xs n
  unfold kindsTo
  split
  ·exact ih
  ·rename_i h
   rw [← List.cons_append, List.nodup_append]
   refine ⟨ih, by simp, ?_⟩
   intro a ha b hb e
   simp at hb; subst hb; subst e
   exact h ha
theorem kindsTo_mem (xs : List Cls) : ∀ n, ∀ x, x ∈ fullC :: kindsTo xs n ↔ x = fullC ∨ ∃ j, j < n ∧ xs.getD j 0 = x
 | 0, x => by simp [kindsTo]
 | n + 1, x => by
  have ih := kindsTo_mem xs n
  have hstep : x ∈ fullC :: kindsTo xs (n + 1) ↔ x ∈ fullC :: kindsTo xs n ∨ x = xs.getD n 0 := by
   rw [show kindsTo xs (n + 1) = if xs.getD n 0 ∈ fullC :: kindsTo xs n then kindsTo xs n else kindsTo xs n ++ [xs.getD n 0] from rfl]
   split
   ·rename_i h
    constructor
    ·exact .inl
    ·rintro (h' | rfl)
     ·exact h'
     ·exact h
   ·rw [← List.cons_append, List.mem_append]; simp
  rw [hstep, ih x]
  constructor
  ·rintro ((h | ⟨j, hj, e⟩) | rfl)
   ·exact .inl h
   ·exact .inr ⟨j, by omega, e⟩
   ·exact .inr ⟨n, by omega, rfl⟩
  ·rintro (h | ⟨j, hj, e⟩)
   ·exact .inl (.inl h)
   ·by_cases hjn : j = n
    ·subst hjn; exact .inr e.symm
    ·exact .inl (.inr ⟨j, by omega, e⟩)
theorem kindsTo_len (xs : List Cls) : ∀ n, (kindsTo xs n).length ≤ n
 | 0 => by simp [kindsTo]
 | n + 1 => by
  have ih := kindsTo_len xs n
  unfold kindsTo
  split
  ·omega
  ·simp; omega
def sumL {α : Type} (l : List α) (f : α → Int) : Int := (l.map f).foldr (· + ·) 0
theorem sumL_nil {α : Type} (f : α → Int) : sumL [] f = 0 := rfl
theorem sumL_cons {α : Type} (x : α) (l : List α) (f : α → Int) : sumL (x :: l) f = f x + sumL l f := rfl
theorem sumL_append {α : Type} (l m : List α) (f : α → Int) : sumL (l ++ m) f = sumL l f + sumL m f := by
 induction l with
 | nil => rw [List.nil_append, sumL_nil]; omega
 | cons x l ih => rw [List.cons_append, sumL_cons, sumL_cons, ih]; omega
theorem sumL_sumN {α : Type} (l : List α) (m : Nat) (f : α → Nat → Int) : sumL l (fun c => sumN m (f c)) = sumN m (fun j => sumL l (fun c => f c j)) := by
 induction l with
 | nil => exact (sumN_zero m _ (fun _ _ => rfl)).symm
 | cons x l ih => simp only [sumL_cons]; rw [ih, ← sumN_add]
theorem sumL_one {l : List Cls} (hn : l.Nodup) (x : Cls) (v : Cls → Int) : sumL l (fun c => (if x = c then 1 else 0) * v c) = if x ∈ l then v x else 0 := by
 induction l with
 | nil => rfl
 | cons y l ih =>
  obtain ⟨h1, h2⟩ := List.nodup_cons.1 hn
  rw [sumL_cons, ih h2]
  by_cases hxy : x = y
  ·subst hxy; rw [if_pos rfl, if_neg h1, if_pos (by simp)]; omega
  ·rw [if_neg hxy]
   by_cases hx : x ∈ l
   ·rw [if_pos hx, if_pos (by simp [hx])]; omega
   ·rw [if_neg hx, if_neg (by simp [hx, hxy])]; omega
theorem byte_lt (s : ByteArray) (i : Nat) : (s.data[i]?.getD 0).toNat < 256 := UInt8.toNat_lt _
theorem sumN_filter (n : Nat) (p : Nat → Bool) : (((List.range n).filter p).length : Int) = sumN n (fun j => if p j = true then 1 else 0) := by
 induction n with
 | zero => rfl
 | succ n ih =>
  rw [List.range_succ, List.filter_append, List.length_append, sumN_succ, ← ih]
  by_cases h : p n = true
  ·rw [List.filter_cons_of_pos h, if_pos h]; simp
  ·rw [List.filter_cons_of_neg h, if_neg h]; simp
theorem kinds_law (xs : List Cls) (s : ByteArray) (i : Nat) : sumL (kindsL xs) (fun c => slideN xs.length (placeF xs c) (markF c s) i) = boundN xs - missN xs s i := by
 unfold slideN
 rw [sumL_sumN]
 have hb : boundN xs = sumN xs.length (fun j => if xs.getD j 0 = fullC then 0 else 1) := by
  unfold boundN whereTo
  rw [List.length_map, sumN_filter]
  have h1 : (xs.length : Int) = sumN xs.length (fun _ => 1) := by
   induction xs.length with
   | zero => rfl
   | succ n ih => rw [sumN_succ, ← ih]; omega
  rw [h1]
  have h2 := sumN_add xs.length (fun j => if xs.getD j 0 = fullC then 0 else 1) (fun j => if decide (xs.getD j 0 = fullC) = true then 1 else 0)
  have h3 : sumN xs.length (fun _ => 1) = sumN xs.length (fun j => (if xs.getD j 0 = fullC then (0 : Int) else 1) + (if decide (xs.getD j 0 = fullC) = true then 1 else 0)) :=
   sumN_congr fun j hj => by
    by_cases h : xs.getD j 0 = fullC
    ·rw [if_pos h, if_pos (decide_eq_true h)]; rfl
    ·rw [if_neg h, if_neg (by simpa using h)]; rfl
  have e : sumN xs.length (fun _ => 1) = sumN (sumN xs.length (fun _ => 1)).toNat (fun _ => 1) := by rw [← h1]; simp; rw [← h1]
  omega
 unfold missN
 rw [hb]
 have h2 := sumN_add xs.length (fun j => sumL (kindsL xs) (fun c => placeF xs c j * markF c s (i + j))) (fun j => if (xs.getD j 0).getLsbD (s.data[i + j]?.getD 0).toNat = true then (0 : Int) else 1)
 have h3 : sumN xs.length (fun j => if xs.getD j 0 = fullC then (0 : Int) else 1) = sumN xs.length (fun j => sumL (kindsL xs) (fun c => placeF xs c j * markF c s (i + j)) + (if (xs.getD j 0).getLsbD (s.data[i + j]?.getD 0).toNat = true then (0 : Int) else 1)) := by
  refine sumN_congr fun j hj => ?_
  have hnd := kindsTo_nodup xs xs.length
  obtain ⟨hf, hnd2⟩ := List.nodup_cons.1 hnd
  have h4 := sumL_one hnd2 (xs.getD j 0) (fun c => markF c s (i + j))
  unfold placeF
  rw [show kindsL xs = kindsTo xs xs.length from rfl, h4]
  by_cases hfj : xs.getD j 0 = fullC
  ·rw [if_pos hfj, hfj, if_neg hf, fullC_get (byte_lt s (i + j))]; simp
  ·have hm : xs.getD j 0 ∈ kindsTo xs xs.length := by
    have := (kindsTo_mem xs xs.length (xs.getD j 0)).2 (.inr ⟨j, hj, rfl⟩)
    rcases List.mem_cons.1 this with h | h
    ·exact absurd h hfj
    ·exact h
   rw [if_neg hfj, if_pos hm]
   unfold markF
   by_cases h : (xs.getD j 0).getLsbD (s.data[i + j]?.getD 0).toNat = true
   ·rw [if_pos h, if_pos h]; rfl
   ·rw [if_neg h, if_neg h]; rfl
 omega
theorem drewU (w : World) (q n : Nat) : ∃ m, (w.drewN q).drewN n = w.drewN m := ⟨_, World.drewN_drewN ..⟩
theorem take_succU {xs : List Int} {k : Nat} (h : k < xs.length) : xs.take (k + 1) = xs.take k ++ [xs.getD k 0] := by
 rw [List.take_succ_eq_append_getElem h]; simp [h]
theorem refLog_any (n : Int) (w : World) : Calls Tryz.prog 30 #[.int .i64 n] w fun e w' => e = .returned (.tuple #[.int .i64 ((logS n).getD 0 : Nat), .bool (logS n).isSome]) ∧ w' = w := by
 go_enter Tryz.func30, Tryz.ntmps30
 go_wp2_with fail
 go_loopw [4, 5] (fun pv iv wr => ∃ (k : Nat) (p : Int), k ≤ 13 ∧ iv = .int .i64 k ∧ pv = .int .i64 p ∧ Hid (p = 2 ^ k) ∧ (1 ≤ p ∧ p ≤ 8192) ∧ Hid (∀ j, j < k → n ≠ 2 ^ j) ∧ wr = w) (fun _ iv _ => 13 - (intOf iv).toNat)
 case atStart => exact ⟨0, 1, by omega, rfl, rfl, hid rfl, by omega, hid (fun j hj => by omega), rfl⟩
 case round =>
  obtain ⟨k, p, hk, rfl, rfl, hp, ⟨p1, p2⟩, hno, rfl⟩ := hrel
  rcases Nat.lt_or_ge k 13 with hk13 | hk13
  ·have hki : (k : Int) ≤ 12 := by omega
   have hk0 : (0 : Int) ≤ (k : Int) := by omega
   obtain ⟨q1, q2⟩ := pow2_le k (by omega)
   rw [← hp.out] at q1 q2
   by_cases hn : p = n
   ·have hl : logS n = some k := logS_some.2 ⟨by omega, by rw [← hn, hp.out]⟩
    replace hl := hid hl
    have hnb : (p == n) = true := by simp [hn]
    clear hn
    go_wp2
    go_ret2
    exact ⟨by rw [hl.out]; rfl, rfl⟩
   ·have hnb : (p == n) = false := beq_eq_false_iff_ne.2 hn
    have hnx := hid (show ∀ j, j < k + 1 → n ≠ 2 ^ j from fun j hj => by
     rcases Nat.lt_or_ge j k with h | h
     ·exact hno.out j h
     ·obtain rfl : j = k := by omega
      rw [← hp.out]; exact fun e => hn e.symm)
    have hp2 := hid (show 2 * p = 2 ^ (k + 1) from by rw [hp.out, Int.pow_succ]; omega)
    clear hn
    go_wp2
    go_roundw
    case rel => exact ⟨k + 1, 2 * p, by omega, by go_num, rfl, hp2, by omega, hnx, trivial⟩
    case measure => simp [intOf]; omega
  ·obtain rfl : k = 13 := by omega
   have hl : logS n = none := logS_none.2 (fun m hm => hno.out m (by omega))
   replace hl := hid hl
   clear hno
   go_wp2
   go_ret2
   exact ⟨by rw [hl.out]; rfl, rfl⟩
theorem refSized_any (m size : Int) (w : World) : Calls Tryz.prog 97 #[.int .i64 m, .int .i64 size] w fun e w' => e = .returned (.bool (sizedB m size)) ∧ w' = w := by
 have hL := hid (fun w => refLog_any size w)
 unfold sizedB
 generalize logS size = o at hL ⊢
 cases o with
 | none =>
  go_enter Tryz.func97, Tryz.ntmps97
  go_wp2_with fail
  refine (hL.out _).mono ?_
  rintro e w2 ⟨rfl, rfl⟩
  simp only [Option.getD_none, Option.isSome_none]
  go_wp2
  go_ret
  simp
 | some k =>
  go_enter Tryz.func97, Tryz.ntmps97
  go_wp2_with fail
  refine (hL.out _).mono ?_
  rintro e w2 ⟨rfl, rfl⟩
  simp only [Option.getD_some, Option.isSome_some]
  go_wp2
  go_ret
  simp
theorem refSlides_any (m n : Int) (w : World) : Calls Tryz.prog 96 #[.int .i64 m, .int .i64 n] w fun e w' => e = .returned (.bool (slidesB m n)) ∧ w' = w := by
 by_cases h : 1 ≤ m
 ·go_enter Tryz.func96, Tryz.ntmps96
  go_wp2
  all_goals (go_ret; simp [slidesB, h]; try omega)
 ·go_enter Tryz.func96, Tryz.ntmps96
  go_wp2
  all_goals (go_ret; simp [slidesB]; try omega)
def sizeBad (m n size : Int) : Bool := decide (m ≤ n) && (!(logS size).isSome || decide (size < m))
theorem refSize_bad (m n size : Int) (w : World) : Calls Tryz.prog 70 #[.int .i64 m, .int .i64 n, .int .i64 size] w fun e w' => e = .returned (.bool (sizeBad m n size)) ∧ w' = w := by
 have hL := hid (fun w => refLog_any size w)
 unfold sizeBad
 generalize logS size = o at hL ⊢
 by_cases h : m ≤ n
 all_goals
  cases o with
  | none =>
   go_enter Tryz.func70, Tryz.ntmps70
   go_wp2_with fail
   refine (hL.out _).mono ?_
   rintro e w2 ⟨rfl, rfl⟩
   simp only [Option.getD_none, Option.isSome_none]
   go_wp2
   all_goals (go_ret; simp [h]; try omega)
  | some k =>
   go_enter Tryz.func70, Tryz.ntmps70
   go_wp2_with fail
   refine (hL.out _).mono ?_
   rintro e w2 ⟨rfl, rfl⟩
   simp only [Option.getD_some, Option.isSome_some]
   go_wp2
   all_goals (go_ret; simp [h]; try omega)
theorem ceil_eq {s q : Int} (hq : 0 < q) : (s - 1) / q + 1 = if s % q = 0 then s / q else s / q + 1 := by
 have e := Int.emod_add_mul_ediv s q
 have r0 := Int.emod_nonneg s (show q ≠ 0 by omega)
 have r1 := Int.emod_lt_of_pos s hq
 split
 ·rename_i h
  have h2 := (Int.ediv_emod_unique hq (a := s - 1) (r := q - 1) (q := s / q - 1)).2 ⟨by rw [Int.mul_sub]; omega, by omega, by omega⟩
  rw [h2.1]; omega
 ·rename_i h
  have h2 := (Int.ediv_emod_unique hq (a := s - 1) (r := s % q - 1) (q := s / q)).2 ⟨by omega, by omega, by omega⟩
  rw [h2.1]
theorem refCount_any (m n size : Int) (w : World) : Calls Tryz.prog 64 #[.int .i64 m, .int .i64 n, .int .i64 size] w fun e w' => e = .returned (.int .i64 (countS m n size)) ∧ w' = w := by
 obtain ⟨n', hn'⟩ : ∃ n', min n 1099511627776 = n' := ⟨_, rfl⟩
 have hb : n' ≤ 1099511627776 := by omega
 have hcs : countS m n size = cntS m n' size := by unfold countS cntS; rw [hn']
 rw [hcs]
 clear hcs
 have hn2 : n ≤ 1099511627776 ∧ n' = n ∨ 1099511627776 < n ∧ n' = 1099511627776 := by omega
 clear hn'
 have hSl := hid (fun w => refSlides_any m n' w)
 have hSz := hid (fun w => refSized_any m size w)
 have hpt := hid (fun (h1 : slidesB m n' = true) (h2 : sizedB m size = true) => count_parts h1 h2)
 unfold cntS
 generalize slidesB m n' = sl at *
 generalize sizedB m size = sz at *
 rcases hn2 with ⟨hlt, rfl⟩ | ⟨hlt, rfl⟩
 ·cases sl with
  | false =>
   go_enter Tryz.func64, Tryz.ntmps64
   go_wp2_with fail
   refine (hSl.out _).mono ?_
   rintro e w2 ⟨rfl, rfl⟩
   go_wp2
   go_ret
   simp
  | true =>
   cases sz with
   | false =>
    go_enter Tryz.func64, Tryz.ntmps64
    go_wp2_with fail
    refine (hSl.out _).mono ?_
    rintro e w2 ⟨rfl, rfl⟩
    go_wp2_with fail
    refine (hSz.out _).mono ?_
    rintro e w3 ⟨rfl, rfl⟩
    go_wp2
    go_ret
    simp
   | true =>
    obtain ⟨⟨z1, z2⟩, z3, s1, s2⟩ := hpt.out rfl rfl
    obtain ⟨q1, hq1⟩ : ∃ q1 : Int, n' - m + 1 = q1 := ⟨_, rfl⟩
    obtain ⟨q2, hq2⟩ : ∃ q2 : Int, size - m + 1 = q2 := ⟨_, rfl⟩
    have p1 : 0 ≤ q1 := by omega
    have p2 : (0 : Int) < q2 := by omega
    have hce := ceil_eq (s := q1) p2
    have hq := Int.ediv_nonneg p1 (Int.le_of_lt p2)
    have hq3 : q1 / q2 ≤ q1 := Int.ediv_le_self _ p1
    have p3 : q1 ≤ 1099511627777 := by omega
    rw [show n' - m = q1 - 1 from by omega, hq2, hce]
    have htm : q1.tmod q2 = q1 % q2 := Int.tmod_eq_emod_of_nonneg p1
    obtain ⟨q, hqd⟩ : ∃ q, q1 / q2 = q := ⟨_, rfl⟩
    obtain ⟨r, hrd⟩ : ∃ r, q1 % q2 = r := ⟨_, rfl⟩
    rw [hqd, hrd]
    rw [hqd] at hq hq3
    rw [hrd] at htm
    replace hqd := hid hqd
    replace hq1 := hid hq1
    replace hq2 := hid hq2
    replace htm := hid htm
    replace hrd := hid hrd
    clear hce
    by_cases hr : r = 0
    ·have hrb : (r == 0) = true := by simp [hr]
     go_enter Tryz.func64, Tryz.ntmps64
     go_wp2_with fail
     refine (hSl.out _).mono ?_
     rintro e w2 ⟨rfl, rfl⟩
     go_wp2_with fail
     refine (hSz.out _).mono ?_
     rintro e w3 ⟨rfl, rfl⟩
     have hqd := hqd.out
     have hq2 := hq2.out
     have hq1 := hq1.out
     have hrd := hrd.out
     have htm := htm.out
     go_wp2
     go_ret
     simp
    ·have hrb : (r == 0) = false := beq_eq_false_iff_ne.2 hr
     go_enter Tryz.func64, Tryz.ntmps64
     go_wp2_with fail
     refine (hSl.out _).mono ?_
     rintro e w2 ⟨rfl, rfl⟩
     go_wp2_with fail
     refine (hSz.out _).mono ?_
     rintro e w3 ⟨rfl, rfl⟩
     have hqd := hqd.out
     have hq2 := hq2.out
     have hq1 := hq1.out
     have hrd := hrd.out
     have htm := htm.out
     go_wp2
     go_ret
     simp
 ·cases sl with
  | false =>
   go_enter Tryz.func64, Tryz.ntmps64
   go_wp2_with fail
   refine (hSl.out _).mono ?_
   rintro e w2 ⟨rfl, rfl⟩
   go_wp2
   go_ret
   simp
  | true =>
   cases sz with
   | false =>
    go_enter Tryz.func64, Tryz.ntmps64
    go_wp2_with fail
    refine (hSl.out _).mono ?_
    rintro e w2 ⟨rfl, rfl⟩
    go_wp2_with fail
    refine (hSz.out _).mono ?_
    rintro e w3 ⟨rfl, rfl⟩
    go_wp2
    go_ret
    simp
   | true =>
    obtain ⟨⟨z1, z2⟩, z3, s1, s2⟩ := hpt.out rfl rfl
    obtain ⟨q1, hq1⟩ : ∃ q1 : Int, 1099511627776 - m + 1 = q1 := ⟨_, rfl⟩
    obtain ⟨q2, hq2⟩ : ∃ q2 : Int, size - m + 1 = q2 := ⟨_, rfl⟩
    have p1 : 0 ≤ q1 := by omega
    have p2 : (0 : Int) < q2 := by omega
    have hce := ceil_eq (s := q1) p2
    have hq := Int.ediv_nonneg p1 (Int.le_of_lt p2)
    have hq3 : q1 / q2 ≤ q1 := Int.ediv_le_self _ p1
    have p3 : q1 ≤ 1099511627777 := by omega
    rw [show 1099511627776 - m = q1 - 1 from by omega, hq2, hce]
    have htm : q1.tmod q2 = q1 % q2 := Int.tmod_eq_emod_of_nonneg p1
    obtain ⟨q, hqd⟩ : ∃ q, q1 / q2 = q := ⟨_, rfl⟩
    obtain ⟨r, hrd⟩ : ∃ r, q1 % q2 = r := ⟨_, rfl⟩
    rw [hqd, hrd]
    rw [hqd] at hq hq3
    rw [hrd] at htm
    replace hqd := hid hqd
    replace hq1 := hid hq1
    replace hq2 := hid hq2
    replace htm := hid htm
    replace hrd := hid hrd
    clear hce
    by_cases hr : r = 0
    ·have hrb : (r == 0) = true := by simp [hr]
     go_enter Tryz.func64, Tryz.ntmps64
     go_wp2_with fail
     refine (hSl.out _).mono ?_
     rintro e w2 ⟨rfl, rfl⟩
     go_wp2_with fail
     refine (hSz.out _).mono ?_
     rintro e w3 ⟨rfl, rfl⟩
     have hqd := hqd.out
     have hq2 := hq2.out
     have hq1 := hq1.out
     have hrd := hrd.out
     have htm := htm.out
     go_wp2
     go_ret
     simp
    ·have hrb : (r == 0) = false := beq_eq_false_iff_ne.2 hr
     go_enter Tryz.func64, Tryz.ntmps64
     go_wp2_with fail
     refine (hSl.out _).mono ?_
     rintro e w2 ⟨rfl, rfl⟩
     go_wp2_with fail
     refine (hSz.out _).mono ?_
     rintro e w3 ⟨rfl, rfl⟩
     have hqd := hqd.out
     have hq2 := hq2.out
     have hq1 := hq1.out
     have hrd := hrd.out
     have htm := htm.out
     go_wp2
     go_ret
     simp
theorem infoInt : (Tryz.prog.info? 3).map (fun i => (i.zero, i.size, i.bytes)) = some (some (.int .i64 0), 1, 8) := by kernel_rfl
abbrev IRow (w : World) (base : Nat) (A : Option Addr) (n c : Nat) (xs : List Int) : Prop := w.ownsRow base 3 1 (.slice A n c) n (xs.map (Value.int .i64))
def GivesI (base : Nat) (w' : World) (e : Ending) (xs : List Int) : Prop := ∃ A c, e = .returned (.slice A xs.length c) ∧ IRow w' base A xs.length c xs
def hitsTo (xs : List Int) (K : Int) (n : Nat) : List Int := ((List.range n).filter fun i => decide (xs.getD i 0 ≤ K)).map fun (i : Nat) => (i : Int)
theorem hitsTo_yes {xs : List Int} {K : Int} {n : Nat} (h : xs.getD n 0 ≤ K) : hitsTo xs K (n + 1) = hitsTo xs K n ++ [(n : Int)] := by
 unfold hitsTo; rw [List.range_succ, List.filter_append, List.map_append, List.filter_cons_of_pos (by simpa using h)]; simp
theorem hitsTo_no {xs : List Int} {K : Int} {n : Nat} (h : ¬ xs.getD n 0 ≤ K) : hitsTo xs K (n + 1) = hitsTo xs K n := by
 unfold hitsTo; rw [List.range_succ, List.filter_append, List.map_append, List.filter_cons_of_neg (by simpa using h)]; simp
def HitInv (w : World) (xs : List Int) (K : Int) (n : Nat) (ov iv : Value) (wr : World) : Prop := ∃ (k L : Nat) (A : Option Addr) (c : Nat), k ≤ n ∧ L ≤ k ∧ iv = .int .i64 k ∧ ov = .slice A L c ∧ IRow wr w.heap.size A L c (hitsTo xs K k) ∧ Chg Nothing w wr
theorem hits_any (F : Nat → Prop) (A : Option Addr) (n c : Nat) (xs : List Int) (K : Int) (w : World) (HA : IntsAt F w A n c xs) (hn9 : n ≤ 1000000000) :
  Calls Tryz.prog 143 #[.slice A n c, .int .i64 K] w fun e w' => GivesI w.heap.size w' e (hitsTo xs K n) ∧ Chg Nothing w w' := by
 have hHA := hid (fun (w' : World) (hc : Chg Nothing w w') => HA.chg hc (fun _ _ _ h => h))
 have hcn := HA.2.1
 have hcx := HA.2.2.1
 clear HA
 go_enter Tryz.func143, Tryz.ntmps143
 go_wp2_with fail
 go_loopw [5, 10] (fun ov iv wr => HitInv w xs K n ov iv wr) (fun _ iv _ => n - (intOf iv).toNat)
 case atStart => exact ⟨0, 0, none, 0, Nat.zero_le _, Nat.zero_le _, rfl, rfl, World.ownsRow_nil _ _ _ _, Chg.refl _ _⟩
 case round =>
  obtain ⟨k, L, A1, c1, hk, hLk, rfl, rfl, hown, hchg⟩ := hrel
  rcases Nat.lt_or_ge k n with hkn | hkn
  ·obtain ⟨ga, oa, rfl, -, hgla, xa⟩ := (hHA.out _ hchg).at_ hkn
   have hk0 : (0 : Int) ≤ (k : Int) := by omega
   have hkI : (k : Int) < (n : Int) := by omega
   have hy := hid (fun h => hitsTo_yes (xs := xs) (K := K) (n := k) h)
   have hno := hid (fun h => hitsTo_no (xs := xs) (K := K) (n := k) h)
   obtain ⟨x, hx⟩ : ∃ x, x = xs.getD k 0 := ⟨_, rfl⟩
   rw [← hx] at xa hy hno
   have hOw := hid hown
   have hCr := hid hchg
   clear hown hchg hx
   by_cases hxk : x ≤ K
   ·have hyy := hid (hy.out hxk)
    go_wp2_with (at_builtin; refine append_one rfl _ _ 37 rfl w.heap.size 3 (.int .i64 0) 8 Tryz.underlying37 infoInt rfl A1 c1 L _ rfl hOw.out (.int .i64 (k : Nat)) rfl rfl ?_ ?_ ?_ ?_)
    ·omega
    ·omega
    ·exact hCr.out.size
    intro A' c' w6 hown6 hc6 hA6
    have hO6 := hid (show IRow w6 w.heap.size A' (L + 1) c' (hitsTo xs K (k + 1)) from by rw [hyy.out]; unfold IRow; rw [List.map_append]; exact hown6)
    have oa6 := own_of hOw.out
    have hC6 := hid (hCr.out.then hc6 (fun i hi h => by have := oa6 _ h; omega))
    clear hown6 hc6 hA6
    go_wp2
    go_roundw
    case rel => exact ⟨k + 1, L + 1, A', c', hkn, by omega, by go_num, rfl, hO6.out, hC6.out⟩
    case measure => simp [intOf]; omega
   ·have hnn := hid (hno.out hxk)
    go_wp2
    go_roundw
    case rel => exact ⟨k + 1, L, A1, c1, hkn, by omega, by go_num, rfl, by rw [hnn.out]; exact hOw.out, hCr.out⟩
    case measure => simp [intOf]; omega
  ·obtain rfl : k = n := by omega
   have hd : decide ((k : Int) < (k : Int)) = false := decide_eq_false (by omega)
   have hl := hid hown.1
   have hOw := hid hown
   have hCr := hid hchg
   clear hown hchg
   go_wp2
   go_ret
   have hL : L = (hitsTo xs K k).length := by have := hl.out; simpa using this.symm
   subst hL
   exact ⟨⟨_, _, rfl, hOw.out⟩, hCr.out⟩
theorem refHits_any (F : Nat → Prop) (A : Option Addr) (n c : Nat) (xs : List Int) (K : Int) (w : World) (HA : IntsAt F w A n c xs) (hn9 : n ≤ 1000000000) :
  Calls Tryz.prog 123 #[.slice A n c, .int .i64 K] w fun e w' => GivesI w.heap.size w' e (hitsTo xs K n) ∧ Chg Nothing w w' := by
 have hHA := hid (fun (w' : World) (hc : Chg Nothing w w') => HA.chg hc (fun _ _ _ h => h))
 have hcn := HA.2.1
 have hcx := HA.2.2.1
 clear HA
 go_enter Tryz.func123, Tryz.ntmps123
 go_wp2_with fail
 go_loopw [5, 6] (fun ov iv wr => HitInv w xs K n ov iv wr) (fun _ iv _ => n - (intOf iv).toNat)
 case atStart => exact ⟨0, 0, none, 0, Nat.zero_le _, Nat.zero_le _, rfl, rfl, World.ownsRow_nil _ _ _ _, Chg.refl _ _⟩
 case round =>
  obtain ⟨k, L, A1, c1, hk, hLk, rfl, rfl, hown, hchg⟩ := hrel
  rcases Nat.lt_or_ge k n with hkn | hkn
  ·obtain ⟨ga, oa, rfl, -, hgla, xa⟩ := (hHA.out _ hchg).at_ hkn
   have hk0 : (0 : Int) ≤ (k : Int) := by omega
   have hkI : (k : Int) < (n : Int) := by omega
   have hy := hid (fun h => hitsTo_yes (xs := xs) (K := K) (n := k) h)
   have hno := hid (fun h => hitsTo_no (xs := xs) (K := K) (n := k) h)
   obtain ⟨x, hx⟩ : ∃ x, x = xs.getD k 0 := ⟨_, rfl⟩
   rw [← hx] at xa hy hno
   have hOw := hid hown
   have hCr := hid hchg
   clear hown hchg hx
   by_cases hxk : x ≤ K
   ·have hyy := hid (hy.out hxk)
    go_wp2_with (at_builtin; refine append_one rfl _ _ 37 rfl w.heap.size 3 (.int .i64 0) 8 Tryz.underlying37 infoInt rfl A1 c1 L _ rfl hOw.out (.int .i64 (k : Nat)) rfl rfl ?_ ?_ ?_ ?_)
    ·omega
    ·omega
    ·exact hCr.out.size
    intro A' c' w6 hown6 hc6 hA6
    have hO6 := hid (show IRow w6 w.heap.size A' (L + 1) c' (hitsTo xs K (k + 1)) from by rw [hyy.out]; unfold IRow; rw [List.map_append]; exact hown6)
    have oa6 := own_of hOw.out
    have hC6 := hid (hCr.out.then hc6 (fun i hi h => by have := oa6 _ h; omega))
    clear hown6 hc6 hA6
    go_wp2
    go_roundw
    case rel => exact ⟨k + 1, L + 1, A', c', hkn, by omega, by go_num, rfl, hO6.out, hC6.out⟩
    case measure => simp [intOf]; omega
   ·have hnn := hid (hno.out hxk)
    go_wp2
    go_roundw
    case rel => exact ⟨k + 1, L, A1, c1, hkn, by omega, by go_num, rfl, by rw [hnn.out]; exact hOw.out, hCr.out⟩
    case measure => simp [intOf]; omega
  ·obtain rfl : k = n := by omega
   have hd : decide ((k : Int) < (k : Int)) = false := decide_eq_false (by omega)
   have hl := hid hown.1
   have hOw := hid hown
   have hCr := hid hchg
   clear hown hchg
   go_wp2
   go_ret
   have hL : L = (hitsTo xs K k).length := by have := hl.out; simpa using this.symm
   subst hL
   exact ⟨⟨_, _, rfl, hOw.out⟩, hCr.out⟩
theorem sizeTo_full (x : Cls) : ∀ k, sizeTo x k = k → ∀ i, i < k → x.getLsbD i = true
 | 0, _, i, hi => by omega
 | k + 1, h, i, hi => by
  have h1 := sizeTo_succ x k
  have h2 := sizeTo_le x k
  by_cases hk : x.getLsbD k = true
  ·rw [if_pos hk] at h1
   rcases Nat.lt_or_ge i k with h3 | h3
   ·exact sizeTo_full x k (by omega) i h3
   ·obtain rfl : i = k := by omega
    exact hk
  ·rw [if_neg hk] at h1; omega
theorem sizeTo_all {x : Cls} : ∀ k, (∀ i, i < k → x.getLsbD i = true) → sizeTo x k = k
 | 0, _ => rfl
 | k + 1, h => by
  rw [sizeTo_succ, if_pos (h k (by omega)), sizeTo_all k (fun i hi => h i (by omega))]
theorem size_full (x : Cls) : sizeC x = 256 ↔ x = fullC := by
 constructor
 ·intro h
  exact cls_ext fun i hi => by rw [sizeTo_full x 256 h i hi, fullC_get hi]
 ·intro h
  subst h
  exact sizeTo_all 256 fun i hi => fullC_get hi
set_option maxRecDepth 20000 in
theorem refFree_any (x : Cls) (w : World) : Calls Tryz.prog 130 #[encC x] w fun e w' => e = .returned (.bool (decide (x = fullC))) ∧ Chg Nothing w w' := by
 have hS := hid (fun w => refSize_any x w)
 have hle : sizeC x ≤ 256 := sizeTo_le x 256
 have hf := hid (size_full x)
 unfold encC at hS ⊢
 generalize hs : sizeC x = s at hS hle hf
 clear hs
 have hC := hid ((Chg.refl Nothing w).alloc (.cells #[.int .u64 (wd x 0), .int .u64 (wd x 1), .int .u64 (wd x 2), .int .u64 (wd x 3)] 84))
 go_enter Tryz.func130, Tryz.ntmps130
 go_wp2_with fail
 refine (hS.out _).mono ?_
 rintro e w1 ⟨rfl, hc1⟩
 go_wp2
 go_ret
 refine ⟨?_, hC.out.trans hc1⟩
 have := hf.out
 by_cases hx : s = 256
 ·simp [hx, this.1 hx]
 ·have h2 : ¬ x = fullC := fun e => hx (this.2 e)
  simp [h2]; omega
theorem samePlaces_any (F G : Nat → Prop) (A B : Option Addr) (n c m d : Nat) (xs ys : List Int) (w : World) (h : IntsAt F w A n c xs) (h' : IntsAt G w B m d ys) :
  Calls Tryz.prog 19 #[.slice A n c, .slice B m d] w fun e w' => e = .returned (.bool (decide (xs = ys))) ∧ ∃ q, w' = w.drewN q := by
 have hl1 := h.2.2.2.1
 have hl2 := h'.2.2.2.1
 have hn := h.2.1
 have hc := h.2.2.1
 have hm := h'.2.1
 have hd := h'.2.2.1
 have H := hid h; clear h
 have H' := hid h'; clear h'
 by_cases hnm : n = m
 ·subst hnm
  have HL1 := hid hl1
  have HL2 := hid hl2; clear hl1 hl2
  go_enter Tryz.func19, Tryz.ntmps19
  go_wp2_with fail
  go_loopw [5] (fun i wr => ∃ k q, k ≤ n ∧ i = .int .i64 (k : Nat) ∧ wr = w.drewN q ∧ Hid (xs.take k = ys.take k)) (fun i _ => n - (intOf i).toNat)
  case atStart => exact ⟨0, 0, Nat.zero_le _, rfl, rfl, hid rfl⟩
  case round =>
   obtain ⟨k, q, hk, rfl, rfl, htk⟩ := hrel
   by_cases hlt : k < n
   ·obtain ⟨g, o, rfl, _, _, hc1⟩ := H.out.at_ hlt
    obtain ⟨g2, o2, rfl, _, _, hc2⟩ := H'.out.at_ hlt
    have t1 := hid (take_succU (xs := xs) (k := k) (by rw [HL1.out]; exact hlt))
    have t2 := hid (take_succU (xs := ys) (k := k) (by rw [HL2.out]; exact hlt))
    have u1 := hid (rfl : xs.getD k 0 = xs.getD k 0)
    generalize hx : xs.getD k 0 = x at hc1 t1
    generalize hy : ys.getD k 0 = y at hc2 t2
    have HX := hid hx; clear hx
    have HY := hid hy; clear hy
    by_cases hxy : x = y
    ·subst hxy
     go_wp2
     go_quiet (fail)
     go_wp2
     go_roundw
     case rel => exact ⟨k + 1, _, by omega, by go_num, rfl, hid (by rw [t1.out, t2.out, htk.out])⟩
     case measure => simp [intOf]; omega
    ·have hne : xs ≠ ys := fun e => hxy (by rw [← HX.out, ← HY.out, e])
     go_wp2
     go_quiet (fail)
     go_wp2
     go_ret
     exact ⟨by simp [hne], drewU _ _ _⟩
   ·have h1 : xs = ys := by
     have := htk.out
     rw [List.take_of_length_le (by rw [HL1.out]; omega), List.take_of_length_le (by rw [HL2.out]; omega)] at this
     exact this
    go_wp2
    go_ret
    exact ⟨by simp [h1], q, rfl⟩
 ·have hne : xs ≠ ys := fun e => hnm (by rw [← hl1, ← hl2, e])
  have hnm' : n < m ∨ m < n := by omega
  clear hl1 hl2 hnm
  rcases hnm' with hnm | hnm
  all_goals
   go_enter Tryz.func19, Tryz.ntmps19
   go_wp2_with fail
   go_ret
   exact ⟨by simp [hne], 0, rfl⟩
theorem own_low {w : World} {b b' : Nat} {e : TypeId} {sz n c : Nat} {A : Option Addr} {vs : List Value} (h : w.ownsRow b e sz (.slice A n c) n vs) (hb : b' ≤ b) : w.ownsRow b' e sz (.slice A n c) n vs := by
 refine ⟨h.1, ?_⟩
 rcases h.2 with hn | ⟨g, cap, cur, e1, hb1, rest⟩
 ·exact .inl hn
 ·exact .inr ⟨g, cap, cur, e1, by omega, rest⟩
theorem sizeCls : (Tryz.prog.info? 84).map (·.size) = some 4 := by kernel_rfl
def WhInv (w : World) (xs : List Cls) (v : Cls) (n : Nat) (ov iv : Value) (wr : World) : Prop := ∃ (k L : Nat) (A : Option Addr) (c : Nat), k ≤ n ∧ L ≤ k ∧ iv = .int .i64 k ∧ ov = .slice A L c ∧ IRow wr (w.heap.size + 2) A L c (whereTo xs v k) ∧ CBox wr (w.heap.size + 1) v ∧ Chg Nothing w wr
theorem leafWhere_any (F : Nat → Prop) (A : Option Addr) (n c : Nat) (xs : List Cls) (K : Int) (v : Cls) (w : World) (H : ClsRow F w A n c xs) (hl : xs.length = n) (hn9 : n ≤ 1000000000) :
  Calls Tryz.prog 99 #[.agg #[.slice A n c, .int .i64 K], .agg #[.int .u64 (wd v 0), .int .u64 (wd v 1), .int .u64 (wd v 2), .int .u64 (wd v 3)]] w fun e w' => GivesI w.heap.size w' e (whereTo xs v n) ∧ Chg Nothing w w' := by
 have HH := hid (fun (w' : World) (hc : Chg Nothing w w') => H.chg hc (fun _ _ _ h => h))
 have hlh := hid hl
 have hmx := H.max
 have hle := H.le
 clear H hl
 go_enter Tryz.func99, Tryz.ntmps99
 go_wp2_with fail
 go_loopw [5, 11] (fun ov iv wr => WhInv w xs v n ov iv wr) (fun _ iv _ => n - (intOf iv).toNat)
 case atStart => exact ⟨0, 0, none, 0, Nat.zero_le _, Nat.zero_le _, rfl, rfl, World.ownsRow_nil _ _ _ _, by have := Blk.new (w.alloc (.cells #[.slice A n c, .int .i64 K] 34)) (cellsC v) 84; rwa [World.size_alloc] at this, ((Chg.refl _ _).alloc _).alloc _⟩
 case round =>
  obtain ⟨k, L, A1, c1, hk, hLk, rfl, rfl, hown, hbx, hchg⟩ := hrel
  rcases Nat.lt_or_ge k n with hkn | hkn
  ·obtain ⟨g, o, rfl, -, hgl, c0, c1', c2, c3⟩ := ClsRow.four (HH.out _ hchg) hlh.out hkn
   have hk0 : (0 : Int) ≤ (k : Int) := by omega
   have hkI : (k : Int) < (n : Int) := by omega
   have hy := hid (fun h => whereTo_yes (xs := xs) (c := v) (n := k) h)
   have hno := hid (fun h => whereTo_no (xs := xs) (c := v) (n := k) h)
   obtain ⟨y, hyd⟩ : ∃ y, y = xs.getD k 0 := ⟨_, rfl⟩
   rw [← hyd] at c0 c1' c2 c3 hy hno
   have hOw := hid hown
   have hCr := hid hchg
   have hBX := hid hbx
   clear hown hchg hbx hyd
   have hz := Blk.new wr #[.int .u64 0, .int .u64 0, .int .u64 0, .int .u64 0] 84
   have hZ := hid hz
   clear hz
   go_wp2_with (with_reducible refine halt_op (.store 84 (.tmp 7) (.tmp 15)) ?_)
   unfold Halted
   refine store_blk rfl 84 (.tmp 7) (.tmp 15) (by rfl) _ (by rfl) _ (by rfl) hZ.out (by rfl) (by exact sizeCls) (by rfl) ?_
   intro w2 hB2 hc2
   have hcz := hid (((Chg.refl Nothing wr).alloc (.cells #[.int .u64 0, .int .u64 0, .int .u64 0, .int .u64 0] 84)).then hc2 (fun i hi h => absurd (show i = wr.heap.size from h) (by omega)))
   have hC2 := hid (hCr.out.trans hcz.out)
   have hB3 := hid (hBX.out.chg hcz.out id)
   have hO2 := hid (own_chg hOw.out hcz.out (fun _ _ h => h))
   obtain ⟨r0, r1, r2, r3, -, -, -, -, hlt1⟩ := CBox.at_ (show CBox w2 wr.heap.size y from hB2)
   obtain ⟨s0, s1, s2, s3, -, -, -, -, hlt2⟩ := CBox.at_ hB3.out
   have hq := eq_class y v
   clear hB2 hc2 hZ hcz hOw hCr hBX c0 c1' c2 c3
   by_cases he : y = v
   ·rw [decide_eq_true he] at hq
    unfold encC at hq
    have hyy := hid (hy.out he)
    replace he := hid he
    go_wp2_with (at_builtin; refine append_one rfl _ _ 37 rfl (w.heap.size + 2) 3 (.int .i64 0) 8 Tryz.underlying37 infoInt rfl A1 c1 L _ rfl hO2.out (.int .i64 (k : Nat)) rfl rfl ?_ ?_ ?_ ?_)
    ·omega
    ·omega
    ·have := hB3.out.lt; omega
    intro A' c' w6 hown6 hc6 hA6
    have hO6 := hid (show IRow w6 (w.heap.size + 2) A' (L + 1) c' (whereTo xs v (k + 1)) from by rw [hyy.out]; unfold IRow; rw [List.map_append]; exact hown6)
    have oa6 := own_of hO2.out
    have hC6 := hid (hC2.out.then hc6 (fun i hi h => by have := oa6 _ h; omega))
    have hB6 := hid (hB3.out.chg hc6 (fun h => by have := oa6 _ h; omega))
    clear hown6 hc6 hA6 r0 r1 r2 r3 s0 s1 s2 s3
    go_wp2
    go_roundw
    case rel => exact ⟨k + 1, L + 1, A', c', hkn, by omega, by go_num, rfl, hO6.out, hB6.out, hC6.out⟩
    case measure => simp [intOf]; omega
   ·rw [decide_eq_false he] at hq
    unfold encC at hq
    have hnn := hid (hno.out he)
    replace he := hid he
    go_wp2
    go_roundw
    case rel => exact ⟨k + 1, L, A1, c1, hkn, by omega, by go_num, rfl, by rw [hnn.out]; exact hO2.out, hB3.out, hC2.out⟩
    case measure => simp [intOf]; omega
  ·obtain rfl : k = n := by omega
   have hd : decide ((k : Int) < (k : Int)) = false := decide_eq_false (by omega)
   have hl := hid hown.1
   have hOw := hid hown
   have hCr := hid hchg
   clear hown hchg hbx
   go_wp2
   go_ret
   have hL : L = (whereTo xs v k).length := by have := hl.out; simpa using this.symm
   subst hL
   exact ⟨⟨_, _, rfl, own_low hOw.out (by omega)⟩, hCr.out⟩
theorem classFullM (w : World) : Calls Tryz.prog 135 #[] w fun e w' => e = .returned (.agg #[.int .u64 (wd fullC 0), .int .u64 (wd fullC 1), .int .u64 (wd fullC 2), .int .u64 (wd fullC 3)]) ∧ Chg Nothing w w' := classFull_any w
theorem leafBound_any (F : Nat → Prop) (A : Option Addr) (n c : Nat) (xs : List Cls) (K : Int) (w : World) (H : ClsRow F w A n c xs) (hl : xs.length = n) (hn9 : n ≤ 1000000000) :
  Calls Tryz.prog 145 #[.agg #[.slice A n c, .int .i64 K]] w fun e w' => e = .returned (.int .i64 (boundN xs)) ∧ Chg Nothing w w' := by
 have hX := Blk.new w #[.slice A n c, .int .i64 K] 34
 have x0 := hX.cell 0 rfl
 have x1 := hX.cell 1 rfl
 have hlx := hX.lt
 have hW := hid (fun (m : Calm (w.alloc (.cells #[.slice A n c, .int .i64 K] 34))) => (leafWhere_any F A n c xs K fullC m.val (H.chg (((Chg.refl Nothing w).alloc _).trans m.chg) (fun _ _ _ h => h)) hl hn9).mono (R' := fun e w' => ∃ A5 c5, e = .returned (.slice A5 (whereTo xs fullC n).length c5) ∧ Chg Nothing m.val w') (fun e w' h => by obtain ⟨⟨A5, c5, e5, -⟩, hc⟩ := h; exact ⟨A5, c5, e5, hc⟩))
 have hS := hid (fun (m : Calm (w.alloc (.cells #[.slice A n c, .int .i64 K] 34))) => (⟨Calm.cell hlx x0 m, Calm.cell hlx x1 m⟩ : m.val.cell? ⟨w.heap.size, 0, none⟩ = some (.slice A n c) ∧ m.val.cell? ⟨w.heap.size, 1, none⟩ = some (.int .i64 K)))
 have hd0 := hid ((Chg.refl Nothing (w.alloc (.cells #[.slice A n c, .int .i64 K] 34))).drew)
 have hw0 := hid ((Chg.refl Nothing w).alloc (.cells #[.slice A n c, .int .i64 K] 34))
 have hwl := whereTo_len xs fullC n
 have hb := hid (show boundN xs = (n : Int) - ((whereTo xs fullC n).length : Int) from by unfold boundN; rw [hl])
 have hwp : IntKind.i64.wrap ((n : Int) - ((whereTo xs fullC n).length : Int)) = (n : Int) - ((whereTo xs fullC n).length : Int) := by rw [IntKind.wrap_i64]; omega
 clear hX hl H
 go_enter Tryz.func145, Tryz.ntmps145
 go_wp2_with fail
 generalize w.alloc (.cells #[.slice A n c, .int .i64 K] 34) = W at *
 generalize (whereTo xs fullC n) = ys at *
 go_region_held3 (fun w' => w'.cell? ⟨w.heap.size, 0, none⟩ = some (.slice A n c) ∧ w'.cell? ⟨w.heap.size, 1, none⟩ = some (.int .i64 K))
  (first | exact hS.out ⟨_, hd0.out⟩ | exact hS.out m1 | exact hS.out ⟨_, m1.chg.trans hcy⟩)
  (first
  | (go_at_call 135; with_reducible refine (classFullM _).mono ?_; rintro e w3 ⟨rfl, hcx⟩; obtain ⟨m1, rfl⟩ := Calm.step hd0.out hcx; clear hcx)
  | (go_at_call 99; with_reducible refine (hW.out m1).mono ?_; rintro e w5 ⟨A5, c5, rfl, hcy⟩))
 all_goals
  go_wp2
  go_ret
  exact ⟨by rw [hb.out]; first | rfl | (show Ending.returned (Value.int .i64 (IntKind.i64.wrap _)) = _; rw [hwp]), hw0.out.trans (m1.chg.trans hcy)⟩
end Go.Proofs.YtoelilejohfglaaGreat
namespace Go.Proofs.YtoelilejohfglaaGreat
open Go.RowKit
set_option linter.unusedVariables false
set_option linter.unusedSimpArgs false
open Go.ChangeMaps (setBlock heap_setBlock_same heap_setBlock_other)
theorem clsArr : WideMaps.ArrKey Tryz.prog 84 82 4 := ⟨Tryz.underlying84, by kernel_rfl, by kernel_rfl, by kernel_rfl⟩
theorem lawCls : Maps.Keyed Tryz.prog 84 := Maps.Keyed.of_law clsArr.law
theorem typesSome : ∃ m, Tryz.prog.types.size = m + 1 := ⟨_, (Nat.succ_pred_eq_of_pos (of_decide_eq_true (by kernel_rfl) : 0 < Tryz.prog.types.size)).symm⟩
theorem wd_wf (x : Cls) (k : Nat) : (Lit.int .u64 (wd x k)).wf = true := by
 have h0 := wd_lo x k
 have h1 := wd_hi x k
 simp [Lit.wf, IntKind.min, IntKind.max, IntKind.bits, IntKind.signed]
 omega
theorem keyCls (x : Cls) : ∃ l, keyOf Tryz.prog 84 (.agg #[.int .u64 (wd x 0), .int .u64 (wd x 1), .int .u64 (wd x 2), .int .u64 (wd x 3)]) = some l := by
 have hkt := clsArr.keyType typesSome
 obtain ⟨m, hm⟩ := typesSome
 refine ⟨.string (keyBytes [.int .u64 (wd x 0), .int .u64 (wd x 1), .int .u64 (wd x 2), .int .u64 (wd x 3)]), ?_⟩
 unfold keyOf
 simp only [clsArr.hu]
 rw [if_pos (by simp [hkt, Value.formed, clsArr.hu, clsArr.size]), hm]
 unfold Program.keyLits
 simp only [clsArr.hu, Value.cells]
 rw [if_pos (by rw [clsArr.size]; rfl), show List.range 4 = [0, 1, 2, 3] from rfl, List.mapM_cons, List.mapM_cons, List.mapM_cons, List.mapM_cons, List.mapM_nil]
 simp [clsArr.one, Program.keyLits, Tryz.underlying82, wd_wf]
theorem undMap : Tryz.prog.underlying 126 = some (.map 84 4) := Tryz.underlying126
abbrev litC (x : Cls) : Value := .agg #[.int .u64 (wd x 0), .int .u64 (wd x 1), .int .u64 (wd x 2), .int .u64 (wd x 3)]
def SetM (w : World) (b n : Nat) (S : List Cls) : Prop := ∃ es clock, w.heap[b]? = some (.map es clock) ∧ es.size ≤ n ∧ (∀ e ∈ es.toList, ∃ x, e.key = litC x ∧ e.val = .bool true) ∧ ∀ x, x ∈ S ↔ ∃ e ∈ es.toList, e.key = litC x
theorem SetM.made (w : World) : SetM (w.alloc (.map #[] 0)) w.heap.size 0 [] := ⟨#[], 0, (MapKept.heap_alloc w _).1, Nat.le_refl _, by simp, by simp⟩
theorem SetM.chg {S' : Nat → Prop} {w w' : World} {b n : Nat} {S : List Cls} (h : SetM w b n S) (hc : Chg S' w w') (hn : ¬ S' b) : SetM w' b n S := by
 obtain ⟨es, clock, hb, h2, h3, h4⟩ := h
 exact ⟨es, clock, (hc.block b (Array.getElem?_eq_some_iff.1 hb).1 hn).trans hb, h2, h3, h4⟩
theorem SetM.lt {w : World} {b n : Nat} {S : List Cls} (h : SetM w b n S) : b < w.heap.size := by
 obtain ⟨es, clock, hb, -⟩ := h
 exact (Array.getElem?_eq_some_iff.1 hb).1
theorem SetM.keys {es : Array MapEntry} (h3 : ∀ e ∈ es.toList, ∃ x, e.key = litC x ∧ e.val = .bool true) : ∀ e ∈ es.toList, ∃ l, keyOf Tryz.prog 84 e.key = some l := fun e he => by
 obtain ⟨x, hx, -⟩ := h3 e he
 rw [hx]; exact keyCls x
theorem SetM.look {w : World} {b n : Nat} {S : List Cls} (h : SetM w b n S) (x : Cls) : (Instr.lookup 126 (.map (some b)) (litC x) false).run Tryz.prog w = .ok (.bool (decide (x ∈ S))) w := by
 obtain ⟨es, clock, hb, h2, h3, h4⟩ := h
 obtain ⟨l, hkey⟩ := keyCls x
 rcases lawCls.find w hkey es.toList (SetM.keys h3) with ⟨h5, h6⟩ | ⟨j, e0, h5, h6, h7⟩
 ·rw [decide_eq_false (fun hx => by obtain ⟨e, he, hk⟩ := (h4 x).1 hx; exact h6 e he hk)]
  simp [Instr.lookup, run_underlying undMap, MapKept.run_getObj_map hb, lawCls.check w _ hkey, h5, Result.andThen]
 ·have hm := List.mem_of_getElem? h6
  obtain ⟨y, -, hv⟩ := h3 e0 hm
  rw [decide_eq_true ((h4 x).2 ⟨e0, hm, h7⟩)]
  simp [Instr.lookup, run_underlying undMap, MapKept.run_getObj_map hb, lawCls.check w _ hkey, h5, hv, Result.andThen]
theorem entry_eq (e : MapEntry) (k v : Value) (h1 : e.key = k) (h2 : e.val = v) : ({ e with key := k, val := v } : MapEntry) = e := by
 cases e; simp only at h1 h2; rw [h1, h2]
theorem SetM.put {w : World} {b n : Nat} {S : List Cls} (h : SetM w b n S) (hn : n < maxLen) (x : Cls) : ∃ w', (Instr.mapUpdate 126 (.map (some b)) (litC x) (.bool true)).run Tryz.prog w = .ok () w' ∧ SetM w' b (n + 1) (x :: S) ∧ Chg (One b) w w' := by
 obtain ⟨es, clock, hb, h2, h3, h4⟩ := h
 obtain ⟨l, hkey⟩ := keyCls x
 have hchg : ∀ o, Chg (One b) w (setBlock w b o) := fun o => ⟨rfl, rfl, rfl, by simp [setBlock], fun i _ hi => heap_setBlock_other hb _ (fun e => hi e)⟩
 have hroom : es.size < maxLen := by omega
 rcases lawCls.find w hkey es.toList (SetM.keys h3) with ⟨h5, h6⟩ | ⟨j, e0, h5, h6, h7⟩
 ·refine ⟨setBlock w b (.map (es.push ⟨litC x, .bool true, clock⟩) (clock + 1)), ?_, ⟨_, _, heap_setBlock_same hb _, by simp; omega, ?_, ?_⟩, hchg _⟩
  ·simp [Instr.mapUpdate, run_underlying undMap, MapKept.run_getObj_map hb, lawCls.check w false hkey, h5, MapKept.run_setObj_map _ hb, Result.andThen, setBlock]
  ·intro e he
   simp only [Array.toList_push, List.mem_append, List.mem_singleton] at he
   rcases he with he | rfl
   ·exact h3 e he
   ·exact ⟨x, rfl, rfl⟩
  ·intro y
   rw [List.mem_cons]
   simp only [Array.toList_push, List.mem_append, List.mem_singleton]
   constructor
   ·rintro (rfl | hy)
    ·exact ⟨_, .inr rfl, rfl⟩
    ·obtain ⟨e, he, hk⟩ := (h4 y).1 hy; exact ⟨e, .inl he, hk⟩
   ·rintro ⟨e, he | rfl, hk⟩
    ·exact .inr ((h4 y).2 ⟨e, he, hk⟩)
    ·exact .inl (encC_inj hk).symm
 ·have hj : es[j]? = some e0 := by simpa using h6
  have hm := List.mem_of_getElem? h6
  have hmod : es.modify j (fun e' => { e' with key := litC x, val := .bool true }) = es := by
   obtain ⟨y, -, hv⟩ := h3 e0 hm
   apply Array.ext_getElem?
   intro i
   rw [Array.getElem?_modify]
   split
   ·rename_i hi; subst hi
    rw [hj]
    simp only [Option.map_some]
    exact congrArg some (entry_eq e0 _ _ h7 hv)
   ·rfl
  refine ⟨setBlock w b (.map es clock), ?_, ⟨es, clock, heap_setBlock_same hb _, by omega, h3, fun y => ?_⟩, hchg _⟩
  ·have hs := MapKept.run_setObj_map (P := Tryz.prog) (.map es clock) hb
   simp [Instr.mapUpdate, run_underlying undMap, MapKept.run_getObj_map hb, lawCls.check w false hkey, h5, hj, h7, lawCls.stays w hkey, hs, Result.andThen, setBlock, hmod]
  ·rw [List.mem_cons, h4 y]
   constructor
   ·rintro (rfl | h)
    ·exact ⟨e0, hm, h7⟩
    ·exact h
   ·exact .inr
theorem wpList_set_put {w : World} {ops : Array Oper} {rest : List Oper} {o : Oper} {a : Act} {Q : Exit → Act → World → Prop} (hg : o.guard = none) (m x v : Operand) (hop : o.op = Op.mapUpdate 126 m x v ∨ o.op = Op.insert 126 m x v)
  {b n : Nat} {S : List Cls} (hm : a.eval m = .map (some b)) (h : SetM w b n S) (hn : n < maxLen) (c : Cls) (hx : a.eval x = litC c) (hv : a.eval v = .bool true)
  (hK : ∀ w', SetM w' b (n + 1) (c :: S) → Chg (One b) w w' → wpList Tryz.prog ops Q rest (a.put o.dst undef) w') : wpList Tryz.prog ops Q (o :: rest) a w := by
 refine wpList_plain hg fun K' hK' => ?_
 obtain ⟨w', hrun, r1, r2⟩ := h.put hn c
 unfold Oper.wp
 rcases hop with hop | hop
 all_goals
  simp [execOp, hop, hm, hx, hv, hrun, Result.andThen]
  exact hK' _ _ (hK w' r1 r2)
end Go.Proofs.YtoelilejohfglaaGreat
namespace Go.Proofs.YtoelilejohfglaaGreat
open Go.RowKit
set_option linter.unusedVariables false
set_option linter.unusedSimpArgs false
abbrev CRow (w : World) (base : Nat) (A : Option Addr) (n c : Nat) (xs : List Cls) : Prop := w.ownsRow base 84 4 (.slice A n c) n (xs.flatMap clsL)
def KnInv (w : World) (xs : List Cls) (n : Nat) (ov iv : Value) (wr : World) : Prop := ∃ (k : Nat) (A : Option Addr) (c : Nat) (S : List Cls), k ≤ n ∧ iv = .int .i64 k ∧ ov = .slice A (kindsTo xs k).length c ∧ CRow wr (w.heap.size + 2) A (kindsTo xs k).length c (kindsTo xs k) ∧ SetM wr (w.heap.size + 1) (k + 1) S ∧ Hid (∀ x, x ∈ S ↔ x ∈ fullC :: kindsTo xs k) ∧ Chg Nothing w wr
theorem kinds_in {xs : List Cls} {k : Nat} (h : xs.getD k 0 ∈ fullC :: kindsTo xs k) : kindsTo xs (k + 1) = kindsTo xs k := by
 rw [show kindsTo xs (k + 1) = if xs.getD k 0 ∈ fullC :: kindsTo xs k then kindsTo xs k else kindsTo xs k ++ [xs.getD k 0] from rfl, if_pos h]
theorem kinds_new {xs : List Cls} {k : Nat} (h : ¬ xs.getD k 0 ∈ fullC :: kindsTo xs k) : kindsTo xs (k + 1) = kindsTo xs k ++ [xs.getD k 0] := by
 rw [show kindsTo xs (k + 1) = if xs.getD k 0 ∈ fullC :: kindsTo xs k then kindsTo xs k else kindsTo xs k ++ [xs.getD k 0] from rfl, if_neg h]
theorem clsL_cells (w : World) (y : Cls) (T : TypeId) : ∀ j u, (clsL y)[j]? = some u → (w.alloc (.cells #[.int .u64 (wd y 0), .int .u64 (wd y 1), .int .u64 (wd y 2), .int .u64 (wd y 3)] T)).cell? ((⟨w.heap.size, 0, none⟩ : Addr).add j) = some u := fun j u hj => by
 rw [add_plain, Nat.zero_add]
 refine (Blk.new w _ T).cell j ?_
 rw [← hj]; unfold clsL; simp
theorem leafKinds_any (F : Nat → Prop) (A : Option Addr) (n c : Nat) (xs : List Cls) (K : Int) (w : World) (H : ClsRow F w A n c xs) (hl : xs.length = n) (hn9 : n ≤ 1000000000) :
  Calls Tryz.prog 98 #[.agg #[.slice A n c, .int .i64 K]] w fun e w' => ∃ A' c', e = .returned (.slice A' (kindsL xs).length c') ∧ CRow w' w.heap.size A' (kindsL xs).length c' (kindsL xs) ∧ Chg Nothing w w' := by
 have HH := hid (fun (w' : World) (hc : Chg Nothing w w') => H.chg hc (fun _ _ _ h => h))
 have hlh := hid hl
 have hmx := H.max
 have hle := H.le
 have hmm := @run_makeMap Tryz.prog
 have hX := (Blk.new w #[.slice A n c, .int .i64 K] 34).alloc (.map #[] 0)
 have hX := hid hX
 have hM := SetM.made (w.alloc (.cells #[.slice A n c, .int .i64 K] 34))
 rw [World.size_alloc] at hM
 have hM := hid hM
 have hC0 := hid (((Chg.refl Nothing w).alloc (.cells #[.slice A n c, .int .i64 K] 34)).alloc (.map #[] 0))
 clear H hl
 go_enter Tryz.func98, Tryz.ntmps98
 go_wp2_with fail
 refine (classFullM _).mono ?_
 rintro e w1 ⟨rfl, hc1⟩
 have hX1 := hid (hX.out.chg hc1 id)
 have hM1 := hid (hM.out.chg hc1 id)
 have hC1 := hid (hC0.out.trans hc1)
 clear hX hM hC0 hc1
 go_wp2_with (with_reducible refine halt_op (.insert 126 (.tmp 7) (.tmp 8) (.const (.bool true))) ?_)
 unfold Halted
 refine wpList_set_put rfl _ _ _ (.inr rfl) rfl hM1.out (by decide) fullC rfl rfl ?_
 intro w2 hS2 hc2
 have hX2 := hX1.out.chg hc2 (fun e => absurd (show w.heap.size = w.heap.size + 1 from e) (by omega))
 have hC2 := hid (hC1.out.then hc2 (fun i hi e => absurd (show i = w.heap.size + 1 from e) (by omega)))
 have x0 := hX2.cell 0 (v := .slice A n c) rfl
 have hS2h := hid hS2
 clear hM1 hX1 hC1 hS2 hc2 hX2
 go_wp2_with fail
 go_loopw [4, 13] (fun ov iv wr => KnInv w xs n ov iv wr) (fun _ iv _ => n - (intOf iv).toNat)
 case atStart => exact ⟨0, none, 0, _, Nat.zero_le _, rfl, rfl, World.ownsRow_nil _ _ _ _, hS2h.out, hid (fun x => by simp [kindsTo]), hC2.out⟩
 case round =>
  obtain ⟨k, A1, c1, S, hk, rfl, rfl, hown, hset, hmem, hchg⟩ := hrel
  rcases Nat.lt_or_ge k n with hkn | hkn
  ·obtain ⟨g, o, rfl, -, hgl, c0, c1', c2, c3⟩ := ClsRow.four (HH.out _ hchg) hlh.out hkn
   have hk0 : (0 : Int) ≤ (k : Int) := by omega
   have hkI : (k : Int) < (n : Int) := by omega
   have hyi := hid (fun h => kinds_in (xs := xs) (k := k) h)
   have hyn := hid (fun h => kinds_new (xs := xs) (k := k) h)
   have hkl := kindsTo_len xs k
   obtain ⟨y, hyd⟩ : ∃ y, y = xs.getD k 0 := ⟨_, rfl⟩
   rw [← hyd] at c0 c1' c2 c3 hyi hyn
   have hz := Blk.new wr #[.int .u64 0, .int .u64 0, .int .u64 0, .int .u64 0] 84
   have hZ := hid hz
   have hOw := hid hown
   have hCr := hid hchg
   have hSr := hid hset
   clear hz hown hchg hyd hset
   go_wp2_with (with_reducible refine halt_op (.store 84 (.tmp 6) (.tmp 16)) ?_)
   unfold Halted
   refine store_blk rfl 84 (.tmp 6) (.tmp 16) (by rfl) _ (by rfl) _ (by rfl) hZ.out (by rfl) (by exact sizeCls) (by rfl) ?_
   intro w3 hB3 hc3
   have hcz := hid (((Chg.refl Nothing wr).alloc (.cells #[.int .u64 0, .int .u64 0, .int .u64 0, .int .u64 0] 84)).then hc3 (fun i hi h => absurd (show i = wr.heap.size from h) (by omega)))
   have hC3 := hid (hCr.out.trans hcz.out)
   have hO3 := hid (own_chg hOw.out hcz.out (fun _ _ h => h))
   have hS3 := hid (hSr.out.chg hcz.out id)
   have hlk := hS3.out.look y
   have hmlt := hid (show w.heap.size + 1 < wr.heap.size from hSr.out.lt)
   obtain ⟨r0, r1, r2, r3, -, -, -, -, hlt1⟩ := CBox.at_ (show CBox w3 wr.heap.size y from hB3)
   have hB3h := hid (show CBox w3 wr.heap.size y from hB3)
   clear hB3 hc3 hZ hcz hOw hCr hSr c0 c1' c2 c3
   by_cases hin : y ∈ S
   ·rw [decide_eq_true hin] at hlk
    have hkk := hid (hyi.out ((hmem.out y).1 hin))
    clear hin
    go_wp2_with fail
    go_roundw
    case rel => exact ⟨k + 1, A1, c1, S, hkn, by go_num, by rw [hkk.out], by rw [hkk.out]; exact hO3.out, by obtain ⟨es, ck, h1, h2, h3⟩ := hS3.out; exact ⟨es, ck, h1, by omega, h3⟩, by rw [hkk.out]; exact hmem, hC3.out⟩
    case measure => simp [intOf]; omega
   ·rw [decide_eq_false hin] at hlk
    have hkk := hid (hyn.out (fun h => hin ((hmem.out y).2 h)))
    clear hin
    obtain ⟨L, hL⟩ : ∃ L, L = (kindsTo xs k).length := ⟨_, rfl⟩
    rw [← hL] at hkl hO3 ⊢
    replace hL := hid hL
    go_wp2_with (at_mapUpdate; refine wpList_set_put rfl _ _ _ (.inl rfl) rfl hS3.out (by unfold maxLen; omega) y rfl rfl ?_)
    intro w4 hS4 hc4
    have hB4 := hB3h.out.chg hc4 (fun e => absurd (show wr.heap.size = w.heap.size + 1 from e) (by have := hmlt.out; omega))
    obtain ⟨s0, s1, s2, s3, -, -, -, -, hlt2⟩ := CBox.at_ hB4
    have hO4 := hid (own_chg hO3.out hc4 (fun j hj e => absurd (show j = w.heap.size + 1 from e) (by have := own_of hO3.out j hj; omega)))
    have hC4 := hid (hC3.out.then hc4 (fun i hi e => absurd (show i = w.heap.size + 1 from e) (by omega)))
    have hS4h := hid hS4
    have hbs := hid (show w.heap.size + 2 ≤ w4.heap.size from by have := hS4.lt; omega)
    clear r0 r1 r2 r3 hB4 hc4 hS4 hlk
    go_wp2_with (at_builtin; refine append_gen rfl _ _ 32 rfl (w.heap.size + 2) 84 (.agg #[.int .u64 0, .int .u64 0, .int .u64 0, .int .u64 0]) 4 32 Tryz.underlying32 infoCl rfl (by decide) A1 c1 L _ rfl (own_chg hO4.out ((Chg.refl Nothing w4).alloc _) (fun _ _ h => h)) (some ⟨w4.heap.size, 0, none⟩) 1 1 (clsL y) rfl rfl (fun e => by cases e) (Nat.le_refl _) (fun ad e => by injection e with e; subst e; exact clsL_cells w4 y _) (clsL_one _) ?_ ?_ ?_ ?_)
    ·unfold maxLen; omega
    ·omega
    ·rw [World.size_alloc]; have := hbs.out; omega
    intro A' c' w6 hown6 hc6 hA6
    have hc6' := ((Chg.refl (Of A1) w4).alloc (.cells #[.int .u64 (wd y 0), .int .u64 (wd y 1), .int .u64 (wd y 2), .int .u64 (wd y 3)] 84)).trans hc6
    have oa6 := own_of hO4.out
    have hC6 := hid (hC4.out.then hc6' (fun i hi h => by have := oa6 _ h; omega))
    have hS6 := hid (hS4h.out.chg hc6' (fun h => by have := oa6 _ h; omega))
    have hO6 := hid (show CRow w6 (w.heap.size + 2) A' (kindsTo xs (k + 1)).length c' (kindsTo xs (k + 1)) from by
     rw [hkk.out, List.length_append, ← hL.out]
     unfold CRow
     rw [List.flatMap_append, show [y].flatMap clsL = clsL y from by simp]
     exact hown6)
    have hLn := hid (show (kindsTo xs (k + 1)).length = L + 1 from by rw [hkk.out, List.length_append, ← hL.out]; rfl)
    have hmm6 := hid (show ∀ x, x ∈ y :: S ↔ x ∈ fullC :: kindsTo xs (k + 1) from fun x => by
     rw [hkk.out, ← List.cons_append, List.mem_cons, List.mem_append, hmem.out x, List.mem_singleton]
     exact ⟨fun h => h.elim .inr .inl, fun h => h.elim .inr .inl⟩)
    clear hown6 hc6 hA6 hc6' oa6 s0 s1 s2 s3
    go_wp2
    go_roundw
    case rel => exact ⟨k + 1, A', c', y :: S, hkn, by go_num, by rw [hLn.out], hO6.out, hS6.out, hmm6, hC6.out⟩
    case measure => simp [intOf]; omega
  ·obtain rfl : k = n := by omega
   have hd : decide ((k : Int) < (k : Int)) = false := decide_eq_false (by omega)
   have hOw := hid hown
   have hCr := hid hchg
   have hkl := hid (show kindsTo xs k = kindsL xs from by unfold kindsL; rw [hlh.out])
   clear hown hchg hset hmem
   rw [hkl.out] at hOw ⊢
   go_wp2
   go_ret
   exact ⟨A1, c1, rfl, own_low hOw.out (by omega), hCr.out⟩
def RkInv (w : World) (b : Nat) (A0 : Option Addr) (n0 c0 : Nat) (K : Int) (xs : List Cls) (n : Nat) (ov iv : Value) (wr : World) : Prop := ∃ (k : Nat) (A : Option Addr) (c : Nat), k ≤ n ∧ iv = .int .i64 k ∧ ov = .slice A (kindsTo xs k).length c ∧ CRow wr (b + 1) A (kindsTo xs k).length c (kindsTo xs k) ∧ Blk wr b #[.slice A0 n0 c0, .int .i64 K] 34 ∧ Chg Nothing w wr
def RkIn (w1 : World) (y : Cls) (ks : List Cls) (mv kv : Value) (wr : World) : Prop := ∃ (j : Nat) (b : Bool) (q : Nat), j ≤ ks.length ∧ kv = .int .i64 j ∧ mv = .bool b ∧ Hid (b = true ↔ y = fullC ∨ ∃ i, i < j ∧ ks.getD i 0 = y) ∧ wr = w1.drewN q
theorem refKinds_any (F : Nat → Prop) (A : Option Addr) (n c : Nat) (xs : List Cls) (K : Int) (w : World) (H : ClsRow F w A n c xs) (hl : xs.length = n) (hn9 : n ≤ 1000000000) :
  Calls Tryz.prog 85 #[.agg #[.slice A n c, .int .i64 K]] w fun e w' => ∃ A' c', e = .returned (.slice A' (kindsL xs).length c') ∧ CRow w' w.heap.size A' (kindsL xs).length c' (kindsL xs) ∧ Chg Nothing w w' := by
 have HH := hid (fun (w' : World) (hc : Chg Nothing w w') => H.chg hc (fun _ _ _ h => h))
 have hlh := hid hl
 have hmx := H.max
 have hle := H.le
 have hX := hid (Blk.new w #[.slice A n c, .int .i64 K] 34)
 clear H hl
 go_enter Tryz.func85, Tryz.ntmps85
 go_wp2_with fail
 go_loopw [3, 4] (fun ov iv wr => RkInv w w.heap.size A n c K xs n ov iv wr) (fun _ iv _ => n - (intOf iv).toNat)
 case atStart => exact ⟨0, none, 0, Nat.zero_le _, rfl, rfl, World.ownsRow_nil _ _ _ _, hX.out, (Chg.refl _ _).alloc _⟩
 case round =>
  obtain ⟨k, A1, c1, hk, rfl, rfl, hown, hbx, hchg⟩ := hrel
  have x0 := hbx.cell 0 (v := .slice A n c) rfl
  have hxl := hbx.lt
  rcases Nat.lt_or_ge k n with hkn | hkn
  ·obtain ⟨g, o, rfl, -, hgl, c0, c1', c2, c3⟩ := ClsRow.four (HH.out _ hchg) hlh.out hkn
   have hk0 : (0 : Int) ≤ (k : Int) := by omega
   have hkI : (k : Int) < (n : Int) := by omega
   have hyi := hid (fun h => kinds_in (xs := xs) (k := k) h)
   have hyn := hid (fun h => kinds_new (xs := xs) (k := k) h)
   have hkl := kindsTo_len xs k
   obtain ⟨y, hyd⟩ : ∃ y, y = xs.getD k 0 := ⟨_, rfl⟩
   rw [← hyd] at c0 c1' c2 c3 hyi hyn
   have hF := hid (fun w => (show Calls Tryz.prog 130 #[litC y] w fun e w' => e = .returned (.bool (decide (y = fullC))) ∧ Chg Nothing w w' from refFree_any y w))
   have hOw := hid hown
   have hCr := hid hchg
   have hBx := hid hbx
   clear hown hchg hbx hyd
   go_wp2_with fail
   refine (hF.out _).mono ?_
   rintro e w1 ⟨rfl, hc1⟩
   have hO1 := hid (own_chg hOw.out hc1 (fun _ _ h => h))
   have hC1 := hid (hCr.out.trans hc1)
   have hB1 := hid (hBx.out.chg hc1 id)
   have hR1 := hid (RowAt.of_own hO1.out)
   have x0 := hB1.out.cell 0 (v := .slice (some ⟨g, o, none⟩) n c) rfl
   have hxl := hB1.out.lt
   have d0 := (hc1.cells.1 _ _ hgl).trans c0
   have d1 := (hc1.cells.1 _ _ hgl).trans c1'
   have d2 := (hc1.cells.1 _ _ hgl).trans c2
   have d3 := (hc1.cells.1 _ _ hgl).trans c3
   replace hgl := Nat.lt_of_lt_of_le hgl hc1.size
   clear hOw hCr hBx hc1 c0 c1' c2 c3
   obtain ⟨ks, hks⟩ : ∃ ks, ks = kindsTo xs k := ⟨_, rfl⟩
   rw [← hks] at hkl hO1 hR1 hyi hyn ⊢
   replace hks := hid hks
   rename_i wr0
   go_wp2_with fail
   go_loopw [5, 6] (fun mv kv wr => RkIn w1 y ks mv kv wr) (fun _ kv _ => ks.length - (intOf kv).toNat)
   case atStart => exact ⟨0, decide (y = fullC), 0, Nat.zero_le _, rfl, rfl, hid (by simp), rfl⟩
   case round =>
    obtain ⟨j, b, q, hj, rfl, rfl, hb, rfl⟩ := hrel
    rcases Nat.lt_or_ge j ks.length with hjl | hjl
    ·obtain ⟨g2, o2, rfl, -, hgl2, z0, z1, z2, z3⟩ := ClsRow.four hR1.out rfl hjl
     have hj0 : (0 : Int) ≤ (j : Int) := by omega
     have hjI : (j : Int) < (ks.length : Int) := by omega
     obtain ⟨z, hz⟩ : ∃ z, z = ks.getD j 0 := ⟨_, rfl⟩
     rw [← hz] at z0 z1 z2 z3
     have hzy := hid (show (∃ i, i < j + 1 ∧ ks.getD i 0 = y) ↔ (∃ i, i < j ∧ ks.getD i 0 = y) ∨ z = y from by
      constructor
      ·rintro ⟨i, hi, e⟩
       by_cases hij : i = j
       ·subst hij; exact .inr (hz.trans e)
       ·exact .inl ⟨i, by omega, e⟩
      ·rintro (⟨i, hi, e⟩ | e)
       ·exact ⟨i, by omega, e⟩
       ·exact ⟨j, by omega, hz.symm.trans e⟩)
     have hq := eq_class z y
     clear hz
     cases b with
     | true =>
      have hb2 := hid (show true = true ↔ y = fullC ∨ ∃ i, i < j + 1 ∧ ks.getD i 0 = y from by rw [hzy.out]; have := hb.out.1 rfl; simp; rcases this with h | h; exact .inl h; exact .inr (.inl (by simpa using h)))
      clear hb hzy hq
      go_wp2
      go_quiet (fail)
      go_wp2
      go_roundw
      case rel => exact ⟨j + 1, true, _, hjl, by go_num, rfl, hid (by simpa using hb2.out), rfl⟩
      case measure => simp [intOf]; omega
     | false =>
      have hbn := hb.out
      by_cases he : z = y
      ·rw [decide_eq_true he] at hq
       unfold encC at hq
       have hb2 := hid (show true = true ↔ y = fullC ∨ ∃ i, i < j + 1 ∧ ks.getD i 0 = y from by rw [hzy.out]; exact ⟨fun _ => .inr (.inr he), fun _ => rfl⟩)
       clear hb hzy hbn he
       go_wp2
       go_quiet (fail)
       go_wp2
       go_roundw
       case rel => exact ⟨j + 1, true, _, hjl, by go_num, rfl, hid (by simpa using hb2.out), rfl⟩
       case measure => simp [intOf]; omega
      ·rw [decide_eq_false he] at hq
       unfold encC at hq
       have hb2 := hid (show false = true ↔ y = fullC ∨ ∃ i, i < j + 1 ∧ ks.getD i 0 = y from by
        rw [hzy.out]
        refine ⟨fun h => (by cases h), fun h => ?_⟩
        rcases h with h | h | h
        ·exact hbn.2 (.inl h)
        ·exact hbn.2 (.inr h)
        ·exact absurd h he)
       clear hb hzy hbn he
       go_wp2
       go_quiet (fail)
       go_wp2
       go_roundw
       case rel => exact ⟨j + 1, false, _, hjl, by go_num, rfl, hb2, rfl⟩
       case measure => simp [intOf]; omega
    ·obtain rfl : j = ks.length := by omega
     have hd : decide ((ks.length : Int) < (ks.length : Int)) = false := decide_eq_false (by omega)
     have hmem : b = true ↔ y ∈ fullC :: ks := by
      rw [hb.out, List.mem_cons]
      constructor
      ·rintro (h | ⟨i, hi, e⟩)
       ·exact .inl h
       ·refine .inr ?_
        rw [← e, List.getD_eq_getElem?_getD, List.getElem?_eq_getElem hi]
        exact List.getElem_mem _
      ·rintro (h | h)
       ·exact .inl h
       ·obtain ⟨i, hi, e⟩ := List.getElem_of_mem h
        exact .inr ⟨i, hi, by rw [List.getD_eq_getElem?_getD, List.getElem?_eq_getElem hi]; exact e⟩
     have hC9 := hid (hC1.out.drewN q)
     have hB9 := hid (Blk.drewN hB1.out q)
     have hO9 := hid (own_chg hO1.out ((Chg.refl Nothing w1).drewN q) (fun _ _ h => h))
     clear hb hR1
     cases b with
     | true =>
      have hkk := hid (hyi.out (hmem.1 rfl))
      clear hmem
      go_wp2
      go_roundw
      case rel => exact ⟨k + 1, A1, c1, hkn, by go_num, by rw [hkk.out], by rw [hkk.out]; exact hO9.out, hB9.out, hC9.out⟩
      case measure => simp [intOf]; omega
     | false =>
      have hkk := hid (hyn.out (fun h => by have := hmem.2 h; cases this))
      clear hmem
      obtain ⟨L, hL⟩ : ∃ L, L = ks.length := ⟨_, rfl⟩
      rw [← hL] at hkl hO9 hd ⊢
      replace hL := hid hL
      have hbs := hid (show w.heap.size + 1 ≤ (w1.drewN q).heap.size from hxl)
      replace x0 : (w1.drewN q).cell? ⟨w.heap.size, 0, none⟩ = some (.slice (some ⟨g, o, none⟩) n c) := x0
      replace d0 : (w1.drewN q).cell? ⟨g, o + k * 4, none⟩ = some (.int .u64 (wd y 0)) := d0
      replace d1 : (w1.drewN q).cell? ⟨g, o + k * 4 + 1, none⟩ = some (.int .u64 (wd y 1)) := d1
      replace d2 : (w1.drewN q).cell? ⟨g, o + k * 4 + 2, none⟩ = some (.int .u64 (wd y 2)) := d2
      replace d3 : (w1.drewN q).cell? ⟨g, o + k * 4 + 3, none⟩ = some (.int .u64 (wd y 3)) := d3
      replace hgl : g < (w1.drewN q).heap.size := hgl
      replace hxl : w.heap.size < (w1.drewN q).heap.size := hxl
      generalize w1.drewN q = w4 at hC9 hB9 hO9 hbs x0 d0 d1 d2 d3 hgl hxl ⊢
      go_wp2_with (at_builtin; refine append_gen rfl _ _ 32 rfl (w.heap.size + 1) 84 (.agg #[.int .u64 0, .int .u64 0, .int .u64 0, .int .u64 0]) 4 32 Tryz.underlying32 infoCl rfl (by decide) A1 c1 L _ rfl (own_chg hO9.out ((Chg.refl Nothing w4).alloc _) (fun _ _ h => h)) (some ⟨w4.heap.size, 0, none⟩) 1 1 (clsL y) rfl rfl (fun e => by cases e) (Nat.le_refl _) (fun ad e => by injection e with e; subst e; exact clsL_cells w4 y _) (clsL_one _) ?_ ?_ ?_ ?_)
      ·unfold maxLen; omega
      ·omega
      ·rw [World.size_alloc]; have := hbs.out; omega
      intro A' c' w6 hown6 hc6 hA6
      have hc6' := ((Chg.refl (Of A1) w4).alloc (.cells #[.int .u64 (wd y 0), .int .u64 (wd y 1), .int .u64 (wd y 2), .int .u64 (wd y 3)] 84)).trans hc6
      have oa6 := own_of hO9.out
      have hC6 := hid (hC9.out.then hc6' (fun i hi h => by have := oa6 _ h; omega))
      have hB6 := hid (hB9.out.chg hc6' (fun h => by have := oa6 _ h; omega))
      have hO6 := hid (show CRow w6 (w.heap.size + 1) A' (kindsTo xs (k + 1)).length c' (kindsTo xs (k + 1)) from by
       rw [hkk.out, List.length_append, ← hL.out]
       unfold CRow
       rw [List.flatMap_append, show [y].flatMap clsL = clsL y from by simp]
       exact hown6)
      have hLn := hid (show (kindsTo xs (k + 1)).length = L + 1 from by rw [hkk.out, List.length_append, ← hL.out]; rfl)
      clear hown6 hc6 hA6 hc6' oa6 
      go_wp2
      go_roundw
      case rel => exact ⟨k + 1, A', c', hkn, by go_num, by rw [hLn.out], hO6.out, hB6.out, hC6.out⟩
      case measure => simp [intOf]; omega
  ·obtain rfl : k = n := by omega
   have hd : decide ((k : Int) < (k : Int)) = false := decide_eq_false (by omega)
   have hOw := hid hown
   have hCr := hid hchg
   have hkl := hid (show kindsTo xs k = kindsL xs from by unfold kindsL; rw [hlh.out])
   clear hown hchg
   rw [hkl.out] at hOw ⊢
   go_wp2
   go_ret
   exact ⟨A1, c1, rfl, own_low hOw.out (by omega), hCr.out⟩
theorem marksOne_any (x : Cls) (s : ByteArray) (cb tb i : Nat) (w : World) (hC : CBox w cb x) (hT : Blk w tb #[.string s] 9) (hi : i < s.size) :
  Calls Tryz.prog 188 #[.int .i64 i, .pointer (some ⟨cb, 0, none⟩), .pointer (some ⟨tb, 0, none⟩)] w fun e w' => e = .returned (.bool (x.getLsbD (s.data[i]?.getD 0).toNat)) ∧ Chg Nothing w w' := by
 obtain ⟨r0, r1, r2, r3, -, -, -, -, hlt1⟩ := CBox.at_ hC
 have y0 := hT.cell 0 (v := .string s) rfl
 have hlt2 := hT.lt
 have h256 : s[i].toNat < 256 := UInt8.toNat_lt _
 have hH := hid (fun (nn : Calm w) => (show Calls Tryz.prog 158 #[.agg #[.int .u64 (wd x 0), .int .u64 (wd x 1), .int .u64 (wd x 2), .int .u64 (wd x 3)], .int .u8 ((s[i].toNat : Nat) : Int)] nn.val fun e w' => e = .returned (.bool (x.getLsbD s[i].toNat)) ∧ Chg Nothing nn.val w' from classHas_any x (s[i].toNat) nn.val (by omega)))
 have he := hid (show x.getLsbD (s.data[i]?.getD 0).toNat = x.getLsbD s[i].toNat from by rw [Array.getElem?_eq_getElem hi]; rfl)
 rw [he.out]
 generalize x.getLsbD s[i].toNat = b at hH
 have hi0 : (0 : Int) ≤ (i : Int) := by omega
 have hiI : (i : Int) < (s.size : Int) := by omega
 replace r0 := Calm.cell hlt1 r0
 replace r1 := Calm.cell hlt1 r1
 replace r2 := Calm.cell hlt1 r2
 replace r3 := Calm.cell hlt1 r3
 replace y0 := Calm.cell hlt2 y0
 clear he hC hT
 go_enter Tryz.func188, Tryz.ntmps188
 go_wp2_with fail
 try simp only [List.append_eq, List.cons_append, List.nil_append]
 refine wp_region_calm_lit (by kernel_rfl) (by kernel_rfl) ?_
 repeat (go_big_quiet_step (((go_at_call 158; exact calm_of (hH.out _)))))
 refine wpQuiet_nil ?_
 intro _ hw'
 obtain ⟨nq, hw''⟩ := hw'
 subst hw''
 go_wp2
 go_ret
 exact ⟨rfl, nq.chg⟩
theorem placesOne_any (F : Nat → Prop) (A : Option Addr) (n c : Nat) (xs : List Cls) (K : Int) (x : Cls) (lb cb i : Nat) (w : World) (H : ClsRow F w A n c xs) (hl : xs.length = n) (hL : Blk w lb #[.slice A n c, .int .i64 K] 34) (hC : CBox w cb x) (hi : i < n) :
  Calls Tryz.prog 187 #[.int .i64 i, .pointer (some ⟨lb, 0, none⟩), .pointer (some ⟨cb, 0, none⟩)] w fun e w' => e = .returned (.bool (decide (xs.getD i 0 = x))) ∧ Chg Nothing w w' := by
 obtain ⟨r0, r1, r2, r3, -, -, -, -, hlt1⟩ := CBox.at_ hC
 have hmx := H.max
 have hle := H.le
 obtain ⟨g, o, rfl, -, hgl, c0, c1', c2, c3⟩ := ClsRow.four H hl hi
 have y0 := hL.cell 0 (v := .slice (some ⟨g, o, none⟩) n c) rfl
 have hlt2 := hL.lt
 have hi0 : (0 : Int) ≤ (i : Int) := by omega
 have hiI : (i : Int) < (n : Int) := by omega
 obtain ⟨y, hyd⟩ : ∃ y, y = xs.getD i 0 := ⟨_, rfl⟩
 rw [← hyd] at c0 c1' c2 c3 ⊢
 have hq := eq_class y x
 generalize decide (y = x) = b at hq ⊢
 unfold encC at hq
 clear hyd hC hL H hl
 go_enter Tryz.func187, Tryz.ntmps187
 go_wp2_with fail
 go_quiet (fail)
 go_wp2
 go_ret
 exact ⟨rfl, (Chg.refl Nothing w).drewN _⟩
def RwInvMarks (w : World) (n : Nat) (b : Nat → Bool) (iv : Value) (wr : World) : Prop := ∃ i : Nat, i ≤ n ∧ iv = .int .i64 i ∧ FBlk wr w.heap.size n (fun q => if q < i then (if b q = true then 1 else 0) else 0) 82 ∧ Chg Nothing w wr
theorem rw_stepMarks {n i : Nat} {b : Nat → Bool} {v : Int} (hv : v = if b i = true then 1 else 0) (q : Nat) (hq : q < n) : (if q = i then v else (if q < i then (if b q = true then 1 else 0) else 0) : Int) = if q < i + 1 then (if b q = true then 1 else 0) else 0 := by
 by_cases h : q = i
 ·subst h
  have h3 : q < q + 1 := by omega
  rw [if_pos rfl, if_pos h3]; exact hv
 ·rw [if_neg h]
  by_cases h2 : q < i
  ·have h3 : q < i + 1 := by omega
   rw [if_pos h2, if_pos h3]
  ·have h3 : ¬ q < i + 1 := by omega
   rw [if_neg h2, if_neg h3]
theorem rowMarks_any (n : Nat) (b : Nat → Bool) (p q : Nat) (w : World) (hn : n ≤ 1000000000)
  (hcl : ∀ (i : Nat) (W : World), i < n → Chg Nothing w W → Calls Tryz.prog 188 #[.int .i64 i, .pointer (some ⟨p, 0, none⟩), .pointer (some ⟨q, 0, none⟩)] W fun e w' => e = .returned (.bool (b i)) ∧ Chg Nothing W w') :
  Calls Tryz.prog 186 #[.int .i64 n, .func (.func 188) #[] #[.pointer (some ⟨p, 0, none⟩), .pointer (some ⟨q, 0, none⟩)]] w fun e w' => e = .returned (.slice (some ⟨w.heap.size, 0, none⟩) n n) ∧ FBlk w' w.heap.size n (fun i => if b i = true then 1 else 0) 82 ∧ Chg Nothing w w' := by
 have hmk := make_u64 n hn w
 have hF0 := hid (FBlk.made w n 82)
 have hC0 := hid ((Chg.refl Nothing w).alloc (.cells (madeCells #[.int .u64 0] n) 82))
 have hcl := hid hcl
 go_enter Tryz.func186, Tryz.ntmps186
 go_wp2_with fail
 go_loopw [11] (fun iv wr => RwInvMarks w n b iv wr) (fun iv _ => n - (intOf iv).toNat)
 case atStart => exact ⟨0, Nat.zero_le _, rfl, hF0.out.congr (fun q _ => by rw [if_neg (by omega)]), hC0.out⟩
 case round =>
  obtain ⟨i, hi, rfl, hB, hchg⟩ := hrel
  rcases Nat.lt_or_ge i n with hin | hin
  ·have hi0 : (0 : Int) ≤ (i : Int) := by omega
   have hiI : (i : Int) < (n : Int) := by omega
   have hc := hid (hcl.out i wr hin hchg)
   have hBr := hid hB
   have hCr := hid hchg
   obtain ⟨bi, hbi⟩ : ∃ bi, bi = b i := ⟨_, rfl⟩
   rw [← hbi] at hc
   have hst := hid (fun (v : Int) (hv : v = if bi = true then 1 else 0) => rw_stepMarks (n := n) (i := i) (b := b) (v := v) (by rw [hv, hbi]))
   clear hB hchg hbi
   go_wp2_with fail
   refine (hc.out).mono ?_
   rintro e w2 ⟨rfl, hc2⟩
   have hB2 := hBr.out.chg hc2 id
   have hC2 := hid (hCr.out.trans hc2)
   have f0 := hB2.free i
   have z0 := hB2.cell (q := i) hin
   have hgl := hB2.lt
   have hB2h := hid hB2
   clear hB2 hc2
   cases bi with
   | true =>
    have hB3 := hid ((hB2h.out.set i 1).congr (fun q hq => hst.out 1 rfl q hq))
    have hC3 := hid (hC2.out.setNew (g := w.heap.size) (Nat.le_refl _) i (.int .u64 1))
    go_wp2
    go_roundw
    case rel => exact ⟨i + 1, hin, by go_num, hB3.out, hC3.out⟩
    case measure => simp [intOf]; omega
   | false =>
    have hB3 := hid (hB2h.out.congr (f' := fun q => if q < i + 1 then (if b q = true then 1 else 0) else 0) (fun q hq => by
     rw [← hst.out 0 rfl q hq]
     by_cases h : q = i
     ·rw [if_pos h, if_neg (by omega)]
     ·rw [if_neg h]))
    go_wp2
    go_roundw
    case rel => exact ⟨i + 1, hin, by go_num, hB3.out, hC2.out⟩
    case measure => simp [intOf]; omega
  ·obtain rfl : i = n := by omega
   have hd : decide ((i : Int) < (i : Int)) = false := decide_eq_false (by omega)
   have hB3 := hid (hB.congr (f' := fun q => if b q = true then 1 else 0) (fun q hq => by rw [if_pos hq]))
   have hCr := hid hchg
   clear hB hchg
   go_wp2
   go_ret
   exact ⟨rfl, hB3.out, hCr.out⟩
def RwInvPlaces (w : World) (n : Nat) (b : Nat → Bool) (iv : Value) (wr : World) : Prop := ∃ i : Nat, i ≤ n ∧ iv = .int .i64 i ∧ FBlk wr w.heap.size n (fun q => if q < i then (if b q = true then 1 else 0) else 0) 82 ∧ Chg Nothing w wr
theorem rw_stepPlaces {n i : Nat} {b : Nat → Bool} {v : Int} (hv : v = if b i = true then 1 else 0) (q : Nat) (hq : q < n) : (if q = i then v else (if q < i then (if b q = true then 1 else 0) else 0) : Int) = if q < i + 1 then (if b q = true then 1 else 0) else 0 := by
 by_cases h : q = i
 ·subst h
  have h3 : q < q + 1 := by omega
  rw [if_pos rfl, if_pos h3]; exact hv
 ·rw [if_neg h]
  by_cases h2 : q < i
  ·have h3 : q < i + 1 := by omega
   rw [if_pos h2, if_pos h3]
  ·have h3 : ¬ q < i + 1 := by omega
   rw [if_neg h2, if_neg h3]
theorem rowPlaces_any (n : Nat) (b : Nat → Bool) (p q : Nat) (w : World) (hn : n ≤ 1000000000)
  (hcl : ∀ (i : Nat) (W : World), i < n → Chg Nothing w W → Calls Tryz.prog 187 #[.int .i64 i, .pointer (some ⟨p, 0, none⟩), .pointer (some ⟨q, 0, none⟩)] W fun e w' => e = .returned (.bool (b i)) ∧ Chg Nothing W w') :
  Calls Tryz.prog 186 #[.int .i64 n, .func (.func 187) #[] #[.pointer (some ⟨p, 0, none⟩), .pointer (some ⟨q, 0, none⟩)]] w fun e w' => e = .returned (.slice (some ⟨w.heap.size, 0, none⟩) n n) ∧ FBlk w' w.heap.size n (fun i => if b i = true then 1 else 0) 82 ∧ Chg Nothing w w' := by
 have hmk := make_u64 n hn w
 have hF0 := hid (FBlk.made w n 82)
 have hC0 := hid ((Chg.refl Nothing w).alloc (.cells (madeCells #[.int .u64 0] n) 82))
 have hcl := hid hcl
 go_enter Tryz.func186, Tryz.ntmps186
 go_wp2_with fail
 go_loopw [11] (fun iv wr => RwInvPlaces w n b iv wr) (fun iv _ => n - (intOf iv).toNat)
 case atStart => exact ⟨0, Nat.zero_le _, rfl, hF0.out.congr (fun q _ => by rw [if_neg (by omega)]), hC0.out⟩
 case round =>
  obtain ⟨i, hi, rfl, hB, hchg⟩ := hrel
  rcases Nat.lt_or_ge i n with hin | hin
  ·have hi0 : (0 : Int) ≤ (i : Int) := by omega
   have hiI : (i : Int) < (n : Int) := by omega
   have hc := hid (hcl.out i wr hin hchg)
   have hBr := hid hB
   have hCr := hid hchg
   obtain ⟨bi, hbi⟩ : ∃ bi, bi = b i := ⟨_, rfl⟩
   rw [← hbi] at hc
   have hst := hid (fun (v : Int) (hv : v = if bi = true then 1 else 0) => rw_stepPlaces (n := n) (i := i) (b := b) (v := v) (by rw [hv, hbi]))
   clear hB hchg hbi
   go_wp2_with fail
   refine (hc.out).mono ?_
   rintro e w2 ⟨rfl, hc2⟩
   have hB2 := hBr.out.chg hc2 id
   have hC2 := hid (hCr.out.trans hc2)
   have f0 := hB2.free i
   have z0 := hB2.cell (q := i) hin
   have hgl := hB2.lt
   have hB2h := hid hB2
   clear hB2 hc2
   cases bi with
   | true =>
    have hB3 := hid ((hB2h.out.set i 1).congr (fun q hq => hst.out 1 rfl q hq))
    have hC3 := hid (hC2.out.setNew (g := w.heap.size) (Nat.le_refl _) i (.int .u64 1))
    go_wp2
    go_roundw
    case rel => exact ⟨i + 1, hin, by go_num, hB3.out, hC3.out⟩
    case measure => simp [intOf]; omega
   | false =>
    have hB3 := hid (hB2h.out.congr (f' := fun q => if q < i + 1 then (if b q = true then 1 else 0) else 0) (fun q hq => by
     rw [← hst.out 0 rfl q hq]
     by_cases h : q = i
     ·rw [if_pos h, if_neg (by omega)]
     ·rw [if_neg h]))
    go_wp2
    go_roundw
    case rel => exact ⟨i + 1, hin, by go_num, hB3.out, hC2.out⟩
    case measure => simp [intOf]; omega
  ·obtain rfl : i = n := by omega
   have hd : decide ((i : Int) < (i : Int)) = false := decide_eq_false (by omega)
   have hB3 := hid (hB.congr (f' := fun q => if b q = true then 1 else 0) (fun q hq => by rw [if_pos hq]))
   have hCr := hid hchg
   clear hB hchg
   go_wp2
   go_ret
   exact ⟨rfl, hB3.out, hCr.out⟩
theorem marks_any (x : Cls) (s : ByteArray) (w : World) (hs : s.size ≤ 1000000000) :
  Calls Tryz.prog 152 #[.string s, .agg #[.int .u64 (wd x 0), .int .u64 (wd x 1), .int .u64 (wd x 2), .int .u64 (wd x 3)]] w fun e w' => ∃ g, w.heap.size ≤ g ∧ e = .returned (.slice (some ⟨g, 0, none⟩) s.size s.size) ∧ FBlk w' g s.size (markF x s) 82 ∧ Chg Nothing w w' := by
 have hT := (Blk.new w #[.string s] 9).alloc (.cells (cellsC x) 84)
 have hC := Blk.new (w.alloc (.cells #[.string s] 9)) (cellsC x) 84
 rw [World.size_alloc] at hC
 have y0 := hT.cell 0 (v := .string s) rfl
 have hlt := hT.lt
 have hch := hid (((Chg.refl Nothing w).alloc (.cells #[.string s] 9)).alloc (.cells (cellsC x) 84))
 have hR := hid ((rowMarks_any s.size (fun i => x.getLsbD (s.data[i]?.getD 0).toNat) (w.heap.size + 1) w.heap.size ((w.alloc (.cells #[.string s] 9)).alloc (.cells (cellsC x) 84)) hs (fun i W hi hc => marksOne_any x s _ _ i W (Blk.chg hC hc id) (hT.chg hc id) hi)).mono (R' := fun e w' => ∃ g, w.heap.size ≤ g ∧ e = .returned (.slice (some ⟨g, 0, none⟩) s.size s.size) ∧ FBlk w' g s.size (markF x s) 82 ∧ Chg Nothing w w') (fun e w' h => ⟨_, hch.out.size, h.1, h.2.1, hch.out.trans h.2.2⟩))
 unfold cellsC at hR hch y0 hlt
 clear hT hC
 go_enter Tryz.func152, Tryz.ntmps152
 go_wp2_with fail
 refine hR.out.mono ?_
 rintro e w2 ⟨g, hg, rfl, hB, hc⟩
 replace hg := hid hg
 replace hB := hid hB
 replace hc := hid hc
 go_wp2
 go_ret
 exact ⟨_, hg.out, rfl, hB.out, hc.out⟩
theorem places_any (F : Nat → Prop) (A : Option Addr) (n c : Nat) (xs : List Cls) (K : Int) (x : Cls) (w : World) (H : ClsRow F w A n c xs) (hl : xs.length = n) (hn9 : n ≤ 1000000000) :
  Calls Tryz.prog 151 #[.agg #[.slice A n c, .int .i64 K], .agg #[.int .u64 (wd x 0), .int .u64 (wd x 1), .int .u64 (wd x 2), .int .u64 (wd x 3)]] w fun e w' => ∃ g, w.heap.size ≤ g ∧ e = .returned (.slice (some ⟨g, 0, none⟩) n n) ∧ FBlk w' g n (placeF xs x) 82 ∧ Chg Nothing w w' := by
 have hT := (Blk.new w #[.slice A n c, .int .i64 K] 34).alloc (.cells (cellsC x) 84)
 have hC := Blk.new (w.alloc (.cells #[.slice A n c, .int .i64 K] 34)) (cellsC x) 84
 rw [World.size_alloc] at hC
 have y0 := hT.cell 0 (v := .slice A n c) rfl
 have hlt := hT.lt
 have hch := hid (((Chg.refl Nothing w).alloc (.cells #[.slice A n c, .int .i64 K] 34)).alloc (.cells (cellsC x) 84))
 have hR := hid ((rowPlaces_any n (fun i => decide (xs.getD i 0 = x)) w.heap.size (w.heap.size + 1) ((w.alloc (.cells #[.slice A n c, .int .i64 K] 34)).alloc (.cells (cellsC x) 84)) hn9 (fun i W hi hc => placesOne_any F A n c xs K x _ _ i W (H.chg (hch.out.trans hc) (fun _ _ _ h => h)) hl (hT.chg hc id) (Blk.chg hC hc id) hi)).mono (R' := fun e w' => ∃ g, w.heap.size ≤ g ∧ e = .returned (.slice (some ⟨g, 0, none⟩) n n) ∧ FBlk w' g n (placeF xs x) 82 ∧ Chg Nothing w w') (fun e w' h => ⟨_, hch.out.size, h.1, h.2.1.congr (fun q _ => by unfold placeF; simp), hch.out.trans h.2.2⟩))
 unfold cellsC at hR hch y0 hlt
 have hle := H.le
 have hmx := H.max
 clear hT hC H hl
 go_enter Tryz.func151, Tryz.ntmps151
 go_wp2_with fail
 refine hR.out.mono ?_
 rintro e w2 ⟨g, hg, rfl, hB, hc⟩
 replace hg := hid hg
 replace hB := hid hB
 replace hc := hid hc
 go_wp2
 go_ret
 exact ⟨_, hg.out, rfl, hB.out, hc.out⟩
def amiss (xs : List Cls) (K : Int) (n size : Int) : Int := if rightB xs K = true then (if sizeBad xs.length n size = true then 50 else 0) else 170
theorem symbCheck_any (F : Nat → Prop) (A : Option Addr) (n c : Nat) (xs : List Cls) (K : Int) (s : ByteArray) (size : Int) (w : World) (H : ClsRow F w A n c xs) (hl : xs.length = n) :
  Calls Tryz.prog 144 #[.agg #[.slice A n c, .int .i64 K], .string s, .int .i64 size] w fun e w' => e = .returned (.int .i64 (amiss xs K s.size size)) ∧ Chg Nothing w w' := by
 have hX := Blk.new w #[.slice A n c, .int .i64 K] 34
 have x0 := hX.cell 0 (v := .slice A n c) rfl
 have x1 := hX.cell 1 (v := .int .i64 K) rfl
 have hxl := hX.lt
 have hR := hid (leafRight_any F A n c xs K (w.alloc (.cells #[.slice A n c, .int .i64 K] 34)) (H.chg ((Chg.refl Nothing w).alloc _) (fun _ _ _ h => h)) hl)
 have hL := hid (fun w => nttLog_any size w)
 have hc0 := hid ((Chg.refl Nothing w).alloc (.cells #[.slice A n c, .int .i64 K] 34))
 have hE := hid (show amiss xs K s.size size = if rightB xs K = true then (if (decide ((n : Int) ≤ (s.size : Int)) && (!(logS size).isSome || decide (size < (n : Int)))) = true then 50 else 0) else 170 from by unfold amiss sizeBad; rw [hl])
 rw [hE.out]
 generalize rightB xs K = r at hR ⊢
 generalize logS size = o at hL ⊢
 have hle := H.le
 have hmx := H.max
 clear hX H hl hE
 obtain ⟨lg, hlg⟩ : ∃ lg : Int, lg = ((o.getD 0 : Nat) : Int) := ⟨_, rfl⟩
 rw [← hlg] at hL
 obtain ⟨is, his⟩ : ∃ is, is = o.isSome := ⟨_, rfl⟩
 rw [← his] at hL ⊢
 clear hlg his
 go_enter Tryz.func144, Tryz.ntmps144
 go_wp2_with fail
 refine (hL.out _).mono ?_
 rintro e w0 ⟨rfl, rfl⟩
 go_wp2_with fail
 refine hR.out.mono ?_
 rintro e w1 ⟨rfl, hc1⟩
 have x0 := (hc1.cells.1 _ _ hxl).trans x0
 have hC1 := hid (hc0.out.trans hc1)
 clear hc1
 cases r with
 | false =>
  go_wp2
  go_ret
  exact ⟨rfl, hC1.out⟩
 | true =>
  by_cases h1 : (n : Int) ≤ (s.size : Int)
  ·have e1 : decide ((n : Int) ≤ (s.size : Int)) = true := decide_eq_true h1
   cases is with
   | false =>
    go_wp2
    go_ret
    exact ⟨by simp, hC1.out⟩
   | true =>
    by_cases h2 : size < (n : Int)
    ·have e2 : decide (size < (n : Int)) = true := decide_eq_true h2
     go_wp2
     go_ret
     exact ⟨by simp, hC1.out⟩
    ·have e2 : decide (size < (n : Int)) = false := decide_eq_false h2
     go_wp2
     go_ret
     exact ⟨by simp, hC1.out⟩
  ·have e1 : decide ((n : Int) ≤ (s.size : Int)) = false := decide_eq_false h1
   go_wp2
   go_ret
   exact ⟨by simp, hC1.out⟩
def missB (xs : List Cls) (s : ByteArray) (i j : Nat) : Int := if (xs.getD j 0).getLsbD (s.data[i + j]?.getD 0).toNat = true then 0 else 1
def missTo (xs : List Cls) (s : ByteArray) (i j : Nat) : Int := sumN j (missB xs s i)
theorem missTo_all (xs : List Cls) (s : ByteArray) (i : Nat) : missTo xs s i xs.length = missN xs s i := rfl
theorem missTo_succ (xs : List Cls) (s : ByteArray) (i j : Nat) : missTo xs s i (j + 1) = missTo xs s i j + missB xs s i j := rfl
theorem missTo_bound (xs : List Cls) (s : ByteArray) (i : Nat) : ∀ j, 0 ≤ missTo xs s i j ∧ missTo xs s i j ≤ j
 | 0 => ⟨Int.le_refl _, Int.le_refl _⟩
 | j + 1 => by
  have h := missTo_bound xs s i j
  rw [missTo_succ]
  unfold missB
  split <;> omega
def AtInv (xs : List Cls) (s : ByteArray) (i n : Nat) (A0 : Option Addr) (c0 : Nat) (K : Int) (w : World) (nv jv : Value) (wr : World) : Prop := ∃ (j : Nat), j ≤ n ∧ jv = .int .i64 j ∧ nv = .int .i64 (missTo xs s i j) ∧ Blk wr w.heap.size #[.slice A0 n c0, .int .i64 K] 34 ∧ Chg Nothing w wr
def okAt (xs : List Cls) (K : Int) (n N i : Nat) : Bool := rightB xs K && decide (i + n ≤ N)
theorem refAt_any (F : Nat → Prop) (A : Option Addr) (n c : Nat) (xs : List Cls) (K : Int) (s : ByteArray) (i : Nat) (w : World) (H : ClsRow F w A n c xs) (hl : xs.length = n) (hs : s.size ≤ 1000000000) (hi9 : i ≤ 1000000000) :
  Calls Tryz.prog 153 #[.agg #[.slice A n c, .int .i64 K], .string s, .int .i64 i] w fun e w' => e = .returned (if okAt xs K n s.size i = true then .tuple #[.int .i64 (missN xs s i), .bool true] else .tuple #[.int .i64 0, .bool false]) ∧ Chg Nothing w w' := by
 have hX := Blk.new w #[.slice A n c, .int .i64 K] 34
 have x0 := hX.cell 0 (v := .slice A n c) rfl
 have x1 := hX.cell 1 (v := .int .i64 K) rfl
 have hxl := hX.lt
 have hR := hid (refRight7_any F A n c xs K (w.alloc (.cells #[.slice A n c, .int .i64 K] 34)) (H.chg ((Chg.refl Nothing w).alloc _) (fun _ _ _ h => h)) hl)
 have hr64 := hid (show rightB xs K = true → n ≤ 64 from fun h => by unfold rightB at h; rw [hl] at h; simp at h; omega)
 have hc0 := hid ((Chg.refl Nothing w).alloc (.cells #[.slice A n c, .int .i64 K] 34))
 have HH := hid (fun (w' : World) (hc : Chg Nothing w w') => H.chg hc (fun _ _ _ h => h))
 have hlh := hid hl
 have hmx := H.max
 have hle := H.le
 have hXh := hid hX
 unfold okAt
 generalize rightB xs K = r at hR hr64 ⊢
 have hi0 : (0 : Int) ≤ (i : Int) := by omega
 clear hX H hl
 go_enter Tryz.func153, Tryz.ntmps153
 go_wp2_with fail
 refine hR.out.mono ?_
 rintro e w1 ⟨rfl, hc1⟩
 have x0 := (hc1.cells.1 _ _ hxl).trans x0
 have x1 := (hc1.cells.1 _ _ hxl).trans x1
 have hX1 := hid (hXh.out.chg hc1 id)
 have hC1 := hid (hc0.out.trans hc1)
 have hxl1 := Nat.lt_of_lt_of_le hxl hc1.size
 clear hc1 hXh hxl
 cases r with
 | false =>
  go_wp2
  go_ret2
  exact ⟨rfl, hC1.out⟩
 | true =>
  have h64 := hr64.out rfl
  by_cases hin : i + n ≤ s.size
  ·have e1 : decide ((s.size : Int) - (n : Int) < (i : Int)) = false := decide_eq_false (by omega)
   have e2 := hid (decide_eq_true hin)
   go_wp2_with fail
   go_loopw [8, 9] (fun nv jv wr => AtInv xs s i n A c K w nv jv wr) (fun _ jv _ => n - (intOf jv).toNat)
   case atStart => exact ⟨0, Nat.zero_le _, rfl, rfl, hX1.out, hC1.out⟩
   case round =>
    obtain ⟨j, hj, rfl, rfl, hbx, hchg⟩ := hrel
    have x0 := hbx.cell 0 (v := .slice A n c) rfl
    have hxl := hbx.lt
    rcases Nat.lt_or_ge j n with hjn | hjn
    ·obtain ⟨g, o, rfl, -, hgl, c0, c1', c2, c3⟩ := ClsRow.four (HH.out _ hchg) hlh.out hjn
     have hj0 : (0 : Int) ≤ (j : Int) := by omega
     have hjI : (j : Int) < (n : Int) := by omega
     obtain ⟨y, hyd⟩ : ∃ y, y = xs.getD j 0 := ⟨_, rfl⟩
     rw [← hyd] at c0 c1' c2 c3
     have hij : i + j < s.size := by omega
     have h256 : s[i + j].toNat < 256 := UInt8.toNat_lt _
     have hms := hid (show missB xs s i j = if y.getLsbD (s[i + j].toNat) = true then 0 else 1 from by unfold missB; rw [Array.getElem?_eq_getElem hij, ← hyd]; rfl)
     have hmt := missTo_bound xs s i j
     have hsu := hid (missTo_succ xs s i j)
     obtain ⟨b, hb⟩ : ∃ b, y.getLsbD (s[i + j].toNat) = b := ⟨_, rfl⟩
     rw [hb] at hms
     have hH := hid (fun (nn : Calm wr) => (show Calls Tryz.prog 159 #[litC y, .int .u8 ((s[i + j].toNat : Nat) : Int)] nn.val fun e w' => e = .returned (.bool b) ∧ Chg Nothing nn.val w' from hb ▸ refHas_any y (s[i + j].toNat) nn.val (by omega)))
     obtain ⟨mt, hmtd⟩ : ∃ mt, mt = missTo xs s i j := ⟨_, rfl⟩
     rw [← hmtd] at hmt hsu ⊢
     have hBx := hid hbx
     have hCr := hid hchg
     replace c0 := Calm.cell hgl c0
     replace c1' := Calm.cell hgl c1'
     replace c2 := Calm.cell hgl c2
     replace c3 := Calm.cell hgl c3
     have X0 := Calm.cell hxl x0
     have hin2 : (i : Int) + (j : Int) < (s.size : Int) := by omega
     have hw1 : IntKind.i64.wrap ((i : Int) + (j : Int)) = (i : Int) + (j : Int) := by rw [IntKind.wrap_i64]; omega
     have htn : ((i : Int) + (j : Int)).toNat = i + j := by omega
     have hix : ∀ W, (Instr.index 9 (.string s) (.int .i64 ((i : Int) + (j : Int)))).run Tryz.prog W = .ok (.int .u8 ((s[i + j].toNat : Nat) : Int)) W := fun W => by
      rw [run_index_string (h := Tryz.underlying9), dif_pos ⟨by omega, hin2⟩]
      simp only [htn]
     clear hb hbx hchg hyd hmtd htn
     go_wp2_with fail
     try simp only [List.append_eq, List.cons_append, List.nil_append]
     refine wp_region_calm_lit (by kernel_rfl) (by kernel_rfl) ?_
     repeat (go_big_quiet_step (((go_at_call 159; exact calm_of (hH.out _)))))
     refine wpQuiet_nil ?_
     intro _ hw'
     obtain ⟨nq, hw''⟩ := hw'
     subst hw''
     have hc := nq.chg
     have hB3 := hid (hBx.out.chg hc id)
     have hC3 := hid (hCr.out.trans hc)
     generalize nq.val = w3 at hB3 hC3 ⊢
     clear c0 c1' c2 c3 x0 X0 hc
     cases b with
     | true =>
      have hsu2 := hid (show missTo xs s i (j + 1) = mt from by rw [hsu.out, hms.out]; simp)
      go_wp2
      go_roundw
      case rel => exact ⟨j + 1, hjn, by go_num, by rw [hsu2.out], hB3.out, hC3.out⟩
      case measure => simp [intOf]; omega
     | false =>
      have hsu2 := hid (show missTo xs s i (j + 1) = mt + 1 from by rw [hsu.out, hms.out]; simp)
      go_wp2
      go_roundw
      case rel => exact ⟨j + 1, hjn, by go_num, by rw [hsu2.out]; try go_num, hB3.out, hC3.out⟩
      case measure => simp [intOf]; omega
    ·obtain rfl : j = n := by omega
     have hd : decide ((j : Int) < (j : Int)) = false := decide_eq_false (by omega)
     have hm := hid (show missTo xs s i j = missN xs s i from by rw [← hlh.out]; rfl)
     rw [hm.out]
     have hCr := hid hchg
     clear hchg hbx
     go_wp2
     go_ret2
     exact ⟨rfl, hCr.out⟩
  ·have e1 : decide ((s.size : Int) - (n : Int) < (i : Int)) = true := decide_eq_true (by omega)
   have e2 := hid (decide_eq_false hin)
   go_wp2
   all_goals
    go_ret2
    exact ⟨rfl, hC1.out⟩
def cntL (xs : List Cls) (s : ByteArray) (r : Bool) (k : Nat) : List Int := if r = true then (List.range (min k (s.size + 1 - xs.length))).map fun i => missN xs s i else []
theorem cntL_yes {xs : List Cls} {s : ByteArray} {r : Bool} {k : Nat} (hr : r = true) (hk : k + xs.length ≤ s.size) : cntL xs s r (k + 1) = cntL xs s r k ++ [missN xs s k] := by
 unfold cntL
 rw [if_pos hr, if_pos hr, show min (k + 1) (s.size + 1 - xs.length) = k + 1 from by omega, show min k (s.size + 1 - xs.length) = k from by omega, List.range_succ, List.map_append]
 rfl
theorem cntL_no {xs : List Cls} {s : ByteArray} {r : Bool} {k : Nat} (hk : ¬ (r = true ∧ k + xs.length ≤ s.size)) : cntL xs s r (k + 1) = cntL xs s r k := by
 unfold cntL
 by_cases hr : r = true
 ·have h2 : ¬ k + xs.length ≤ s.size := fun h => hk ⟨hr, h⟩
  rw [if_pos hr, if_pos hr, show min (k + 1) (s.size + 1 - xs.length) = s.size + 1 - xs.length from by omega, show min k (s.size + 1 - xs.length) = s.size + 1 - xs.length from by omega]
 ·rw [if_neg hr, if_neg hr]
theorem cntL_len (xs : List Cls) (s : ByteArray) (r : Bool) (k : Nat) : (cntL xs s r k).length ≤ k := by
 unfold cntL; split
 ·simp; omega
 ·simp
def countsR (xs : List Cls) (K : Int) (s : ByteArray) : List Int := if rightB xs K = true then countsL xs s else []
theorem cntL_all (xs : List Cls) (K : Int) (s : ByteArray) : cntL xs s (rightB xs K) (s.size + 1) = countsR xs K s := by
 unfold cntL countsR countsL
 by_cases hr : rightB xs K = true
 ·rw [if_pos hr, if_pos hr, show min (s.size + 1) (s.size + 1 - xs.length) = s.size + 1 - xs.length from by omega]
 ·rw [if_neg hr, if_neg hr]
def RcInv (xs : List Cls) (s : ByteArray) (r : Bool) (n : Nat) (A0 : Option Addr) (c0 : Nat) (K : Int) (w : World) (ov iv : Value) (wr : World) : Prop := ∃ (k L : Nat) (A : Option Addr) (c : Nat), k ≤ s.size + 1 ∧ L ≤ k ∧ iv = .int .i64 k ∧ ov = .slice A L c ∧ IRow wr (w.heap.size + 1) A L c (cntL xs s r k) ∧ Blk wr w.heap.size #[.slice A0 n c0, .int .i64 K] 34 ∧ Chg Nothing w wr
theorem refCounts8_any (F : Nat → Prop) (A : Option Addr) (n c : Nat) (xs : List Cls) (K : Int) (s : ByteArray) (w : World) (H : ClsRow F w A n c xs) (hl : xs.length = n) (hs : s.size ≤ 100000000) :
  Calls Tryz.prog 124 #[.agg #[.slice A n c, .int .i64 K], .string s] w fun e w' => GivesI w.heap.size w' e (countsR xs K s) ∧ Chg Nothing w w' := by
 have hX := hid (Blk.new w #[.slice A n c, .int .i64 K] 34)
 have hAt := hid (fun (i : Nat) (w' : World) (hi : i ≤ 1000000000) (hc : Chg Nothing w w') => refAt_any F A n c xs K s i w' (H.chg hc (fun _ _ _ h => h)) hl (by omega) hi)
 have hlh := hid hl
 have hmx := H.max
 have hle := H.le
 clear H hl
 go_enter Tryz.func124, Tryz.ntmps124
 go_wp2_with fail
 go_loopw [5, 6] (fun ov iv wr => RcInv xs s (rightB xs K) n A c K w ov iv wr) (fun _ iv _ => s.size + 1 - (intOf iv).toNat)
 case atStart => exact ⟨0, 0, none, 0, Nat.zero_le _, Nat.zero_le _, rfl, rfl, by rw [show cntL xs s (rightB xs K) 0 = [] from List.eq_nil_of_length_eq_zero (Nat.le_zero.1 (cntL_len _ _ _ _))]; exact World.ownsRow_nil _ _ _ _, hX.out, (Chg.refl _ _).alloc _⟩
 case round =>
  obtain ⟨k, L, A1, c1, hk, hLk, rfl, rfl, hown, hbx, hchg⟩ := hrel
  have x0 := hbx.cell 0 (v := .slice A n c) rfl
  have x1 := hbx.cell 1 (v := .int .i64 K) rfl
  have hxl := hbx.lt
  rcases Nat.lt_or_ge k (s.size + 1) with hkn | hkn
  ·have hk0 : (0 : Int) ≤ (k : Int) := by omega
   have hkI : (k : Int) ≤ (s.size : Int) := by omega
   have hat := hid (hAt.out k wr (by omega) hchg)
   have hHB := hid hbx
   have hO := hid hown
   have hCr := hid hchg
   clear hbx hown hchg
   by_cases hok : okAt xs K n s.size k = true
   ·rw [if_pos hok] at hat
    have hcy := hid (show cntL xs s (rightB xs K) (k + 1) = cntL xs s (rightB xs K) k ++ [missN xs s k] from by unfold okAt at hok; simp at hok; exact cntL_yes hok.1 (by have := hlh.out; omega))
    clear hok
    generalize missN xs s k = v at hat hcy
    go_wp2_with fail
    refine hat.out.mono ?_
    rintro e w2 ⟨rfl, hc2⟩
    have hO2 := hid (own_chg hO.out hc2 (fun _ _ h => h))
    have hB2 := hid (hHB.out.chg hc2 id)
    have hC2 := hid (hCr.out.trans hc2)
    clear hc2 x0 x1
    go_wp2_with (at_builtin; refine append_one rfl _ _ 37 rfl (w.heap.size + 1) 3 (.int .i64 0) 8 Tryz.underlying37 infoInt rfl A1 c1 L _ rfl hO2.out (.int .i64 v) rfl rfl ?_ ?_ ?_ ?_)
    ·omega
    ·omega
    ·exact hB2.out.lt
    intro A' c' w6 hown6 hc6 hA6
    have hO6 := hid (show IRow w6 (w.heap.size + 1) A' (L + 1) c' (cntL xs s (rightB xs K) (k + 1)) from by rw [hcy.out]; unfold IRow; rw [List.map_append]; exact hown6)
    have oa6 := own_of hO2.out
    have hC6 := hid (hC2.out.then hc6 (fun i hi h => by have := oa6 _ h; omega))
    have hB6 := hid (hB2.out.chg hc6 (fun h => by have := oa6 _ h; omega))
    clear hown6 hc6 hA6
    go_wp2
    go_roundw
    case rel => exact ⟨k + 1, L + 1, A', c', hkn, by omega, by go_num, rfl, hO6.out, hB6.out, hC6.out⟩
    case measure => simp [intOf]; omega
   ·rw [if_neg hok] at hat
    have hcy := hid (show cntL xs s (rightB xs K) (k + 1) = cntL xs s (rightB xs K) k from cntL_no (fun h => hok (by unfold okAt; rw [h.1, ← hlh.out, decide_eq_true h.2]; rfl)))
    clear hok
    go_wp2_with fail
    refine hat.out.mono ?_
    rintro e w2 ⟨rfl, hc2⟩
    have hO2 := hid (own_chg hO.out hc2 (fun _ _ h => h))
    have hB2 := hid (hHB.out.chg hc2 id)
    have hC2 := hid (hCr.out.trans hc2)
    clear hc2 x0 x1
    go_wp2
    go_roundw
    case rel => exact ⟨k + 1, L, A1, c1, hkn, by omega, by go_num, rfl, by rw [hcy.out]; exact hO2.out, hB2.out, hC2.out⟩
    case measure => simp [intOf]; omega
  ·obtain rfl : k = s.size + 1 := by omega
   have hd : decide (((s.size + 1 : Nat) : Int) ≤ (s.size : Int)) = false := decide_eq_false (by omega)
   have hd2 : decide ((s.size : Int) + 1 ≤ (s.size : Int)) = false := decide_eq_false (by omega)
   rw [cntL_all] at hown
   have hO := hid hown
   have hCr := hid hchg
   have hl := hid hown.1
   clear hbx hown hchg
   go_wp2
   go_ret
   have hL : L = (countsR xs K s).length := by have := hl.out; simpa using this.symm
   subst hL
   exact ⟨⟨_, _, rfl, own_low hO.out (by omega)⟩, hCr.out⟩
theorem IRow.els {w : World} {base : Nat} {A : Option Addr} {n c : Nat} {xs : List Int} (h : IRow w base A n c xs) : IntsAt (fun k => Of A k ∧ base ≤ k) w A n c xs := ElsAt.of_own h
theorem hits_refM (ys : List Int) (K : Int) (A5 : Option Addr) (c5 : Nat) (w5 : World) (b : Nat) (h : IRow w5 b A5 ys.length c5 ys) (hcl : ys.length ≤ 100000001) : Calls Tryz.prog 123 #[.slice A5 ys.length c5, .int .i64 K] w5 fun e w' => ∃ A6 c6, e = .returned (.slice A6 (hitsTo ys K ys.length).length c6) ∧ IRow w' w5.heap.size A6 (hitsTo ys K ys.length).length c6 (hitsTo ys K ys.length) ∧ Chg Nothing w5 w' :=
 (refHits_any _ A5 ys.length c5 ys K w5 h.els (by omega)).mono (fun e w' h => by obtain ⟨⟨A6, c6, e6, h6⟩, hc⟩ := h; exact ⟨A6, c6, e6, h6, hc⟩)
theorem hits_M (ys : List Int) (K : Int) (A5 : Option Addr) (c5 : Nat) (w5 : World) (b : Nat) (h : IRow w5 b A5 ys.length c5 ys) (hcl : ys.length ≤ 100000001) : Calls Tryz.prog 143 #[.slice A5 ys.length c5, .int .i64 K] w5 fun e w' => ∃ A6 c6, e = .returned (.slice A6 (hitsTo ys K ys.length).length c6) ∧ IRow w' w5.heap.size A6 (hitsTo ys K ys.length).length c6 (hitsTo ys K ys.length) ∧ Chg Nothing w5 w' :=
 (hits_any _ A5 ys.length c5 ys K w5 h.els (by omega)).mono (fun e w' h => by obtain ⟨⟨A6, c6, e6, h6⟩, hc⟩ := h; exact ⟨A6, c6, e6, h6, hc⟩)
theorem refFind8_any (F : Nat → Prop) (A : Option Addr) (n c : Nat) (xs : List Cls) (K : Int) (s : ByteArray) (w : World) (H : ClsRow F w A n c xs) (hl : xs.length = n) (hs : s.size ≤ 100000000) :
  Calls Tryz.prog 75 #[.agg #[.slice A n c, .int .i64 K], .string s] w fun e w' => GivesI w.heap.size w' e (hitsTo (countsR xs K s) K (countsR xs K s).length) ∧ Chg Nothing w w' := by
 have hX := Blk.new w #[.slice A n c, .int .i64 K] 34
 have x0 := hX.cell 0 (v := .slice A n c) rfl
 have x1 := hX.cell 1 (v := .int .i64 K) rfl
 have hlx := hX.lt
 have hw0 := hid ((Chg.refl Nothing w).alloc (.cells #[.slice A n c, .int .i64 K] 34))
 have hsz := hid (show w.heap.size ≤ (w.alloc (.cells #[.slice A n c, .int .i64 K] 34)).heap.size from hw0.out.size)
 have hcl : (countsR xs K s).length ≤ 100000001 := by rw [← cntL_all]; have := cntL_len xs s (rightB xs K) (s.size + 1); omega
 generalize hW : w.alloc (.cells #[.slice A n c, .int .i64 K] 34) = W at *
 have hS := hid (fun (m : Calm W) => (⟨Calm.cell hlx x0 m, Calm.cell hlx x1 m⟩ : m.val.cell? ⟨w.heap.size, 0, none⟩ = some (.slice A n c) ∧ m.val.cell? ⟨w.heap.size, 1, none⟩ = some (.int .i64 K)))
 have hd0 := hid ((Chg.refl Nothing W).drew)
 have hCo := hid (fun (m : Calm W) => (refCounts8_any F A n c xs K s m.val (H.chg (hw0.out.trans m.chg) (fun _ _ _ h => h)) hl hs).mono (R' := fun e w' => ∃ A5 c5, e = .returned (.slice A5 (countsR xs K s).length c5) ∧ IRow w' m.val.heap.size A5 (countsR xs K s).length c5 (countsR xs K s) ∧ Chg Nothing m.val w') (fun e w' h => by obtain ⟨⟨A5, c5, e5, h5⟩, hc⟩ := h; exact ⟨A5, c5, e5, h5, hc⟩))
 have hmx := H.max
 have hle := H.le
 clear hX hl H
 generalize countsR xs K s = ys at *
 have hHi := hid (fun (w5 : World) (b : Nat) (A5 : Option Addr) (c5 : Nat) (h : IRow w5 b A5 ys.length c5 ys) => hits_refM ys K A5 c5 w5 b h hcl)
 go_enter Tryz.func75, Tryz.ntmps75
 go_wp2_with fail
 try rw [hW]
 go_region_held3 (fun w' => w'.cell? ⟨w.heap.size, 0, none⟩ = some (.slice A n c) ∧ w'.cell? ⟨w.heap.size, 1, none⟩ = some (.int .i64 K))
  (first | exact hS.out ⟨_, hd0.out⟩ | exact hS.out ⟨_, hd0.out.trans hc5⟩ | exact hS.out ⟨_, (hd0.out.trans hc5).trans hc6⟩)
  (first
  | (go_at_call 124; with_reducible refine (hCo.out ⟨_, hd0.out⟩).mono ?_; rintro e w5 ⟨A5, c5, rfl, hO5, hc5⟩; replace hO5 := hid hO5)
  | (go_at_call 123; with_reducible refine (hHi.out _ _ _ _ hO5.out).mono ?_; rintro e w6 ⟨A6, c6, rfl, hO6, hc6⟩; replace hO6 := hid hO6))
 all_goals
  go_wp2
  go_ret
  exact ⟨⟨A6, c6, rfl, own_low hO6.out (Nat.le_trans hsz.out (Nat.le_trans hd0.out.size hc5.size))⟩, hw0.out.trans (hd0.out.trans (hc5.trans hc6))⟩
def symY (xs : List Cls) (K : Int) (s : ByteArray) (size : Int) : List Int := if amiss xs K s.size size = 0 then countsL xs s else []
def symN (xs : List Cls) (K : Int) (s : ByteArray) (size : Int) : Int := if amiss xs K s.size size = 0 then ((kindsL xs).length : Int) * countS xs.length s.size size else 0
def GivesSym (base : Nat) (w' : World) (e : Ending) (ys : List Int) (num E : Int) : Prop := ∃ A c, e = .returned (.tuple #[.slice A ys.length c, .int .i64 num, .int .i64 E]) ∧ IRow w' base A ys.length c ys
theorem amiss_zero {xs : List Cls} {K n size : Int} (h : amiss xs K n size = 0) : rightB xs K = true ∧ sizeBad xs.length n size = false := by
 unfold amiss at h
 split at h
 ·rename_i hr
  split at h
  ·omega
  ·rename_i hz; exact ⟨hr, by simpa using hz⟩
 ·omega
theorem right_len {xs : List Cls} {K : Int} (h : rightB xs K = true) : 1 ≤ xs.length ∧ xs.length ≤ 64 := by
 unfold rightB at h; simp at h; omega
theorem countS_bound (m n size : Int) (hm : 0 ≤ n) (hn : n ≤ 1000000000) : 0 ≤ countS m n size ∧ countS m n size ≤ 10000000000 := by
 unfold countS
 split
 ·rename_i h
  simp only [Bool.and_eq_true] at h
  have hp := count_parts h.1 h.2
  have h1 : min n 1099511627776 = n := by omega
  rw [h1] at hp ⊢
  have p1 : 0 ≤ n - m := by omega
  have p2 : (0 : Int) < size - m + 1 := by omega
  have h2 := Int.ediv_nonneg p1 (Int.le_of_lt p2)
  have h3 : (n - m) / (size - m + 1) ≤ n - m := Int.ediv_le_self _ p1
  omega
 ·omega
theorem kindsL_len (xs : List Cls) : (kindsL xs).length ≤ xs.length := kindsTo_len xs xs.length
theorem leafKindsRefM (F : Nat → Prop) (A : Option Addr) (n c : Nat) (xs : List Cls) (K : Int) (w : World) (H : ClsRow F w A n c xs) (hl : xs.length = n) (hn9 : n ≤ 1000000000) :
  Calls Tryz.prog 85 #[.agg #[.slice A n c, .int .i64 K]] w fun e w' => ∃ A' c', e = .returned (.slice A' (kindsL xs).length c') ∧ Chg Nothing w w' :=
 (refKinds_any F A n c xs K w H hl hn9).mono (fun e w' h => by obtain ⟨A', c', e1, -, hc⟩ := h; exact ⟨A', c', e1, hc⟩)
theorem symY_len (xs : List Cls) (K : Int) (s : ByteArray) (size : Int) : (symY xs K s size).length ≤ s.size + 1 := by
 unfold symY countsL; split
 ·(simp; try omega)
 ·simp
def symF (xs : List Cls) (K : Int) (s : ByteArray) (size : Int) : List Int := hitsTo (symY xs K s size) K (symY xs K s size).length
end Go.Proofs.YtoelilejohfglaaGreat
