/- Joined texts: ClassA ClassB ClassC ClassD Cls RefA RefB RefC RefD RefE RefF RefG. -/
import Derived.Test.YtoelilejohfglaaGreatRows
import Derived.Test.YtoelilejohfglaaGreatBunA
import Derived.Deep.QuietTactic
import Derived.BigQuiet
import Derived.BigRegion
import Derived.Deep.RegionWith
import Derived.Deep.OwnRows
set_option maxHeartbeats 16000000
set_option maxRecDepth 100000
namespace Go.Proofs.YtoelilejohfglaaGreat
open Go.RowKit
set_option linter.unusedVariables false
set_option linter.unusedSimpArgs false
abbrev Cls := BitVec 256
def wd (x : Cls) (k : Nat) : Int := ((x.extractLsb' (64 * k) 64).toNat : Int)
theorem wd_lo (x : Cls) (k : Nat) : 0 ≤ wd x k := by unfold wd; omega
theorem wd_hi (x : Cls) (k : Nat) : wd x k ≤ 18446744073709551615 := by unfold wd; have := (x.extractLsb' (64 * k) 64).isLt; omega
def encC (x : Cls) : Value := .agg #[.int .u64 (wd x 0), .int .u64 (wd x 1), .int .u64 (wd x 2), .int .u64 (wd x 3)]
theorem u64_wrap (n : Int) (h0 : 0 ≤ n) (h1 : n < 2 ^ 64) : IntKind.u64.wrap n = n := by
 have : IntKind.u64.wrap n = n % 18446744073709551616 := by simp [IntKind.wrap, IntKind.bits, IntKind.signed]
 rw [this]; omega
def wdN (x : Cls) (k : Nat) : Nat := (x.extractLsb' (64 * k) 64).toNat
theorem wd_eq (x : Cls) (k : Nat) : wd x k = (wdN x k : Int) := rfl
theorem wdN_lt (x : Cls) (k : Nat) : wdN x k < 2 ^ 64 := (x.extractLsb' (64 * k) 64).isLt
theorem wdN_bit (x : Cls) (k j : Nat) : (wdN x k).testBit j = (decide (j < 64) && x.getLsbD (64 * k + j)) := by
 unfold wdN
 rw [BitVec.testBit_toNat, BitVec.getLsbD_extractLsb']
theorem wdN_ext {x : Cls} {k n : Nat} (hn : n < 2 ^ 64) (h : ∀ j, j < 64 → n.testBit j = x.getLsbD (64 * k + j)) : n = wdN x k := by
 apply Nat.eq_of_testBit_eq
 intro j
 rw [wdN_bit]
 by_cases hj : j < 64
 ·rw [h j hj]; simp [hj]
 ·have : n < 2 ^ j := Nat.lt_of_lt_of_le hn (Nat.pow_le_pow_right (by decide) (by omega))
  rw [Nat.testBit_lt_two_pow this]; simp [hj]
theorem has_bit (x : Cls) (k j b : Nat) (hj : j < 64) (hb : b = 64 * k + j) : (bits .and .u64 (wd x k / 2 ^ j) 1 == 1) = x.getLsbD b := by
 have h1 : wd x k / 2 ^ j = ((wdN x k / 2 ^ j : Nat) : Int) := by rw [wd_eq]; norm_cast
 have h2 : wdN x k / 2 ^ j < 2 ^ 64 := Nat.lt_of_le_of_lt (Nat.div_le_self _ _) (wdN_lt x k)
 have h3 := (bits_nat .u64 64 (by decide) u64_wrap (wdN x k / 2 ^ j) 1 h2 (by decide)).1
 rw [h1, show (1 : Int) = ((1 : Nat) : Int) from rfl, h3, Nat.and_one_is_mod]
 have h4 := wdN_bit x k j
 rw [Nat.testBit_eq_decide_div_mod_eq] at h4
 rw [hb]
 simp only [hj, decide_true, Bool.true_and] at h4
 rw [← h4, Bool.eq_iff_iff]
 simp only [beq_iff_eq, decide_eq_true_eq]
 omega
theorem or_word (x y : Cls) (k : Nat) : bits .or .u64 (wd x k) (wd y k) = wd (x ||| y) k := by
 rw [wd_eq, wd_eq, wd_eq, (bits_nat .u64 64 (by decide) u64_wrap _ _ (wdN_lt x k) (wdN_lt y k)).2]
 congr 1
 refine wdN_ext (Nat.or_lt_two_pow (wdN_lt x k) (wdN_lt y k)) fun j hj => ?_
 rw [Nat.testBit_or, wdN_bit, wdN_bit, BitVec.getLsbD_or]; simp [hj]
theorem with_word (x : Cls) (k j b : Nat) (hj : j < 64) (hb : b = 64 * k + j) (hb2 : b < 256) : bits .or .u64 (wd x k) (IntKind.u64.wrap (2 ^ j)) = wd (x ||| BitVec.twoPow 256 b) k := by
 have h1 : IntKind.u64.wrap (2 ^ j) = wd (BitVec.twoPow 256 b) k := by
  have hp : 2 ^ j < 2 ^ 64 := Nat.pow_lt_pow_right (by decide) hj
  rw [u64_wrap _ (by exact_mod_cast Nat.zero_le _) (by exact_mod_cast hp), wd_eq]
  have : (2 ^ j : Nat) = wdN (BitVec.twoPow 256 b) k := by
   refine wdN_ext hp fun i hi => ?_
   rw [Nat.testBit_two_pow, BitVec.getLsbD_twoPow, hb]
   have : 64 * k + j < 256 := by omega
   simp only [this, decide_true, Bool.true_and]
   rw [decide_eq_decide]; omega
  rw [← this]; norm_cast
 rw [h1, or_word]
theorem with_other (x : Cls) (k b : Nat) (hb2 : b < 256) (hk : b / 64 ≠ k) : wd (x ||| BitVec.twoPow 256 b) k = wd x k := by
 rw [wd_eq, wd_eq]
 congr 1
 symm
 refine wdN_ext (wdN_lt _ _) fun j hj => ?_
 rw [wdN_bit, BitVec.getLsbD_or, BitVec.getLsbD_twoPow]
 have : ¬ b = 64 * k + j := by omega
 simp [hj, this]
theorem not_word' (x : Cls) (k : Nat) (hk : k < 4) : 18446744073709551615 - wd x k = wd (~~~ x) k := by
 rw [wd_eq, wd_eq]
 have hlt := wdN_lt x k
 have h : 2 ^ 64 - 1 - wdN x k = wdN (~~~ x) k := by
  refine wdN_ext (by omega) fun j hj => ?_
  rw [show 2 ^ 64 - 1 - wdN x k = 2 ^ 64 - (wdN x k + 1) from by omega, Nat.testBit_two_pow_sub_succ hlt, wdN_bit, BitVec.getLsbD_not]
  have : 64 * k + j < 256 := by omega
  simp [hj, this]
 rw [← h]; omega
theorem not_word (x : Cls) (k : Nat) (hk : k < 4) : bits .xor .u64 IntKind.u64.max (wd x k) = wd (~~~ x) k := by
 rw [← not_word' x k hk, wd_eq]
 have hlt := wdN_lt x k
 have h0 : bits .xor .u64 IntKind.u64.max (wdN x k : Int) = IntKind.u64.wrap (((BitVec.ofInt 64 18446744073709551615 ^^^ BitVec.ofInt 64 (wdN x k : Int)).toNat : Nat) : Int) := rfl
 have h1 : (BitVec.ofInt 64 18446744073709551615 ^^^ BitVec.ofInt 64 (wdN x k : Int)) = ~~~ (BitVec.ofNat 64 (wdN x k)) := by
  rw [BitVec.ofInt_natCast, show BitVec.ofInt 64 18446744073709551615 = BitVec.allOnes 64 from by decide, BitVec.allOnes_xor]
 have h2 : ((BitVec.ofInt 64 18446744073709551615 ^^^ BitVec.ofInt 64 (wdN x k : Int)).toNat : Int) = 18446744073709551615 - (wdN x k : Int) := by
  rw [h1, BitVec.toNat_not, BitVec.toNat_ofNat, Nat.mod_eq_of_lt hlt]; omega
 rw [h0, h2, u64_wrap _ (by omega) (by omega)]
theorem classHas_any (x : Cls) (b : Nat) (w : World) (hb : b < 256) :
  Calls Tryz.prog 158 #[encC x, .int .u8 b] w fun e w' => e = .returned (.bool (x.getLsbD b)) ∧ Chg Nothing w w' := by
 unfold encC
 have h0 := wd_lo x 0
 have h00 := wd_hi x 0
 have h1 := wd_lo x 1
 have h10 := wd_hi x 1
 have h2 := wd_lo x 2
 have h20 := wd_hi x 2
 have h3 := wd_lo x 3
 have h30 := wd_hi x 3
 have hq : b / 64 = 0 ∨ b / 64 = 1 ∨ b / 64 = 2 ∨ b / 64 = 3 := by omega
 rcases hq with hq | hq | hq | hq
 all_goals
  go_enter Tryz.func158, Tryz.ntmps158
  go_wp2_with fail
  go_ret
  refine ⟨?_, (Chg.refl _ _).alloc _⟩
  refine congrArg (fun r => Ending.returned (.bool r)) ?_
  exact has_bit x _ (b % 64) b (by omega) (by omega)
theorem classWith_any (x : Cls) (b : Nat) (w : World) (hb : b < 256) :
  Calls Tryz.prog 88 #[encC x, .int .u8 b] w fun e w' => e = .returned (encC (x ||| BitVec.twoPow 256 b)) ∧ Chg Nothing w w' := by
 unfold encC
 have h0 := wd_lo x 0
 have h00 := wd_hi x 0
 have h1 := wd_lo x 1
 have h10 := wd_hi x 1
 have h2 := wd_lo x 2
 have h20 := wd_hi x 2
 have h3 := wd_lo x 3
 have h30 := wd_hi x 3
 have hq : b / 64 = 0 ∨ b / 64 = 1 ∨ b / 64 = 2 ∨ b / 64 = 3 := by omega
 rcases hq with hq | hq | hq | hq
 ·have e0 := with_word x 0 (b % 64) b (by omega) (by omega) hb
  have e1 := with_other x 1 b hb (by omega)
  have e2 := with_other x 2 b hb (by omega)
  have e3 := with_other x 3 b hb (by omega)
  rw [← e0, e1, e2, e3]
  clear e0 e1 e2 e3
  go_enter Tryz.func88, Tryz.ntmps88
  go_wp2_with fail
  exact bodyPost_ret (v := .agg #[.int .u64 (bits .or .u64 (wd x 0) (IntKind.u64.wrap (2 ^ (b % 64)))), .int .u64 (wd x 1), .int .u64 (wd x 2), .int .u64 (wd x 3)]) (by simp [results, Tryz.results88, go_sem]) rfl ⟨rfl, ((Chg.refl _ _).alloc _).alloc _⟩
 ·have e0 := with_word x 1 (b % 64) b (by omega) (by omega) hb
  have e1 := with_other x 0 b hb (by omega)
  have e2 := with_other x 2 b hb (by omega)
  have e3 := with_other x 3 b hb (by omega)
  rw [← e0, e1, e2, e3]
  clear e0 e1 e2 e3
  go_enter Tryz.func88, Tryz.ntmps88
  go_wp2_with fail
  exact bodyPost_ret (v := .agg #[.int .u64 (wd x 0), .int .u64 (bits .or .u64 (wd x 1) (IntKind.u64.wrap (2 ^ (b % 64)))), .int .u64 (wd x 2), .int .u64 (wd x 3)]) (by simp [results, Tryz.results88, go_sem]) rfl ⟨rfl, ((Chg.refl _ _).alloc _).alloc _⟩
 ·have e0 := with_word x 2 (b % 64) b (by omega) (by omega) hb
  have e1 := with_other x 0 b hb (by omega)
  have e2 := with_other x 1 b hb (by omega)
  have e3 := with_other x 3 b hb (by omega)
  rw [← e0, e1, e2, e3]
  clear e0 e1 e2 e3
  go_enter Tryz.func88, Tryz.ntmps88
  go_wp2_with fail
  exact bodyPost_ret (v := .agg #[.int .u64 (wd x 0), .int .u64 (wd x 1), .int .u64 (bits .or .u64 (wd x 2) (IntKind.u64.wrap (2 ^ (b % 64)))), .int .u64 (wd x 3)]) (by simp [results, Tryz.results88, go_sem]) rfl ⟨rfl, ((Chg.refl _ _).alloc _).alloc _⟩
 ·have e0 := with_word x 3 (b % 64) b (by omega) (by omega) hb
  have e1 := with_other x 0 b hb (by omega)
  have e2 := with_other x 1 b hb (by omega)
  have e3 := with_other x 2 b hb (by omega)
  rw [← e0, e1, e2, e3]
  clear e0 e1 e2 e3
  go_enter Tryz.func88, Tryz.ntmps88
  go_wp2_with fail
  exact bodyPost_ret (v := .agg #[.int .u64 (wd x 0), .int .u64 (wd x 1), .int .u64 (wd x 2), .int .u64 (bits .or .u64 (wd x 3) (IntKind.u64.wrap (2 ^ (b % 64))))]) (by simp [results, Tryz.results88, go_sem]) rfl ⟨rfl, ((Chg.refl _ _).alloc _).alloc _⟩
theorem classNot_any (x : Cls) (w : World) :
  Calls Tryz.prog 157 #[encC x] w fun e w' => e = .returned (encC (~~~ x)) ∧ Chg Nothing w w' := by
 unfold encC
 rw [← not_word x 0 (by omega), ← not_word x 1 (by omega), ← not_word x 2 (by omega), ← not_word x 3 (by omega)]
 go_enter Tryz.func157, Tryz.ntmps157
 go_wp2_with fail
 refine wp_loop_rounds 5 ?_
 iterate 4 (rw [rounds_succ]; go_wp2)
 rw [rounds_succ]
 go_wp2
 exact bodyPost_ret (v := .agg #[.int .u64 (bits .xor .u64 IntKind.u64.max (wd x 0)), .int .u64 (bits .xor .u64 IntKind.u64.max (wd x 1)), .int .u64 (bits .xor .u64 IntKind.u64.max (wd x 2)), .int .u64 (bits .xor .u64 IntKind.u64.max (wd x 3))]) (by simp [results, Tryz.results157, go_sem]) rfl ⟨rfl, ((Chg.refl _ _).alloc _).alloc _⟩
theorem wd_zero (k : Nat) : wd 0 k = 0 := by
 rw [wd_eq]; have : (0 : Nat) = wdN 0 k := wdN_ext (by decide) (fun j _ => by simp)
 rw [← this]; rfl
theorem encC_zero : encC 0 = .agg #[.int .u64 0, .int .u64 0, .int .u64 0, .int .u64 0] := by unfold encC; simp only [wd_zero]
theorem wd_inj {x y : Cls} (h : ∀ k, k < 4 → wd x k = wd y k) : x = y := by
 apply BitVec.eq_of_getLsbD_eq
 intro i hi
 have h1 := h (i / 64) (by omega)
 rw [wd_eq, wd_eq] at h1
 have h2 : wdN x (i / 64) = wdN y (i / 64) := by exact_mod_cast h1
 have h3 := wdN_bit x (i / 64) (i % 64)
 have h4 := wdN_bit y (i / 64) (i % 64)
 rw [h2, h4] at h3
 have e : 64 * (i / 64) + i % 64 = i := by omega
 have hl : i % 64 < 64 := by omega
 rw [e] at h3
 simpa [hl] using h3.symm
theorem encC_inj {x y : Cls} (h : encC x = encC y) : x = y := by
 unfold encC at h
 simp only [Value.agg.injEq] at h
 apply wd_inj
 intro k hk
 have : k = 0 ∨ k = 1 ∨ k = 2 ∨ k = 3 := by omega
 simp at h
 rcases this with rfl | rfl | rfl | rfl
 ·exact h.1
 ·exact h.2.1
 ·exact h.2.2.1
 ·exact h.2.2.2
def fullC : Cls := BitVec.allOnes 256
theorem fullC_eq : ~~~ (0 : Cls) = fullC := by decide
theorem fullC_get {b : Nat} (h : b < 256) : fullC.getLsbD b = true := by unfold fullC; rw [BitVec.getLsbD_allOnes]; simp [h]
theorem classFull_any (w : World) : Calls Tryz.prog 135 #[] w fun e w' => e = .returned (encC fullC) ∧ Chg Nothing w w' := by
 go_enter Tryz.func135, Tryz.ntmps135
 go_wp2_with fail
 rw [← encC_zero]
 have hB := Blk.new w #[.int .u64 0, .int .u64 0, .int .u64 0, .int .u64 0] 84
 refine (classNot_any 0 _).mono ?_
 rintro e w1 ⟨rfl, hc⟩
 replace hB := hB.chg hc id
 have hlt := hB.lt
 have hC := (Chg.refl Nothing w).alloc (.cells #[.int .u64 0, .int .u64 0, .int .u64 0, .int .u64 0] 84)
 have hC1 := hC.trans hc
 have r0 := hB.cell 0 (v := .int .u64 0) rfl
 have r1 := hB.cell 1 (v := .int .u64 0) rfl
 have r2 := hB.cell 2 (v := .int .u64 0) rfl
 have r3 := hB.cell 3 (v := .int .u64 0) rfl
 have f0 := hB.free 0
 have f1 := hB.free 1
 have f2 := hB.free 2
 have f3 := hB.free 3
 have HB := hid hB; clear hB hc
 rw [fullC_eq]
 unfold encC
 go_wp2
 refine bodyPost_ret (v := encC fullC) ?_ rfl ⟨rfl, ?_⟩
 ·simp [results, Tryz.results135, go_sem, encC, r0, r1, r2, r3]
 ·exact (((hC1.setNew (Nat.le_refl _) 0 _).setNew (Nat.le_refl _) 1 _).setNew (Nat.le_refl _) 2 _).setNew (Nat.le_refl _) 3 _
def cellsC (x : Cls) : Array Value := #[.int .u64 (wd x 0), .int .u64 (wd x 1), .int .u64 (wd x 2), .int .u64 (wd x 3)]
theorem cellsC_zero : cellsC 0 = #[.int .u64 0, .int .u64 0, .int .u64 0, .int .u64 0] := by unfold cellsC; simp only [wd_zero]
structure ClsAt (w : World) (b : Nat) (x : Cls) : Prop where
 r0 : w.cell? ⟨b, 0, none⟩ = some (.int .u64 (wd x 0))
 r1 : w.cell? ⟨b, 1, none⟩ = some (.int .u64 (wd x 1))
 r2 : w.cell? ⟨b, 2, none⟩ = some (.int .u64 (wd x 2))
 r3 : w.cell? ⟨b, 3, none⟩ = some (.int .u64 (wd x 3))
 f0 : w.frozen? ⟨b, 0, none⟩ = false
 f1 : w.frozen? ⟨b, 1, none⟩ = false
 f2 : w.frozen? ⟨b, 2, none⟩ = false
 f3 : w.frozen? ⟨b, 3, none⟩ = false
 lt : b < w.heap.size
abbrev CBox (w : World) (b : Nat) (x : Cls) : Prop := Blk w b (cellsC x) 84
theorem CBox.at_ {w : World} {b : Nat} {x : Cls} (h : CBox w b x) : ClsAt w b x :=
 ⟨h.cell 0 rfl, h.cell 1 rfl, h.cell 2 rfl, h.cell 3 rfl, h.free 0, h.free 1, h.free 2, h.free 3, h.lt⟩
def putC (w : World) (b : Nat) (y : Cls) : World := (((w.setCell ⟨b, 0, none⟩ (.int .u64 (wd y 0))).setCell ⟨b, 1, none⟩ (.int .u64 (wd y 1))).setCell ⟨b, 2, none⟩ (.int .u64 (wd y 2))).setCell ⟨b, 3, none⟩ (.int .u64 (wd y 3))
theorem CBox.put {w : World} {b : Nat} {x : Cls} (h : CBox w b x) (y : Cls) : CBox (putC w b y) b y := (((h.set 0 _).set 1 _).set 2 _).set 3 _
theorem CBox.zero (w : World) : CBox (w.alloc (.cells #[.int .u64 0, .int .u64 0, .int .u64 0, .int .u64 0] 84)) w.heap.size 0 := by
 unfold CBox; rw [cellsC_zero]; exact Blk.new w _ _
theorem Chg.putNew {S : Nat → Prop} {a b : World} {g : Nat} (h : Chg S a b) (hg : a.heap.size ≤ g) (y : Cls) : Chg S a (putC b g y) :=
 (((h.setNew hg 0 _).setNew hg 1 _).setNew hg 2 _).setNew hg 3 _
def setC (p : Nat → Bool) : Cls := (List.range 256).foldl (fun acc i => if p i then acc ||| BitVec.twoPow 256 i else acc) 0
theorem setC_go (p : Nat → Bool) (n : Nat) (hn : n ≤ 256) (i : Nat) (hi : i < 256) : ((List.range n).foldl (fun acc i => if p i then acc ||| BitVec.twoPow 256 i else acc) (0 : Cls)).getLsbD i = (decide (i < n) && p i) := by
 induction n with
 | zero => simp
 | succ n ih =>
  rw [List.range_succ, List.foldl_append]
  simp only [List.foldl_cons, List.foldl_nil]
  have h := ih (by omega)
  by_cases hp : p n = true
  ·rw [if_pos hp, BitVec.getLsbD_or, h, BitVec.getLsbD_twoPow]
   by_cases e : n = i
   ·subst e; simp [hp, hi]
   ·have : (decide (i < n + 1)) = decide (i < n) := decide_eq_decide.2 (by omega)
    simp [e, this]
  ·rw [if_neg hp, h]
   by_cases e : n = i
   ·subst e; simp [hp]
   ·have : (decide (i < n + 1)) = decide (i < n) := decide_eq_decide.2 (by omega)
    rw [this]
theorem setC_get (p : Nat → Bool) {i : Nat} (hi : i < 256) : (setC p).getLsbD i = p i := by
 unfold setC; rw [setC_go p 256 (Nat.le_refl _) i hi]; simp [hi]
theorem cls_ext {x y : Cls} (h : ∀ i, i < 256 → x.getLsbD i = y.getLsbD i) : x = y := BitVec.eq_of_getLsbD_eq fun i hi => h i hi
def rangeC (a b : Nat) : Cls := setC fun i => decide (a ≤ i) && decide (i ≤ b)
def ofC (s : ByteArray) : Cls := s.data.toList.foldl (fun acc b => acc ||| BitVec.twoPow 256 b.toNat) 0
def ofTo (s : ByteArray) (k : Nat) : Cls := (s.data.toList.take k).foldl (fun acc b => acc ||| BitVec.twoPow 256 b.toNat) 0
theorem ofTo_succ (s : ByteArray) (k : Nat) (h : k < s.size) : ofTo s (k + 1) = ofTo s k ||| BitVec.twoPow 256 (s[k].toNat) := by
 unfold ofTo
 rw [List.take_succ_eq_append_getElem (by simpa using h), List.foldl_append]
 rfl
theorem ofTo_all (s : ByteArray) (k : Nat) (h : s.size ≤ k) : ofTo s k = ofC s := by
 unfold ofTo ofC; rw [List.take_of_length_le (by simpa using h)]
theorem classOf_any (s : ByteArray) (w : World) (hs : s.size ≤ 9223372036854775807) :
  Calls Tryz.prog 58 #[.string s] w fun e w' => e = .returned (encC (ofC s)) ∧ Chg Nothing w w' := by
 go_enter Tryz.func58, Tryz.ntmps58
 go_wp2_with fail
 go_loopw [7] (fun i wr => ∃ k : Nat, k ≤ s.size ∧ i = .int .i64 k ∧ CBox wr (w.heap.size + 1) (ofTo s k) ∧ CBox wr w.heap.size 0 ∧ Chg Nothing w wr) (fun i _ => s.size - (intOf i).toNat)
 case atStart =>
  refine ⟨0, Nat.zero_le _, rfl, ?_, (CBox.zero w).alloc _, ((Chg.refl _ _).alloc _).alloc _⟩
  have := CBox.zero (w.alloc (.cells #[.int .u64 0, .int .u64 0, .int .u64 0, .int .u64 0] 84))
  rw [World.size_alloc] at this
  exact this
 case round =>
  obtain ⟨k, hk, rfl, hB, hB0, hcr⟩ := hrel
  by_cases hlt : k < s.size
  ·obtain ⟨r0, r1, r2, r3, f0, f1, f2, f3, hlt1⟩ := hB.at_
   have HB := hid hB; clear hB
   have hsn := hid (ofTo_succ s k hlt)
   have h256 : s[k].toNat < 256 := UInt8.toNat_lt _
   go_wp2_with fail
   go_region_with (go_at_call 88; refine (classWith_any (ofTo s k) (s[k].toNat) _ h256).mono ?_; rintro e w3 ⟨rfl, hc⟩; have HB3 : CBox w3 (w.heap.size + 1) (ofTo s k) := Blk.chg (Blk.drew HB.out) hc id; obtain ⟨q0, q1, q2, q3, p0, p1, p2, p3, hlt3⟩ := CBox.at_ HB3; unfold encC)
   all_goals
    rw [← hsn.out]
    go_wp2
    go_roundw
    case rel => exact ⟨k + 1, by omega, by go_num, CBox.put HB3 _, (((((Blk.drew hB0).chg hc id).other (by simp) _).other (by simp) _).other (by simp) _).other (by simp) _, (hcr.drew.trans hc).putNew (by omega) _⟩
    case measure => simp [intOf]; omega
  ·rw [ofTo_all s k (by omega)] at hB
   obtain ⟨r0, r1, r2, r3, f0, f1, f2, f3, hlt1⟩ := hB.at_
   obtain ⟨s0, s1, s2, s3, g0, g1, g2, g3, hlt2⟩ := hB0.at_
   have HB := hid hB; clear hB
   have HB0 := hid hB0; clear hB0
   go_wp2
   have hout := HB0.out.put (ofC s)
   obtain ⟨t0, t1, t2, t3, _⟩ := CBox.at_ hout
   refine bodyPost_ret (v := encC (ofC s)) ?_ rfl ⟨rfl, hcr.putNew (Nat.le_refl _) _⟩
   show (results Tryz.f58 _).run Tryz.prog (putC wr w.heap.size (ofC s)) = _
   simp [results, Tryz.results58, go_sem, encC, t0, t1, t2, t3]
   rfl
def firstC (x : Cls) (k : Nat) : Prop := ∀ j, j < k → x.getLsbD j = false
def singleC (x : Cls) : Option Nat := ((List.range 256).find? fun b => x.getLsbD b).bind fun b => if x = BitVec.twoPow 256 b then some b else none
theorem singleC_hit {x : Cls} {k : Nat} (hk : k < 256) (h : firstC x k) (hb : x.getLsbD k = true) : singleC x = if x = BitVec.twoPow 256 k then some k else none := by
 have : (List.range 256).find? (fun b => x.getLsbD b) = some k := by
  rw [List.find?_range_eq_some]
  exact ⟨hb, by simpa using hk, fun j hj => by simp [h j hj]⟩
 unfold singleC; rw [this]; rfl
theorem singleC_none {x : Cls} (h : firstC x 256) : singleC x = none := by
 have : (List.range 256).find? (fun b => x.getLsbD b) = none := by
  rw [List.find?_eq_none]; intro j hj; simp [h j (by simpa using hj)]
 unfold singleC; rw [this]; rfl
def singleV (x : Cls) : Array Value := match singleC x with | some b => #[.int .u8 b, .bool true] | none => #[.int .u8 0, .bool false]
theorem classWith_zero (k : Nat) (w : World) (h : k < 256) :
  Calls Tryz.prog 88 #[.agg #[.int .u64 0, .int .u64 0, .int .u64 0, .int .u64 0], .int .u8 k] w fun e w' => e = .returned (encC (BitVec.twoPow 256 k)) ∧ Chg Nothing w w' := by
 have := classWith_any 0 k w h
 rw [encC_zero, show (0 : Cls) ||| BitVec.twoPow 256 k = BitVec.twoPow 256 k from BitVec.zero_or] at this
 exact this
theorem eq_class (x y : Cls) (w : World) : (Op.equalIn 10000 84 (encC x) (encC y)).run Tryz.prog w = .ok (decide (x = y)) w := by
 have u3 := Tryz.underlying82
 have a3 := Tryz.isAgg82
 have z3 := Tryz.sizeOf82
 have hd : decide (x = y) = decide (wd x 0 = wd y 0 ∧ wd x 1 = wd y 1 ∧ wd x 2 = wd y 2 ∧ wd x 3 = wd y 3) := by
  apply decide_eq_decide.2
  constructor
  ·rintro rfl; simp
  ·rintro ⟨h0, h1, h2, h3⟩
   apply encC_inj; unfold encC; rw [h0, h1, h2, h3]
 rw [hd]
 unfold encC
 rw [show (10000 : Nat) = 9999 + 1 from rfl, Op.equalIn]
 simp only [Sem.run_bind, run_underlying Tryz.underlying84, Result.andThen_ok]
 simp only [Std.Legacy.Range.forIn_eq_forIn_range', Std.Legacy.Range.size, Nat.sub_zero, Nat.add_sub_cancel, Nat.div_one, List.range'_succ, List.range'_zero, List.forIn_cons, List.forIn_nil]
 go_simp
 by_cases h0 : wd x 0 = wd y 0 <;> by_cases h1 : wd x 1 = wd y 1 <;> by_cases h2 : wd x 2 = wd y 2 <;> by_cases h3 : wd x 3 = wd y 3 <;> simp [h0, h1, h2, h3]
set_option maxRecDepth 20000 in
theorem classSingle_any (x : Cls) (w : World) :
  Calls Tryz.prog 136 #[encC x] w fun e w' => e = .returned (.tuple (singleV x)) ∧ Chg Nothing w w' := by
 unfold encC
 go_enter Tryz.func136, Tryz.ntmps136
 go_wp2_with fail
 go_loopw [6] (fun i wr => ∃ k : Nat, (k : Int) ≤ 256 ∧ i = .int .i64 k ∧ CBox wr w.heap.size x ∧ Hid (firstC x k) ∧ Chg Nothing w wr) (fun i _ => 256 - (intOf i).toNat)
 case atStart => exact ⟨0, by omega, rfl, Blk.new w _ _, hid (fun j hj => by omega), (Chg.refl _ _).alloc _⟩
 case round =>
  obtain ⟨k, hk, rfl, hB, hfirst, hcr⟩ := hrel
  obtain ⟨r0, r1, r2, r3, f0, f1, f2, f3, hlt1⟩ := hB.at_
  have HB := hid hB; clear hB
  have hlg : (k : Int) < 256 ∨ 256 ≤ (k : Int) := by omega
  rcases hlg with hlt | hge
  ·go_wp2_with fail
   refine (classHas_any x k wr (by omega)).mono ?_
   rintro e w3 ⟨rfl, hc⟩
   have HB3 : CBox w3 w.heap.size x := HB.out.chg hc id
   have hcr3 := hcr.trans hc
   clear r0 r1 r2 r3 f0 f1 f2 f3 hlt1 HB hc hcr
   obtain ⟨r0, r1, r2, r3, f0, f1, f2, f3, hlt1⟩ := CBox.at_ HB3
   have HB3' := hid HB3; clear HB3
   cases hb : x.getLsbD k with
   | true =>
    have hbh := hid hb; clear hb
    have hwk : IntKind.u8.wrap (k : Int) = k := by simp [IntKind.wrap, IntKind.bits, IntKind.signed]; omega
    have hwk' := hid hwk; clear hwk
    have heq := fun w => eq_class x (BitVec.twoPow 256 k) w
    unfold encC at heq
    go_wp2_with fail
    go_region_with (go_at_call 88; rw [hwk'.out]; refine (classWith_zero k _ (by omega)).mono ?_; rintro e w4 ⟨rfl, hc⟩; have HB4 : CBox w4 w.heap.size x := Blk.chg (Blk.drew HB3'.out) hc id; obtain ⟨q0, q1, q2, q3, p0, p1, p2, p3, hlt3⟩ := CBox.at_ HB4; unfold encC)
    all_goals
     have hkn : k < 256 := by omega
     have hs := singleC_hit hkn hfirst.out hbh.out
     by_cases hx : x = BitVec.twoPow 256 k
     ·rw [if_pos hx] at hs
      have hsh := hid hs
      have hbx := hid (decide_eq_true hx)
      clear hs hx hkn
      rw [hbx.out]
      go_wp2
      go_ret2
      exact ⟨by unfold singleV; rw [hsh.out]; rfl, hcr3.drew.trans hc⟩
     ·rw [if_neg hx] at hs
      have hsh := hid hs
      have hbx := hid (decide_eq_false hx)
      clear hs hx hkn
      rw [hbx.out]
      go_wp2
      go_ret2
      exact ⟨by unfold singleV; rw [hsh.out]; rfl, hcr3.drew.trans hc⟩
   | false =>
    have hbh := hid hb; clear hb
    go_wp2
    go_roundw
    case rel => exact ⟨k + 1, by omega, by go_num, HB3'.out, hid (fun j hj => by
     rcases Nat.lt_succ_iff_lt_or_eq.1 hj with h | rfl
     ·exact hfirst.out j h
     ·exact hbh.out), hcr3⟩
    case measure => simp [intOf]; omega
  ·have hk256 : k = 256 := by omega
   have hs := hid (singleC_none (hk256 ▸ hfirst.out)); clear hk256
   have hd : decide ((k : Int) < 256) = false := decide_eq_false (by omega)
   clear hge hk
   go_wp2
   go_ret2
   exact ⟨by unfold singleV; rw [hs.out]; rfl, hcr⟩
def runsStep (x : Cls) (rs : List (Nat × Nat)) (k : Nat) : List (Nat × Nat) :=
 if x.getLsbD k = true then (if 0 < k ∧ x.getLsbD (k - 1) = true then rs.dropLast ++ [((rs.getLastD (0, 0)).1, k)] else rs ++ [(k, k)]) else rs
def runsTo (x : Cls) (k : Nat) : List (Nat × Nat) := (List.range k).foldl (runsStep x) []
def runsC (x : Cls) : List (Nat × Nat) := runsTo x 256
theorem runsTo_succ (x : Cls) (k : Nat) : runsTo x (k + 1) = runsStep x (runsTo x k) k := by unfold runsTo; rw [List.range_succ, List.foldl_append]; rfl
theorem append_cells {P : Program} {w : World} {ops : Array Oper} {rest : List Oper} {o : Oper} {a : Act} {Q : Exit → Act → World → Prop} (hgd : o.guard = none) (s x : Operand) (t : TypeId)
  (ho : o.op = .call { callee := .builtin .append, args := #[s, x], argTypes := #[t, t] })
  (base : Nat) (e : TypeId) (z : Value) (size bytes : Nat) (ht : P.underlying t = some (.slice e)) (hinfo : (P.info? e).map (fun i => (i.zero, i.size, i.bytes)) = some (some z, size, bytes))
  (hzs : z.cells.size = size) (hsz : 0 < size)
  (A : Option Addr) (c n : Nat) (xs : List Value) (hs : a.eval s = .slice A n c) (hown : w.ownsRow base e size (.slice A n c) n xs)
  (us : List Value) (hx : a.eval x = .slice (some ⟨w.heap.size, 0, none⟩) 1 1) (hul : us.length = size) (h1 : ∀ u ∈ us, u.oneCell' = true)
  (hbytes : (n + 1) * bytes ≤ 140737488355328) (h63 : n + 1 ≤ 9223372036854775807) (hbase : base ≤ w.heap.size)
  (h : ∀ A' c' w', w'.ownsRow base e size (.slice A' (n + 1) c') (n + 1) (xs ++ us) → Chg (Of A) w w' → (∀ k, Of A' k → Of A k ∨ w.heap.size ≤ k) → wpList P ops Q rest (a.put o.dst (.slice A' (n + 1) c')) w') :
  wpList P ops Q (o :: rest) a (w.alloc (.cells us.toArray e)) := by
 refine append_gen hgd s x t ho base e z size bytes ht hinfo hzs hsz A c n xs hs (own_chg hown ((Chg.refl Nothing w).alloc _) (fun _ _ h => h)) (some ⟨w.heap.size, 0, none⟩) 1 1 us hx (by omega) (fun e => by cases e) (Nat.le_refl _) ?_ h1 (by unfold maxLen; omega) hbytes (by rw [World.size_alloc]; omega) ?_
 ·intro ad e; injection e with e; subst e
  intro j u hj
  rw [add_plain]
  exact (Blk.new w _ _).cell _ (by rw [Nat.zero_add]; simpa using hj)
 ·intro A' c' w' h2 h3 _ h4
  refine h A' c' w' h2 (((Chg.refl (Of A) w).alloc _).then h3 (fun k _ h => h)) (fun k hk => ?_)
  rcases h4 k hk with h | h
  ·exact .inl h
  ·right; rw [World.size_alloc] at h; omega
theorem own_base_less {w : World} {b b' : Nat} {e : TypeId} {sz n c : Nat} {A : Option Addr} {vs : List Value} (h : w.ownsRow b e sz (.slice A n c) n vs) (hb : b' ≤ b) : w.ownsRow b' e sz (.slice A n c) n vs := by
 refine ⟨h.1, ?_⟩
 rcases h.2 with hn | ⟨g, cap, cur, e1, hb1, rest⟩
 ·exact .inl hn
 ·exact .inr ⟨g, cap, cur, e1, by omega, rest⟩
def clsL (x : Cls) : List Value := [.int .u64 (wd x 0), .int .u64 (wd x 1), .int .u64 (wd x 2), .int .u64 (wd x 3)]
theorem infoCl : (Tryz.prog.info? 84).map (fun i => (i.zero, i.size, i.bytes)) = some (some (.agg #[.int .u64 0, .int .u64 0, .int .u64 0, .int .u64 0]), 4, 32) := by kernel_rfl
theorem clsL_one (x : Cls) : ∀ u ∈ clsL x, u.oneCell' = true := by intro u hu; unfold clsL at hu; simp at hu; rcases hu with rfl | rfl | rfl | rfl <;> rfl
theorem Chg.cells {W w' : World} (h : Chg Nothing W w') : (∀ b o, b < W.heap.size → w'.cell? ⟨b, o, none⟩ = W.cell? ⟨b, o, none⟩) ∧ (∀ b o, b < W.heap.size → w'.frozen? ⟨b, o, none⟩ = W.frozen? ⟨b, o, none⟩) :=
 ⟨fun b o hb => h.below.cell (p := ⟨b, o, none⟩) hb, fun b o hb => h.below.frozen (p := ⟨b, o, none⟩) hb⟩
theorem classOfL (s : ByteArray) (w : World) (hs : s.size ≤ 9223372036854775807) : Calls Tryz.prog 58 #[.string s] w fun e w' => e = .returned (.agg #[.int .u64 (wd (ofC s) 0), .int .u64 (wd (ofC s) 1), .int .u64 (wd (ofC s) 2), .int .u64 (wd (ofC s) 3)]) ∧ Chg Nothing w w' := classOf_any s w hs
def RHInv (x : Cls) (q b : Nat) (w : World) (v i : Value) (wr : World) : Prop :=
 ∃ (k : Nat) (z : Int), k ≤ b % 64 ∧ i = .int .i64 k ∧ v = .int .u64 z ∧ 0 ≤ z ∧ z ≤ 18446744073709551615 ∧ Hid (z = wd x q / 2 ^ k) ∧ Chg Nothing w wr
theorem refHas_bit (x : Cls) (q j b : Nat) (hj : j < 64) (hb : b = 64 * q + j) (z : Int) (hz : z = wd x q / 2 ^ j) : (z % 2 == 1) = x.getLsbD b := by
 have h4 := wdN_bit x q j
 rw [Nat.testBit_eq_decide_div_mod_eq] at h4
 rw [hb]
 simp only [hj, decide_true, Bool.true_and] at h4
 rw [← h4, hz, wd_eq]
 rw [Bool.eq_iff_iff]
 simp only [beq_iff_eq, decide_eq_true_eq]
 norm_cast
theorem div_again (z : Int) (k : Nat) : z / 2 ^ k / 2 = z / 2 ^ (k + 1) := by
 rw [Int.pow_succ, Int.ediv_ediv_of_nonneg]
 exact Int.le_of_lt (Int.pow_pos (by decide))
set_option maxRecDepth 20000 in
theorem refHas_any (x : Cls) (b : Nat) (w : World) (hb : (b : Int) < 256) :
  Calls Tryz.prog 159 #[encC x, .int .u8 b] w fun e w' => e = .returned (.bool (x.getLsbD b)) ∧ Chg Nothing w w' := by
 unfold encC
 have h0 := wd_lo x 0
 have h00 := wd_hi x 0
 have h1 := wd_lo x 1
 have h10 := wd_hi x 1
 have h2 := wd_lo x 2
 have h20 := wd_hi x 2
 have h3 := wd_lo x 3
 have h30 := wd_hi x 3
 have hq : b / 64 = 0 ∨ b / 64 = 1 ∨ b / 64 = 2 ∨ b / 64 = 3 := by omega
 rcases hq with hq | hq | hq | hq
 all_goals
  go_enter Tryz.func159, Tryz.ntmps159
  go_wp2_with fail
  go_loopw [5, 6] (fun v i wr => RHInv x (b / 64) b w v i wr) (fun _ i _ => 64 - (intOf i).toNat)
  case atStart => exact ⟨0, _, Nat.zero_le _, rfl, rfl, wd_lo _ _, wd_hi _ _, hid (by rw [hq]; simp), (Chg.refl _ _).alloc _⟩
  case round =>
   clear h0 h00 h1 h10 h2 h20 h3 h30
   obtain ⟨k, z, hk, rfl, rfl, hz0, hz1, hz, hcr⟩ := hrel
   rcases Nat.lt_or_ge k (b % 64) with hlt | hge
   ·go_wp2
    go_roundw
    case rel => exact ⟨k + 1, z / 2, by omega, by go_num, by go_num, by omega, by omega, hid (by rw [hz.out]; exact div_again _ _), hcr⟩
    case measure => simp [intOf]; omega
   ·have hkb : k = b % 64 := by omega
    go_wp2
    go_ret
    refine ⟨?_, hcr⟩
    refine congrArg (fun r => Ending.returned (.bool r)) ?_
    exact refHas_bit x (b / 64) (b % 64) b (by omega) (by omega) _ (hkb ▸ hz.out)
def cellsZ (Z : Nat → Int) : Array Value := #[.int .u64 (Z 0), .int .u64 (Z 1), .int .u64 (Z 2), .int .u64 (Z 3)]
def updZ (Z : Nat → Int) (k : Nat) (z : Int) : Nat → Int := fun j => if j = k then z else Z j
abbrev ZBox (w : World) (b : Nat) (Z : Nat → Int) : Prop := Blk w b (cellsZ Z) 84
structure ZAt (w : World) (b : Nat) (Z : Nat → Int) : Prop where
 r0 : w.cell? ⟨b, 0, none⟩ = some (.int .u64 (Z 0))
 r1 : w.cell? ⟨b, 1, none⟩ = some (.int .u64 (Z 1))
 r2 : w.cell? ⟨b, 2, none⟩ = some (.int .u64 (Z 2))
 r3 : w.cell? ⟨b, 3, none⟩ = some (.int .u64 (Z 3))
 f0 : w.frozen? ⟨b, 0, none⟩ = false
 f1 : w.frozen? ⟨b, 1, none⟩ = false
 f2 : w.frozen? ⟨b, 2, none⟩ = false
 f3 : w.frozen? ⟨b, 3, none⟩ = false
 lt : b < w.heap.size
theorem ZBox.at_ {w : World} {b : Nat} {Z : Nat → Int} (h : ZBox w b Z) : ZAt w b Z :=
 ⟨h.cell 0 rfl, h.cell 1 rfl, h.cell 2 rfl, h.cell 3 rfl, h.free 0, h.free 1, h.free 2, h.free 3, h.lt⟩
theorem cellsZ_set (Z : Nat → Int) (k : Nat) (z : Int) (hk : k < 4) : (cellsZ Z).setIfInBounds k (.int .u64 z) = cellsZ (updZ Z k z) := by
 have : k = 0 ∨ k = 1 ∨ k = 2 ∨ k = 3 := by omega
 rcases this with rfl | rfl | rfl | rfl <;> rfl
theorem ZBox.put {w : World} {b : Nat} {Z : Nat → Int} (h : ZBox w b Z) {k : Nat} (hk : k < 4) (z : Int) : ZBox (w.setCell ⟨b, k, none⟩ (.int .u64 z)) b (updZ Z k z) := by
 unfold ZBox; rw [← cellsZ_set Z k z hk]; exact Blk.set h k _
def bytesL (x : Cls) (k : Nat) : List Bool := (List.range k).map x.getLsbD
theorem bytesL_succ (x : Cls) (k : Nat) : bytesL x (k + 1) = bytesL x k ++ [x.getLsbD k] := by unfold bytesL; rw [List.range_succ, List.map_append]; rfl
theorem infoB : (Tryz.prog.info? 4).map (fun i => (i.zero, i.size, i.bytes)) = some (some (.bool false), 1, 1) := by kernel_rfl
def ByInv (x : Cls) (w : World) (o i : Value) (wr : World) : Prop :=
 ∃ (k : Nat) (A : Option Addr) (c : Nat), (k : Int) ≤ 256 ∧ i = .int .i64 k ∧ o = .slice A k c ∧ wr.ownsRow (w.heap.size + 1) 4 1 (.slice A k c) k ((bytesL x k).map Value.bool) ∧ CBox wr w.heap.size x ∧ Chg Nothing w wr
set_option maxRecDepth 20000 in
theorem refBytes_any (x : Cls) (w : World) :
  Calls Tryz.prog 155 #[encC x] w fun e w' => ∃ A c, e = .returned (.slice A 256 c) ∧ w'.ownsRow w.heap.size 4 1 (.slice A 256 c) 256 ((bytesL x 256).map Value.bool) ∧ Chg Nothing w w' := by
 unfold encC
 go_enter Tryz.func155, Tryz.ntmps155
 go_wp2_with fail
 go_loopw [3, 4] (fun o i wr => ByInv x w o i wr) (fun _ i _ => 256 - (intOf i).toNat)
 case atStart => exact ⟨0, none, 0, by omega, rfl, rfl, World.ownsRow_nil _ _ _ _, Blk.new w _ _, (Chg.refl _ _).alloc _⟩
 case round =>
  obtain ⟨k, A, c, hk, rfl, rfl, hown, hB, hcr⟩ := hrel
  obtain ⟨r0, r1, r2, r3, f0, f1, f2, f3, hlt1⟩ := CBox.at_ hB
  have HB := hid hB; clear hB
  have HO := hid hown; clear hown
  have hlg : (k : Int) < 256 ∨ 256 ≤ (k : Int) := by omega
  rcases hlg with hlt | hge
  ·have hwk : (k : Int) % 256 = k := by omega
   go_wp2_with fail
   refine (refHas_any x k wr (by omega)).mono ?_
   rintro e w3 ⟨rfl, hc⟩
   have HB3 := hid (show CBox w3 w.heap.size x from HB.out.chg hc id)
   have HO3 := hid (own_chg HO.out hc (fun _ _ h => h))
   have hcr3 := hcr.trans hc
   have hs3 := hc.size
   clear r0 r1 r2 r3 f0 f1 f2 f3 HB hc hcr HO
   go_wp2_with (at_builtin; refine append_one rfl _ _ 149 rfl (w.heap.size + 1) 4 (.bool false) 1 Tryz.underlying149 infoB rfl A c k _ rfl HO3.out (.bool (x.getLsbD k)) rfl rfl ?_ ?_ ?_ ?_)
   ·omega
   ·omega
   ·omega
   intro A' c' w6 hown6 hc6 hA
   have hown7 := hid (show w6.ownsRow (w.heap.size + 1) 4 1 (.slice A' (k + 1) c') (k + 1) ((bytesL x (k + 1)).map Value.bool) from by rw [bytesL_succ, List.map_append]; exact hown6)
   have oa := own_of HO3.out
   go_wp2
   go_roundw
   case rel => exact ⟨k + 1, A', c', by omega, by go_num, rfl, hown7.out, HB3.out.chg hc6 (fun h => by have := oa _ h; omega), hcr3.then hc6 (fun i hi h => by have := oa _ h; omega)⟩
   case measure => simp [intOf]; omega
  ·have hd : decide ((k : Int) < 256) = false := decide_eq_false (by omega)
   have hk256 : k = 256 := by omega
   have hres := hid (own_base_less HO.out (show w.heap.size ≤ w.heap.size + 1 by omega))
   have hkk := hid hk256
   clear hge hk hk256
   go_wp2
   go_ret
   have hh := hres.out
   rw [hkk.out] at hh
   exact ⟨A, c, by rw [hkk.out]; rfl, hh, hcr⟩
def listP (p : Nat → Bool) : List Bool := (List.range 256).map p
def boolsP (p : Nat → Bool) : Array Value := ((listP p).map Value.bool).toArray
theorem boolsP_size (p : Nat → Bool) : (boolsP p).size = 256 := by simp [boolsP, listP]
theorem boolsP_set (p : Nat → Bool) (k : Nat) (v : Bool) : (boolsP p).setIfInBounds k (.bool v) = boolsP (fun i => if i = k then v else p i) := by
 apply Array.ext
 ·simp [boolsP_size]
 ·intro i h1 h2
  simp [boolsP_size] at h2
  rw [Array.getElem_setIfInBounds]
  simp only [boolsP, listP, List.map_map, List.getElem_toArray, List.getElem_map, List.getElem_range, Function.comp_apply]
  by_cases h : k = i
  ·subst h; simp
  ·rw [if_neg h, if_neg (fun e => h e.symm)]
  simpa [boolsP_size] using h1
abbrev BBox (w : World) (b : Nat) (p : Nat → Bool) : Prop := Blk w b (boolsP p) 4
theorem BBox.put {w : World} {b : Nat} {p : Nat → Bool} (h : BBox w b p) (k : Nat) (v : Bool) : BBox (w.setCell ⟨b, k, none⟩ (.bool v)) b (fun i => if i = k then v else p i) := by
 unfold BBox; rw [← boolsP_set]; exact Blk.set h k _
theorem listP_set (p : Nat → Bool) (k : Nat) (v : Bool) : ((listP p).map Value.bool).set k (.bool v) = (listP (fun i => if i = k then v else p i)).map Value.bool := by
 have := congrArg Array.toList (boolsP_set p k v)
 simpa [boolsP] using this
theorem listP_getD (p : Nat → Bool) {k : Nat} (hk : k < 256) (d : Value) : ((listP p).map Value.bool).getD k d = .bool (p k) := by
 simp [listP, hk]
def PRow (w : World) (base : Nat) (A : Option Addr) (c : Nat) (p : Nat → Bool) : Prop := w.ownsRow base 4 1 (.slice A 256 c) 256 ((listP p).map Value.bool)
theorem PRow.chg {S : Nat → Prop} {w w' : World} {base : Nat} {A : Option Addr} {c : Nat} {p : Nat → Bool} (h : PRow w base A c p) (hc : Chg S w w') (hS : ∀ k, Of A k → ¬ S k) : PRow w' base A c p := own_chg h hc hS
theorem PRow.at_ {w : World} {base : Nat} {A : Option Addr} {c : Nat} {p : Nat → Bool} (h : PRow w base A c p) {k : Nat} (hk : k < 256) :
  ∃ g, A = some ⟨g, 0, none⟩ ∧ base ≤ g ∧ g < w.heap.size ∧ w.cell? ⟨g, k, none⟩ = some (.bool (p k)) ∧ w.frozen? ⟨g, k, none⟩ = false ∧ ∀ v, PRow (w.setCell ⟨g, k, none⟩ (.bool v)) base A c (fun i => if i = k then v else p i) := by
 obtain ⟨g, h1, h2, h3, h4, h5, h6⟩ := own_at h hk (.bool false)
 rw [listP_getD p hk] at h4
 refine ⟨g, h1, h2, h3, h4, h5, fun v => ?_⟩
 have := h6 w (.bool v) ⟨Nothing, Chg.refl _ _, id⟩
 rwa [listP_set] at this
def sizeTo (x : Cls) (k : Nat) : Nat := ((List.range k).filter x.getLsbD).length
def sizeC (x : Cls) : Nat := sizeTo x 256
theorem sizeTo_succ (x : Cls) (k : Nat) : sizeTo x (k + 1) = sizeTo x k + (if x.getLsbD k = true then 1 else 0) := by
 unfold sizeTo; rw [List.range_succ, List.filter_append, List.length_append]
 by_cases h : x.getLsbD k = true <;> simp [h]
theorem sizeTo_le (x : Cls) (k : Nat) : sizeTo x k ≤ k := by
 unfold sizeTo; exact Nat.le_trans (List.length_filter_le _ _) (by simp)
theorem sizeC_two (b : Nat) (hb : b < 256) : sizeC (BitVec.twoPow 256 b) = 1 := by
 have h : ∀ k, k ≤ 256 → sizeTo (BitVec.twoPow 256 b) k = if b < k then 1 else 0 := by
  intro k
  induction k with
  | zero => intro _; simp [sizeTo]
  | succ k ih =>
   intro hk
   rw [sizeTo_succ, ih (by omega), BitVec.getLsbD_twoPow]
   by_cases h : b = k
   ·subst h; simp [hb]
   ·have : (b < k + 1) = (b < k) := propext ⟨fun h => by omega, fun h => by omega⟩
    simp [h, this]
 have := h 256 (Nat.le_refl _)
 rw [if_pos hb] at this; exact this
theorem sizeC_one {x : Cls} (h : sizeC x = 1) : ∃ b, b < 256 ∧ x = BitVec.twoPow 256 b := by
 unfold sizeC sizeTo at h
 obtain ⟨b, hb⟩ := List.length_eq_one_iff.1 h
 have hm : ∀ i, i ∈ (List.range 256).filter x.getLsbD ↔ i = b := by intro i; rw [hb]; simp
 simp only [List.mem_filter, List.mem_range] at hm
 have hb2 := (hm b).2 rfl
 refine ⟨b, hb2.1, cls_ext fun i hi => ?_⟩
 rw [BitVec.getLsbD_twoPow]
 have := hm i
 rw [Bool.eq_iff_iff]
 simp only [Bool.and_eq_true, decide_eq_true_eq]
 constructor
 ·intro h1; exact ⟨hb2.1, ((this.1 ⟨hi, h1⟩)).symm⟩
 ·rintro ⟨_, e⟩; exact (this.2 e.symm).2
theorem singleC_two (b : Nat) (hb : b < 256) : singleC (BitVec.twoPow 256 b) = some b := by
 rw [singleC_hit hb]
 ·simp
 ·intro j hj; rw [BitVec.getLsbD_twoPow]; simp; omega
 ·rw [BitVec.getLsbD_twoPow]; simp [hb]
theorem singleC_not {x : Cls} (h : sizeC x ≠ 1) : singleC x = none := by
 unfold singleC
 cases hf : (List.range 256).find? (fun b => x.getLsbD b) with
 | none => rfl
 | some b =>
  show (if x = BitVec.twoPow 256 b then some b else none) = none
  have hb : b < 256 := by have := List.mem_of_find?_eq_some hf; simpa using this
  rw [if_neg]
  intro e
  exact h (e ▸ sizeC_two b hb)
def RsInv (x : Cls) (w : World) (A : Option Addr) (c : Nat) (s i : Value) (wr : World) : Prop :=
 ∃ (k n : Nat), (k : Int) ≤ 256 ∧ n ≤ k ∧ i = .int .i64 k ∧ s = .int .i64 n ∧ Hid (n = sizeTo x k) ∧ PRow wr (w.heap.size + 1) A c x.getLsbD ∧ Chg Nothing w wr
set_option maxRecDepth 20000 in
theorem refSize_any (x : Cls) (w : World) :
  Calls Tryz.prog 131 #[encC x] w fun e w' => e = .returned (.int .i64 (sizeC x)) ∧ Chg Nothing w w' := by
 unfold encC
 go_enter Tryz.func131, Tryz.ntmps131
 go_wp2_with fail
 refine (refBytes_any x _).mono ?_
 rintro e w1 ⟨A, c, rfl, hrow, hc⟩
 have hcr := ((Chg.refl Nothing w).alloc _).trans hc
 have HR := hid (show PRow w1 (w.heap.size + 1) A c x.getLsbD from by have := hrow; simp only [World.size_alloc] at this; exact this)
 clear hrow hc
 go_wp2_with fail
 go_loopw [3, 5] (fun s i wr => RsInv x w A c s i wr) (fun _ i _ => 256 - (intOf i).toNat)
 case atStart => exact ⟨0, 0, by omega, by omega, rfl, rfl, hid (by simp [sizeTo]), HR.out, hcr⟩
 case round =>
  clear HR hcr
  obtain ⟨k, n, hk, hnk, rfl, rfl, hn, hR, hcr⟩ := hrel
  have HR := hid hR; clear hR
  have hlg : (k : Int) < 256 ∨ 256 ≤ (k : Int) := by omega
  rcases hlg with hlt | hge
  ·obtain ⟨g, rfl, hg1, hg2, hcell, hfr, hput⟩ := HR.out.at_ (show k < 256 by omega)
   clear hput
   have hss := hid (sizeTo_succ x k)
   cases hv : x.getLsbD k with
   | true =>
    rw [hv] at hcell
    have hvv := hid hv
    clear hv
    go_wp2
    go_roundw
    case rel => exact ⟨k + 1, n + 1, by omega, by omega, by go_num, by go_num, hid (by rw [hss.out, hvv.out, ← hn.out]; rfl), HR.out, hcr⟩
    case measure => simp [intOf]; omega
   | false =>
    rw [hv] at hcell
    have hvv := hid hv
    clear hv
    go_wp2
    go_roundw
    case rel => exact ⟨k + 1, n, by omega, by omega, by go_num, rfl, hid (by rw [hss.out, hvv.out, ← hn.out]; rfl), HR.out, hcr⟩
    case measure => simp [intOf]; omega
  ·have hk256 : k = 256 := by omega
   have E1 := hid (show n = sizeC x from by rw [hn.out, hk256]; rfl)
   have hd : decide ((k : Int) < 256) = false := decide_eq_false (by omega)
   clear hge hk hk256 hn
   go_wp2
   go_ret
   exact ⟨by rw [E1.out]; rfl, hcr⟩
def RgInv (w : World) (b : Nat) (i : Value) (wr : World) : Prop :=
 ∃ (k : Nat), k ≤ b ∧ i = .int .i64 k ∧ CBox wr w.heap.size (BitVec.twoPow 256 b) ∧ Chg Nothing w wr
set_option maxRecDepth 20000 in
theorem refSingle_any (x : Cls) (w : World) :
  Calls Tryz.prog 138 #[encC x] w fun e w' => e = .returned (.tuple (singleV x)) ∧ Chg Nothing w w' := by
 unfold encC
 by_cases hs : sizeC x = 1
 ·obtain ⟨b, hb, rfl⟩ := sizeC_one hs
  have hb' : (b : Int) < 256 := by omega
  go_enter Tryz.func138, Tryz.ntmps138
  go_wp2_with fail
  refine (refSize_any _ _).mono ?_
  rintro e w1 ⟨rfl, hc⟩
  rw [hs]
  have hB1 := hid (show CBox w1 w.heap.size (BitVec.twoPow 256 b) from Blk.chg (Blk.new w _ _) hc id)
  have hcr := ((Chg.refl Nothing w).alloc _).trans hc
  clear hc hs
  go_wp2_with fail
  go_loopw [4] (fun i wr => RgInv w b i wr) (fun i _ => b - (intOf i).toNat)
  case atStart => exact ⟨0, Nat.zero_le _, rfl, hB1.out, hcr⟩
  case round =>
   clear hB1 hcr
   obtain ⟨k, hk, rfl, hB, hcr⟩ := hrel
   obtain ⟨r0, r1, r2, r3, f0, f1, f2, f3, hlt1⟩ := CBox.at_ hB
   have HB := hid hB; clear hB
   have hwk : (k : Int) % 256 = k := by omega
   go_wp2_with fail
   refine (refHas_any _ k wr (by omega)).mono ?_
   rintro e w3 ⟨rfl, hc⟩
   have HB3 := hid (show CBox w3 w.heap.size (BitVec.twoPow 256 b) from HB.out.chg hc id)
   have hcr3 := hcr.trans hc
   clear r0 r1 r2 r3 f0 f1 f2 f3 hlt1 HB hc hcr
   have hbit : (BitVec.twoPow 256 b).getLsbD k = decide (b = k) := by rw [BitVec.getLsbD_twoPow]; simp [hb]
   rw [hbit]
   clear hbit
   by_cases e : b = k
   ·have hd := hid (decide_eq_true e)
    rw [hd.out]
    have hbk := hid e
    clear e hd
    go_wp2
    go_ret2
    exact ⟨by unfold singleV; rw [singleC_two b hb, hbk.out]; rfl, hcr3⟩
   ·have hd := hid (decide_eq_false e)
    have hkb : k < b := by omega
    rw [hd.out]
    clear e hd
    go_wp2
    go_roundw
    case rel => exact ⟨k + 1, by omega, by go_num, HB3.out, hcr3⟩
    case measure => simp [intOf]; omega
 ·have hn := hid (singleC_not hs)
  have hs' : (sizeC x : Int) ≠ 1 := by omega
  clear hs
  go_enter Tryz.func138, Tryz.ntmps138
  go_wp2_with fail
  refine (refSize_any _ _).mono ?_
  rintro e w1 ⟨rfl, hc⟩
  go_wp2
  go_ret2
  exact ⟨by unfold singleV; rw [hn.out]; rfl, ((Chg.refl Nothing w).alloc _).trans hc⟩
end Go.Proofs.YtoelilejohfglaaGreat
