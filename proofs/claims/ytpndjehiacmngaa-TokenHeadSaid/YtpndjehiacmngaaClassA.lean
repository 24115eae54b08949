/- Layer 6, class: a set of bytes as 256 bits; what class's functions compute. -/
import Derived.Test.YtpndjehiacmngaaRows
import Derived.Test.YtpndjehiacmngaaLib
import Derived.Deep.QuietTactic
import Derived.BigQuiet
import Derived.BigRegion
namespace Go.Proofs.Ytpndjehiacmngaa
open Go.RowKit
set_option linter.unusedVariables false

/-- A set of bytes. -/
abbrev Cls := BitVec 256
def wd (x : Cls) (k : Nat) : Int := ((x.extractLsb' (64 * k) 64).toNat : Int)
theorem wd_lo (x : Cls) (k : Nat) : 0 ≤ wd x k := by unfold wd; omega
theorem wd_hi (x : Cls) (k : Nat) : wd x k ≤ 18446744073709551615 := by unfold wd; have := (x.extractLsb' (64 * k) 64).isLt; omega
def encC (x : Cls) : Value := .agg #[.int .u64 (wd x 0), .int .u64 (wd x 1), .int .u64 (wd x 2), .int .u64 (wd x 3)]

/-! ### Words, bit by bit -/
theorem u64_wrap (n : Int) (h0 : 0 ≤ n) (h1 : n < 2 ^ 64) : IntKind.u64.wrap n = n := by
  have : IntKind.u64.wrap n = n % 18446744073709551616 := by simp [IntKind.wrap, IntKind.bits, IntKind.signed]
  rw [this]; omega
def wdN (x : Cls) (k : Nat) : Nat := (x.extractLsb' (64 * k) 64).toNat
theorem wd_eq (x : Cls) (k : Nat) : wd x k = (wdN x k : Int) := rfl
theorem wdN_lt (x : Cls) (k : Nat) : wdN x k < 2 ^ 64 := (x.extractLsb' (64 * k) 64).isLt
theorem wdN_bit (x : Cls) (k j : Nat) : (wdN x k).testBit j = (decide (j < 64) && x.getLsbD (64 * k + j)) := by
  unfold wdN
  rw [BitVec.testBit_toNat, BitVec.getLsbD_extractLsb']
theorem wdN_ext {x : Cls} {k n : Nat} (hn : n < 2 ^ 64) (h : ∀ j, j < 64 → n.testBit j = x.getLsbD (64 * k + j)) : n = wdN x k := by
  apply Nat.eq_of_testBit_eq
  intro j
  rw [wdN_bit]
  by_cases hj : j < 64
  · rw [h j hj]; simp [hj]
  · have : n < 2 ^ j := Nat.lt_of_lt_of_le hn (Nat.pow_le_pow_right (by decide) (by omega))
    rw [Nat.testBit_lt_two_pow this]; simp [hj]
theorem has_bit (x : Cls) (k j b : Nat) (hj : j < 64) (hb : b = 64 * k + j) : (bits .and .u64 (wd x k / 2 ^ j) 1 == 1) = x.getLsbD b := by
  have h1 : wd x k / 2 ^ j = ((wdN x k / 2 ^ j : Nat) : Int) := by rw [wd_eq]; norm_cast
  have h2 : wdN x k / 2 ^ j < 2 ^ 64 := Nat.lt_of_le_of_lt (Nat.div_le_self _ _) (wdN_lt x k)
  have h3 := (bits_nat .u64 64 (by decide) u64_wrap (wdN x k / 2 ^ j) 1 h2 (by decide)).1
  rw [h1, show (1 : Int) = ((1 : Nat) : Int) from rfl, h3, Nat.and_one_is_mod]
  have h4 := wdN_bit x k j
  rw [Nat.testBit_eq_decide_div_mod_eq] at h4
  rw [hb]
  simp only [hj, decide_true, Bool.true_and] at h4
  rw [← h4, Bool.eq_iff_iff]
  simp only [beq_iff_eq, decide_eq_true_eq]
  omega
theorem or_word (x y : Cls) (k : Nat) : bits .or .u64 (wd x k) (wd y k) = wd (x ||| y) k := by
  rw [wd_eq, wd_eq, wd_eq, (bits_nat .u64 64 (by decide) u64_wrap _ _ (wdN_lt x k) (wdN_lt y k)).2]
  congr 1
  refine wdN_ext (Nat.or_lt_two_pow (wdN_lt x k) (wdN_lt y k)) fun j hj => ?_
  rw [Nat.testBit_or, wdN_bit, wdN_bit, BitVec.getLsbD_or]; simp [hj]
theorem with_word (x : Cls) (k j b : Nat) (hj : j < 64) (hb : b = 64 * k + j) (hb2 : b < 256) : bits .or .u64 (wd x k) (IntKind.u64.wrap (2 ^ j)) = wd (x ||| BitVec.twoPow 256 b) k := by
  have h1 : IntKind.u64.wrap (2 ^ j) = wd (BitVec.twoPow 256 b) k := by
    have hp : 2 ^ j < 2 ^ 64 := Nat.pow_lt_pow_right (by decide) hj
    rw [u64_wrap _ (by exact_mod_cast Nat.zero_le _) (by exact_mod_cast hp), wd_eq]
    have : (2 ^ j : Nat) = wdN (BitVec.twoPow 256 b) k := by
      refine wdN_ext hp fun i hi => ?_
      rw [Nat.testBit_two_pow, BitVec.getLsbD_twoPow, hb]
      have : 64 * k + j < 256 := by omega
      simp only [this, decide_true, Bool.true_and]
      rw [decide_eq_decide]; omega
    rw [← this]; norm_cast
  rw [h1, or_word]
theorem with_other (x : Cls) (k b : Nat) (hb2 : b < 256) (hk : b / 64 ≠ k) : wd (x ||| BitVec.twoPow 256 b) k = wd x k := by
  rw [wd_eq, wd_eq]
  congr 1
  symm
  refine wdN_ext (wdN_lt _ _) fun j hj => ?_
  rw [wdN_bit, BitVec.getLsbD_or, BitVec.getLsbD_twoPow]
  have : ¬ b = 64 * k + j := by omega
  simp [hj, this]
theorem not_word' (x : Cls) (k : Nat) (hk : k < 4) : 18446744073709551615 - wd x k = wd (~~~ x) k := by
  rw [wd_eq, wd_eq]
  have hlt := wdN_lt x k
  have h : 2 ^ 64 - 1 - wdN x k = wdN (~~~ x) k := by
    refine wdN_ext (by omega) fun j hj => ?_
    rw [show 2 ^ 64 - 1 - wdN x k = 2 ^ 64 - (wdN x k + 1) from by omega, Nat.testBit_two_pow_sub_succ hlt, wdN_bit, BitVec.getLsbD_not]
    have : 64 * k + j < 256 := by omega
    simp [hj, this]
  rw [← h]; omega
theorem not_word (x : Cls) (k : Nat) (hk : k < 4) : bits .xor .u64 IntKind.u64.max (wd x k) = wd (~~~ x) k := by
  rw [← not_word' x k hk, wd_eq]
  have hlt := wdN_lt x k
  have h0 : bits .xor .u64 IntKind.u64.max (wdN x k : Int) = IntKind.u64.wrap (((BitVec.ofInt 64 18446744073709551615 ^^^ BitVec.ofInt 64 (wdN x k : Int)).toNat : Nat) : Int) := rfl
  have h1 : (BitVec.ofInt 64 18446744073709551615 ^^^ BitVec.ofInt 64 (wdN x k : Int)) = ~~~ (BitVec.ofNat 64 (wdN x k)) := by
    rw [BitVec.ofInt_natCast, show BitVec.ofInt 64 18446744073709551615 = BitVec.allOnes 64 from by decide, BitVec.allOnes_xor]
  have h2 : ((BitVec.ofInt 64 18446744073709551615 ^^^ BitVec.ofInt 64 (wdN x k : Int)).toNat : Int) = 18446744073709551615 - (wdN x k : Int) := by
    rw [h1, BitVec.toNat_not, BitVec.toNat_ofNat, Nat.mod_eq_of_lt hlt]; omega
  rw [h0, h2, u64_wrap _ (by omega) (by omega)]

set_option maxHeartbeats 1000000 in
theorem classHas_any (x : Cls) (b : Nat) (w : World) (hb : b < 256) :
    Calls Try.prog 44 #[encC x, .int .u8 b] w fun e w' => e = .returned (.bool (x.getLsbD b)) ∧ Chg Nothing w w' := by
  unfold encC
  have h0 := wd_lo x 0
  have h00 := wd_hi x 0
  have h1 := wd_lo x 1
  have h10 := wd_hi x 1
  have h2 := wd_lo x 2
  have h20 := wd_hi x 2
  have h3 := wd_lo x 3
  have h30 := wd_hi x 3
  have hq : b / 64 = 0 ∨ b / 64 = 1 ∨ b / 64 = 2 ∨ b / 64 = 3 := by omega
  rcases hq with hq | hq | hq | hq
  all_goals
    go_enter Try.func44, Try.ntmps44
    go_wp2_with fail
    go_ret
    refine ⟨?_, (Chg.refl _ _).alloc _⟩
    refine congrArg (fun r => Ending.returned (.bool r)) ?_
    exact has_bit x _ (b % 64) b (by omega) (by omega)

set_option maxHeartbeats 1000000 in
theorem classWith_any (x : Cls) (b : Nat) (w : World) (hb : b < 256) :
    Calls Try.prog 35 #[encC x, .int .u8 b] w fun e w' => e = .returned (encC (x ||| BitVec.twoPow 256 b)) ∧ Chg Nothing w w' := by
  unfold encC
  have h0 := wd_lo x 0
  have h00 := wd_hi x 0
  have h1 := wd_lo x 1
  have h10 := wd_hi x 1
  have h2 := wd_lo x 2
  have h20 := wd_hi x 2
  have h3 := wd_lo x 3
  have h30 := wd_hi x 3
  have hq : b / 64 = 0 ∨ b / 64 = 1 ∨ b / 64 = 2 ∨ b / 64 = 3 := by omega
  rcases hq with hq | hq | hq | hq
  · have e0 := with_word x 0 (b % 64) b (by omega) (by omega) hb
    have e1 := with_other x 1 b hb (by omega)
    have e2 := with_other x 2 b hb (by omega)
    have e3 := with_other x 3 b hb (by omega)
    rw [← e0, e1, e2, e3]
    clear e0 e1 e2 e3
    go_enter Try.func35, Try.ntmps35
    go_wp2_with fail
    exact bodyPost_ret (v := .agg #[.int .u64 (bits .or .u64 (wd x 0) (IntKind.u64.wrap (2 ^ (b % 64)))), .int .u64 (wd x 1), .int .u64 (wd x 2), .int .u64 (wd x 3)]) (by simp [results, Try.results35, go_sem]) rfl ⟨rfl, ((Chg.refl _ _).alloc _).alloc _⟩
  · have e0 := with_word x 1 (b % 64) b (by omega) (by omega) hb
    have e1 := with_other x 0 b hb (by omega)
    have e2 := with_other x 2 b hb (by omega)
    have e3 := with_other x 3 b hb (by omega)
    rw [← e0, e1, e2, e3]
    clear e0 e1 e2 e3
    go_enter Try.func35, Try.ntmps35
    go_wp2_with fail
    exact bodyPost_ret (v := .agg #[.int .u64 (wd x 0), .int .u64 (bits .or .u64 (wd x 1) (IntKind.u64.wrap (2 ^ (b % 64)))), .int .u64 (wd x 2), .int .u64 (wd x 3)]) (by simp [results, Try.results35, go_sem]) rfl ⟨rfl, ((Chg.refl _ _).alloc _).alloc _⟩
  · have e0 := with_word x 2 (b % 64) b (by omega) (by omega) hb
    have e1 := with_other x 0 b hb (by omega)
    have e2 := with_other x 1 b hb (by omega)
    have e3 := with_other x 3 b hb (by omega)
    rw [← e0, e1, e2, e3]
    clear e0 e1 e2 e3
    go_enter Try.func35, Try.ntmps35
    go_wp2_with fail
    exact bodyPost_ret (v := .agg #[.int .u64 (wd x 0), .int .u64 (wd x 1), .int .u64 (bits .or .u64 (wd x 2) (IntKind.u64.wrap (2 ^ (b % 64)))), .int .u64 (wd x 3)]) (by simp [results, Try.results35, go_sem]) rfl ⟨rfl, ((Chg.refl _ _).alloc _).alloc _⟩
  · have e0 := with_word x 3 (b % 64) b (by omega) (by omega) hb
    have e1 := with_other x 0 b hb (by omega)
    have e2 := with_other x 1 b hb (by omega)
    have e3 := with_other x 2 b hb (by omega)
    rw [← e0, e1, e2, e3]
    clear e0 e1 e2 e3
    go_enter Try.func35, Try.ntmps35
    go_wp2_with fail
    exact bodyPost_ret (v := .agg #[.int .u64 (wd x 0), .int .u64 (wd x 1), .int .u64 (wd x 2), .int .u64 (bits .or .u64 (wd x 3) (IntKind.u64.wrap (2 ^ (b % 64))))]) (by simp [results, Try.results35, go_sem]) rfl ⟨rfl, ((Chg.refl _ _).alloc _).alloc _⟩

set_option maxHeartbeats 2000000 in
theorem classOr_any (x y : Cls) (w : World) :
    Calls Try.prog 59 #[encC x, encC y] w fun e w' => e = .returned (encC (x ||| y)) ∧ Chg Nothing w w' := by
  unfold encC
  rw [← or_word, ← or_word, ← or_word, ← or_word]
  go_enter Try.func59, Try.ntmps59
  go_wp2_with fail
  refine wp_loop_rounds 5 ?_
  iterate 4 (rw [rounds_succ]; go_wp2; go_region; go_wp2)
  rw [rounds_succ]
  go_wp2
  exact bodyPost_ret (v := .agg #[.int .u64 (bits .or .u64 (wd x 0) (wd y 0)), .int .u64 (bits .or .u64 (wd x 1) (wd y 1)), .int .u64 (bits .or .u64 (wd x 2) (wd y 2)), .int .u64 (bits .or .u64 (wd x 3) (wd y 3))]) (by simp [results, Try.results59, go_sem]) rfl ⟨rfl, by repeat (first | exact Chg.refl _ _ | with_reducible apply Chg.alloc | with_reducible apply Chg.drewN | with_reducible apply Chg.drew)⟩
set_option maxHeartbeats 2000000 in
theorem classNot_any (x : Cls) (w : World) :
    Calls Try.prog 43 #[encC x] w fun e w' => e = .returned (encC (~~~ x)) ∧ Chg Nothing w w' := by
  unfold encC
  rw [← not_word x 0 (by omega), ← not_word x 1 (by omega), ← not_word x 2 (by omega), ← not_word x 3 (by omega)]
  go_enter Try.func43, Try.ntmps43
  go_wp2_with fail
  refine wp_loop_rounds 5 ?_
  iterate 4 (rw [rounds_succ]; go_wp2)
  rw [rounds_succ]
  go_wp2
  exact bodyPost_ret (v := .agg #[.int .u64 (bits .xor .u64 IntKind.u64.max (wd x 0)), .int .u64 (bits .xor .u64 IntKind.u64.max (wd x 1)), .int .u64 (bits .xor .u64 IntKind.u64.max (wd x 2)), .int .u64 (bits .xor .u64 IntKind.u64.max (wd x 3))]) (by simp [results, Try.results43, go_sem]) rfl ⟨rfl, ((Chg.refl _ _).alloc _).alloc _⟩

/-- The empty class, as a literal. -/
theorem wd_zero (k : Nat) : wd 0 k = 0 := by
  rw [wd_eq]; have : (0 : Nat) = wdN 0 k := wdN_ext (by decide) (fun j _ => by simp)
  rw [← this]; rfl
theorem encC_zero : encC 0 = .agg #[.int .u64 0, .int .u64 0, .int .u64 0, .int .u64 0] := by unfold encC; simp only [wd_zero]
theorem wd_inj {x y : Cls} (h : ∀ k, k < 4 → wd x k = wd y k) : x = y := by
  apply BitVec.eq_of_getLsbD_eq
  intro i hi
  have h1 := h (i / 64) (by omega)
  rw [wd_eq, wd_eq] at h1
  have h2 : wdN x (i / 64) = wdN y (i / 64) := by exact_mod_cast h1
  have h3 := wdN_bit x (i / 64) (i % 64)
  have h4 := wdN_bit y (i / 64) (i % 64)
  rw [h2, h4] at h3
  have e : 64 * (i / 64) + i % 64 = i := by omega
  have hl : i % 64 < 64 := by omega
  rw [e] at h3
  simpa [hl] using h3.symm
theorem encC_inj {x y : Cls} (h : encC x = encC y) : x = y := by
  unfold encC at h
  simp only [Value.agg.injEq] at h
  apply wd_inj
  intro k hk
  have : k = 0 ∨ k = 1 ∨ k = 2 ∨ k = 3 := by omega
  simp at h
  rcases this with rfl | rfl | rfl | rfl
  · exact h.1
  · exact h.2.1
  · exact h.2.2.1
  · exact h.2.2.2

/-- All bytes. -/
def fullC : Cls := BitVec.allOnes 256
theorem fullC_eq : ~~~ (0 : Cls) = fullC := by decide
theorem fullC_get {b : Nat} (h : b < 256) : fullC.getLsbD b = true := by unfold fullC; rw [BitVec.getLsbD_allOnes]; simp [h]

set_option maxHeartbeats 400000 in
theorem classFull_any (w : World) : Calls Try.prog 24 #[] w fun e w' => e = .returned (encC fullC) ∧ Chg Nothing w w' := by
  go_enter Try.func24, Try.ntmps24
  go_wp2_with fail
  rw [← encC_zero]
  have hB := Blk.new w #[.int .u64 0, .int .u64 0, .int .u64 0, .int .u64 0] 35
  refine (classNot_any 0 _).mono ?_
  rintro e w1 ⟨rfl, hc⟩
  replace hB := hB.chg hc id
  have hlt := hB.lt
  have hC := (Chg.refl Nothing w).alloc (.cells #[.int .u64 0, .int .u64 0, .int .u64 0, .int .u64 0] 35)
  have hC1 := hC.trans hc
  have r0 := hB.cell 0 (v := .int .u64 0) rfl
  have r1 := hB.cell 1 (v := .int .u64 0) rfl
  have r2 := hB.cell 2 (v := .int .u64 0) rfl
  have r3 := hB.cell 3 (v := .int .u64 0) rfl
  have f0 := hB.free 0
  have f1 := hB.free 1
  have f2 := hB.free 2
  have f3 := hB.free 3
  have HB := hid hB; clear hB hc
  rw [fullC_eq]
  unfold encC
  go_wp2
  refine bodyPost_ret (v := encC fullC) ?_ rfl ⟨rfl, ?_⟩
  · simp [results, Try.results24, go_sem, encC, r0, r1, r2, r3]
  · exact (((hC1.setNew (Nat.le_refl _) 0 _).setNew (Nat.le_refl _) 1 _).setNew (Nat.le_refl _) 2 _).setNew (Nat.le_refl _) 3 _

end Go.Proofs.Ytpndjehiacmngaa
