/- Layer 6 as the document has it: Has, Make, bytes. -/
import Derived.Test.YtpndjehiacmngaaClassD
namespace Go.Proofs.Ytpndjehiacmngaa
open Go.RowKit
set_option linter.unusedVariables false

def RHInv (x : Cls) (q b : Nat) (w : World) (v i : Value) (wr : World) : Prop :=
  ∃ (k : Nat) (z : Int), k ≤ b % 64 ∧ i = .int .i64 k ∧ v = .int .u64 z ∧ 0 ≤ z ∧ z ≤ 18446744073709551615 ∧ Hid (z = wd x q / 2 ^ k) ∧ Chg Nothing w wr
theorem refHas_bit (x : Cls) (q j b : Nat) (hj : j < 64) (hb : b = 64 * q + j) (z : Int) (hz : z = wd x q / 2 ^ j) : (z % 2 == 1) = x.getLsbD b := by
  have h4 := wdN_bit x q j
  rw [Nat.testBit_eq_decide_div_mod_eq] at h4
  rw [hb]
  simp only [hj, decide_true, Bool.true_and] at h4
  rw [← h4, hz, wd_eq]
  rw [Bool.eq_iff_iff]
  simp only [beq_iff_eq, decide_eq_true_eq]
  norm_cast
theorem div_again (z : Int) (k : Nat) : z / 2 ^ k / 2 = z / 2 ^ (k + 1) := by
  rw [Int.pow_succ, Int.ediv_ediv_of_nonneg]
  exact Int.le_of_lt (Int.pow_pos (by decide))

set_option maxRecDepth 20000 in
set_option maxHeartbeats 2000000 in
theorem refHas_any (x : Cls) (b : Nat) (w : World) (hb : (b : Int) < 256) :
    Calls Try.prog 47 #[encC x, .int .u8 b] w fun e w' => e = .returned (.bool (x.getLsbD b)) ∧ Chg Nothing w w' := by
  unfold encC
  have h0 := wd_lo x 0
  have h00 := wd_hi x 0
  have h1 := wd_lo x 1
  have h10 := wd_hi x 1
  have h2 := wd_lo x 2
  have h20 := wd_hi x 2
  have h3 := wd_lo x 3
  have h30 := wd_hi x 3
  have hq : b / 64 = 0 ∨ b / 64 = 1 ∨ b / 64 = 2 ∨ b / 64 = 3 := by omega
  rcases hq with hq | hq | hq | hq
  all_goals
    go_enter Try.func47, Try.ntmps47
    go_wp2_with fail
    go_loopw [5, 6] (fun v i wr => RHInv x (b / 64) b w v i wr) (fun _ i _ => 64 - (intOf i).toNat)
    case atStart => exact ⟨0, _, Nat.zero_le _, rfl, rfl, wd_lo _ _, wd_hi _ _, hid (by rw [hq]; simp), (Chg.refl _ _).alloc _⟩
    case round =>
      clear h0 h00 h1 h10 h2 h20 h3 h30
      obtain ⟨k, z, hk, rfl, rfl, hz0, hz1, hz, hcr⟩ := hrel
      rcases Nat.lt_or_ge k (b % 64) with hlt | hge
      · go_wp2
        go_roundw
        case rel => exact ⟨k + 1, z / 2, by omega, by go_num, by go_num, by omega, by omega, hid (by rw [hz.out]; exact div_again _ _), hcr⟩
        case measure => simp [intOf]; omega
      · have hkb : k = b % 64 := by omega
        go_wp2
        go_ret
        refine ⟨?_, hcr⟩
        refine congrArg (fun r => Ending.returned (.bool r)) ?_
        exact refHas_bit x (b / 64) (b % 64) b (by omega) (by omega) _ (hkb ▸ hz.out)
end Go.Proofs.Ytpndjehiacmngaa
