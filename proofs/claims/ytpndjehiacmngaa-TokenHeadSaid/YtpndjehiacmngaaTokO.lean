/- Layer 13: the document's number, kind. -/
import Derived.Test.YtpndjehiacmngaaTokN
namespace Go.Proofs.Ytpndjehiacmngaa
open Go.RowKit
set_option linter.unusedVariables false
def gotN (F : Rd Nat) : Value := .agg #[.int .u8 0, .int .u64 0, .int .u64 0, .int .u64 0, .int .u64 0, .slice none 0 0, .int .i64 (F.val 0 : Nat), .int .i64 (F.at_ : Nat), .int .i64 F.no]
def RnmInv (s : ByteArray) (a m : Nat) (w : World) (tv nv : Value) (wr : World) : Prop :=
  ∃ (j : Nat) (q : Nat), j ≤ m ∧ a + j ≤ s.size ∧ tv = .int .i64 (a + j : Nat) ∧ nv = .int .i64 q ∧ q ≤ 10000009 ∧ Hid (valD s a j ≤ 1000000 → q = valD s a j) ∧ Hid (1000000 < valD s a j → 1000000 < q) ∧ Blk wr w.heap.size #[.int .u8 0, .int .u64 0, .int .u64 0, .int .u64 0, .int .u64 0, .slice none 0 0, .int .i64 0, .int .i64 0, .int .i64 0] 57 ∧ Chg Nothing w wr
theorem infoG' : (Try.prog.info? 57).map (·.size) = some 9 := by kernel_rfl
set_option maxHeartbeats 4000000 in
set_option maxRecDepth 100000 in
theorem refNumber_any (s : ByteArray) (a m : Nat) (w : World) (hs : s.size ≤ 9223372036854775000) (ha : a ≤ s.size) (hd : DigRun s a m) :
    Calls Try.prog 42 #[.string s, .int .i64 a] w fun e w' => e = .returned (gotN (numS s a m)) ∧ Chg Nothing w w' := by
  have hD := hid hd
  clear hd
  go_enter Try.func42, Try.ntmps42
  go_wp2_with fail
  go_loopw [5, 6] (fun tv nv wr => RnmInv s a m w tv nv wr) (fun tv _ _ => s.size - (intOf tv).toNat)
  case atStart => exact ⟨0, 0, Nat.zero_le _, by omega, rfl, rfl, by omega, hid (fun _ => rfl), hid (fun h => by simp [valD] at h), Blk.new w _ _, (Chg.refl _ _).alloc _⟩
  case round =>
    obtain ⟨j, q, hj, hk, rfl, rfl, hq9, hqv, hqm, hG, hchg⟩ := hrel
    have HG := hid hG
    have hgl := hG.lt
    clear hG
    obtain ⟨k, hkk⟩ : ∃ k, k = a + j := ⟨_, rfl⟩
    rw [← hkk] at hk ⊢
    have hka := hid hkk
    have hkl : a ≤ k := by omega
    rcases Nat.lt_or_ge j m with hjm | hjm
    · have hdig := hD.out.yes j hjm
      rw [← hka.out] at hdig
      obtain ⟨hks, hd48, hd57⟩ := hdig
      have hsu := hid (show valD s a (j + 1) = 10 * valD s a j + (byteAt s k - 48) from by rw [hka.out]; rfl)
      clear hkk
      have hg := byteAt_eq hks
      have hc0 : decide ((k : Int) < (s.size : Int)) = true := decide_eq_true (by omega)
      have hc1 : decide ((48 : Int) ≤ ((byteAt s k : Nat) : Int)) = true := decide_eq_true (by omega)
      have hc2 : decide (((byteAt s k : Nat) : Int) ≤ 57) = true := decide_eq_true (by omega)
      by_cases hq : q ≤ 1000000
      · go_wp2
        go_roundw
        case rel =>
          refine ⟨j + 1, 10 * q + (byteAt s k - 48), hjm, by have := hka.out; omega, congrArg (Value.int .i64) (by have := hka.out; omega), congrArg (Value.int .i64) (by omega), by omega, hid (fun h => ?_), hid (fun h => ?_), HG.out, hchg⟩
          · have := hsu.out; have := hqv.out (by omega); omega
          · have h1 := hsu.out
            rcases Nat.lt_or_ge 1000000 (valD s a j) with h2 | h2
            · have := hqm.out h2; omega
            · have := hqv.out h2; omega
        case measure => simp [intOf]; omega
      · go_wp2
        go_roundw
        case rel =>
          refine ⟨j + 1, q, hjm, by have := hka.out; omega, congrArg (Value.int .i64) (by have := hka.out; omega), rfl, by omega, hid (fun h => ?_), hid (fun h => by omega), HG.out, hchg⟩
          have h1 := hsu.out
          rcases Nat.lt_or_ge 1000000 (valD s a j) with h2 | h2
          · omega
          · have := hqv.out h2; omega
        case measure => simp [intOf]; omega
    · have hjm' : j = m := by omega
      subst hjm'
      have hnd := hD.out.no
      rw [← hka.out] at hnd
      clear hkk
      have hout : s.size ≤ k ∨ (k < s.size ∧ byteAt s k < 48) ∨ (k < s.size ∧ 57 < byteAt s k ∧ 48 ≤ byteAt s k) := by
        unfold isDig at hnd; omega
      clear hnd hjm hj
      have hfin : (j = 0) ∨ (0 < j ∧ byteAt s a = 48 ∧ 1 < j) ∨ (0 < j ∧ byteAt s a = 48 ∧ j = 1) ∨ (0 < j ∧ byteAt s a ≠ 48 ∧ 1000000 < valD s a j) ∨ (0 < j ∧ byteAt s a ≠ 48 ∧ valD s a j ≤ 1000000) := by omega
      have hone : j = 1 → byteAt s a = 48 → valD s a j = 0 := by intro e1 e2; subst e1; simp [valD, e2]
      have hnu := hid (show numS s a j = if j = 0 ∨ (byteAt s a = 48 ∧ 1 < j) ∨ 1000000 < valD s a j then .bad a 134 else .ok (valD s a j) (a + j) from rfl)
      have hjs : 0 < j → a < s.size := fun h => by have := hD.out.yes 0 h; unfold isDig at this; omega
      rcases hout with h1 | ⟨h1, h2⟩ | ⟨h1, h2, h3⟩
      · rcases hfin with e0 | ⟨e0, e1, e2⟩ | ⟨e0, e1, e2⟩ | ⟨e0, e1, e2⟩ | ⟨e0, e1, e2⟩
        · have e1 : k = a := by have := hka.out; omega
          have hF := hid (show numS s a j = .bad a 134 from by rw [hnu.out, if_pos (Or.inl e0)])
          have ht : (((k : Nat) : Int) == (a : Int)) = true := beq_iff_eq.2 (by omega)
          replace e0 := hid e0
          replace e1 := hid e1
          clear hone
          clear hjs
          have hc0 : decide ((k : Int) < (s.size : Int)) = false := decide_eq_false (by omega)
          go_wp2_with (with_reducible refine halt_op (.store 57 (.tmp 4) (.tmp 56)) ?_)
          unfold Halted
          refine store_blk rfl 57 (.tmp 4) (.tmp 56) (by rfl) _ (by rfl) _ (by rfl) HG.out (by rfl) (by exact infoG') (by rfl) ?_
          intro wz HR hr
          go_wp2
          exact bodyPost_ret (results_cell_row Try.results42 _ _ _ _ _ _ _ (by rfl) HR Try.underlying57 rfl (by exact infoG')) rfl ⟨by rw [hF.out]; rfl, hchg.then hr (fun i hi hk => absurd hk (by unfold One; omega))⟩
        · have hF := hid (show numS s a j = .bad a 134 from by rw [hnu.out, if_pos (Or.inr (Or.inl ⟨e1, e2⟩))])
          have ht : (((k : Nat) : Int) == (a : Int)) = false := by rw [beq_eq_false_iff_ne]; have := hka.out; omega
          have has := hjs e0
          have hga := byteAt_eq has
          have ht2 : (((byteAt s a : Nat) : Int) == 48) = true := beq_iff_eq.2 (by omega)
          have ht3 : ((a : Int) + 1 < (k : Int)) := by have := hka.out; omega
          replace e1 := hid e1
          clear hone
          clear hjs
          have hc0 : decide ((k : Int) < (s.size : Int)) = false := decide_eq_false (by omega)
          go_wp2_with (with_reducible refine halt_op (.store 57 (.tmp 4) (.tmp 56)) ?_)
          unfold Halted
          refine store_blk rfl 57 (.tmp 4) (.tmp 56) (by rfl) _ (by rfl) _ (by rfl) HG.out (by rfl) (by exact infoG') (by rfl) ?_
          intro wz HR hr
          go_wp2
          exact bodyPost_ret (results_cell_row Try.results42 _ _ _ _ _ _ _ (by rfl) HR Try.underlying57 rfl (by exact infoG')) rfl ⟨by rw [hF.out]; rfl, hchg.then hr (fun i hi hk => absurd hk (by unfold One; omega))⟩
        · have hz := hone e2 e1
          have hF := hid (show numS s a j = .ok (valD s a j) (a + j) from by rw [hnu.out, if_neg (by omega)])
          have ht : (((k : Nat) : Int) == (a : Int)) = false := by rw [beq_eq_false_iff_ne]; have := hka.out; omega
          have has := hjs e0
          have hga := byteAt_eq has
          have ht2 : (((byteAt s a : Nat) : Int) == 48) = true := beq_iff_eq.2 (by omega)
          have ht3 : ¬ ((a : Int) + 1 < (k : Int)) := by have := hka.out; omega
          have ht4 : ¬ ((1000000 : Int) < (q : Int)) := by have := hqv.out (by omega); omega
          replace e1 := hid e1
          replace e2 := hid e2
          replace hz := hid hz
          clear hone
          clear hjs
          have hc0 : decide ((k : Int) < (s.size : Int)) = false := decide_eq_false (by omega)
          go_wp2_with (with_reducible refine halt_op (.store 57 (.tmp 4) (.tmp 59)) ?_)
          unfold Halted
          refine store_blk rfl 57 (.tmp 4) (.tmp 59) (by rfl) _ (by rfl) _ (by rfl) HG.out (by rfl) (by exact infoG') (by rfl) ?_
          intro wz HR hr
          go_wp2
          exact bodyPost_ret (results_cell_row Try.results42 _ _ _ _ _ _ _ (by rfl) HR Try.underlying57 rfl (by exact infoG')) rfl ⟨by rw [hF.out]; unfold gotN; simp only [Rd.val, Rd.at_, Rd.no]; rw [← hqv.out (by have := hz.out; omega), ← hka.out], hchg.then hr (fun i hi hk => absurd hk (by unfold One; omega))⟩
        · have hF := hid (show numS s a j = .bad a 134 from by rw [hnu.out, if_pos (Or.inr (Or.inr e2))])
          have ht : (((k : Nat) : Int) == (a : Int)) = false := by rw [beq_eq_false_iff_ne]; have := hka.out; omega
          have has := hjs e0
          have hga := byteAt_eq has
          have ht2 : (((byteAt s a : Nat) : Int) == 48) = false := by rw [beq_eq_false_iff_ne]; omega
          have ht4 : ((1000000 : Int) < (q : Int)) := by have := hqm.out e2; omega
          replace e1 := hid e1
          clear hone
          clear hjs
          have hc0 : decide ((k : Int) < (s.size : Int)) = false := decide_eq_false (by omega)
          go_wp2_with (with_reducible refine halt_op (.store 57 (.tmp 4) (.tmp 56)) ?_)
          unfold Halted
          refine store_blk rfl 57 (.tmp 4) (.tmp 56) (by rfl) _ (by rfl) _ (by rfl) HG.out (by rfl) (by exact infoG') (by rfl) ?_
          intro wz HR hr
          go_wp2
          exact bodyPost_ret (results_cell_row Try.results42 _ _ _ _ _ _ _ (by rfl) HR Try.underlying57 rfl (by exact infoG')) rfl ⟨by rw [hF.out]; rfl, hchg.then hr (fun i hi hk => absurd hk (by unfold One; omega))⟩
        · have hF := hid (show numS s a j = .ok (valD s a j) (a + j) from by rw [hnu.out, if_neg (by omega)])
          have ht : (((k : Nat) : Int) == (a : Int)) = false := by rw [beq_eq_false_iff_ne]; have := hka.out; omega
          have has := hjs e0
          have hga := byteAt_eq has
          have ht2 : (((byteAt s a : Nat) : Int) == 48) = false := by rw [beq_eq_false_iff_ne]; omega
          have ht4 : ¬ ((1000000 : Int) < (q : Int)) := by have := hqv.out e2; omega
          replace e1 := hid e1
          clear hone
          clear hjs
          have hc0 : decide ((k : Int) < (s.size : Int)) = false := decide_eq_false (by omega)
          go_wp2_with (with_reducible refine halt_op (.store 57 (.tmp 4) (.tmp 59)) ?_)
          unfold Halted
          refine store_blk rfl 57 (.tmp 4) (.tmp 59) (by rfl) _ (by rfl) _ (by rfl) HG.out (by rfl) (by exact infoG') (by rfl) ?_
          intro wz HR hr
          go_wp2
          exact bodyPost_ret (results_cell_row Try.results42 _ _ _ _ _ _ _ (by rfl) HR Try.underlying57 rfl (by exact infoG')) rfl ⟨by rw [hF.out]; unfold gotN; simp only [Rd.val, Rd.at_, Rd.no]; rw [← hqv.out e2, ← hka.out], hchg.then hr (fun i hi hk => absurd hk (by unfold One; omega))⟩
      · rcases hfin with e0 | ⟨e0, e1, e2⟩ | ⟨e0, e1, e2⟩ | ⟨e0, e1, e2⟩ | ⟨e0, e1, e2⟩
        · have e1 : k = a := by have := hka.out; omega
          have hF := hid (show numS s a j = .bad a 134 from by rw [hnu.out, if_pos (Or.inl e0)])
          have ht : (((k : Nat) : Int) == (a : Int)) = true := beq_iff_eq.2 (by omega)
          replace e0 := hid e0
          replace e1 := hid e1
          clear hone
          clear hjs
          have hc0 : decide ((k : Int) < (s.size : Int)) = true := decide_eq_true (by omega)
          have hg := byteAt_eq h1
          have hc1 : decide ((48 : Int) ≤ ((byteAt s k : Nat) : Int)) = false := decide_eq_false (by omega)
          go_wp2_with (with_reducible refine halt_op (.store 57 (.tmp 4) (.tmp 56)) ?_)
          unfold Halted
          refine store_blk rfl 57 (.tmp 4) (.tmp 56) (by rfl) _ (by rfl) _ (by rfl) HG.out (by rfl) (by exact infoG') (by rfl) ?_
          intro wz HR hr
          go_wp2
          exact bodyPost_ret (results_cell_row Try.results42 _ _ _ _ _ _ _ (by rfl) HR Try.underlying57 rfl (by exact infoG')) rfl ⟨by rw [hF.out]; rfl, hchg.then hr (fun i hi hk => absurd hk (by unfold One; omega))⟩
        · have hF := hid (show numS s a j = .bad a 134 from by rw [hnu.out, if_pos (Or.inr (Or.inl ⟨e1, e2⟩))])
          have ht : (((k : Nat) : Int) == (a : Int)) = false := by rw [beq_eq_false_iff_ne]; have := hka.out; omega
          have has := hjs e0
          have hga := byteAt_eq has
          have ht2 : (((byteAt s a : Nat) : Int) == 48) = true := beq_iff_eq.2 (by omega)
          have ht3 : ((a : Int) + 1 < (k : Int)) := by have := hka.out; omega
          replace e1 := hid e1
          clear hone
          clear hjs
          have hc0 : decide ((k : Int) < (s.size : Int)) = true := decide_eq_true (by omega)
          have hg := byteAt_eq h1
          have hc1 : decide ((48 : Int) ≤ ((byteAt s k : Nat) : Int)) = false := decide_eq_false (by omega)
          go_wp2_with (with_reducible refine halt_op (.store 57 (.tmp 4) (.tmp 56)) ?_)
          unfold Halted
          refine store_blk rfl 57 (.tmp 4) (.tmp 56) (by rfl) _ (by rfl) _ (by rfl) HG.out (by rfl) (by exact infoG') (by rfl) ?_
          intro wz HR hr
          go_wp2
          exact bodyPost_ret (results_cell_row Try.results42 _ _ _ _ _ _ _ (by rfl) HR Try.underlying57 rfl (by exact infoG')) rfl ⟨by rw [hF.out]; rfl, hchg.then hr (fun i hi hk => absurd hk (by unfold One; omega))⟩
        · have hz := hone e2 e1
          have hF := hid (show numS s a j = .ok (valD s a j) (a + j) from by rw [hnu.out, if_neg (by omega)])
          have ht : (((k : Nat) : Int) == (a : Int)) = false := by rw [beq_eq_false_iff_ne]; have := hka.out; omega
          have has := hjs e0
          have hga := byteAt_eq has
          have ht2 : (((byteAt s a : Nat) : Int) == 48) = true := beq_iff_eq.2 (by omega)
          have ht3 : ¬ ((a : Int) + 1 < (k : Int)) := by have := hka.out; omega
          have ht4 : ¬ ((1000000 : Int) < (q : Int)) := by have := hqv.out (by omega); omega
          replace e1 := hid e1
          replace e2 := hid e2
          replace hz := hid hz
          clear hone
          clear hjs
          have hc0 : decide ((k : Int) < (s.size : Int)) = true := decide_eq_true (by omega)
          have hg := byteAt_eq h1
          have hc1 : decide ((48 : Int) ≤ ((byteAt s k : Nat) : Int)) = false := decide_eq_false (by omega)
          go_wp2_with (with_reducible refine halt_op (.store 57 (.tmp 4) (.tmp 59)) ?_)
          unfold Halted
          refine store_blk rfl 57 (.tmp 4) (.tmp 59) (by rfl) _ (by rfl) _ (by rfl) HG.out (by rfl) (by exact infoG') (by rfl) ?_
          intro wz HR hr
          go_wp2
          exact bodyPost_ret (results_cell_row Try.results42 _ _ _ _ _ _ _ (by rfl) HR Try.underlying57 rfl (by exact infoG')) rfl ⟨by rw [hF.out]; unfold gotN; simp only [Rd.val, Rd.at_, Rd.no]; rw [← hqv.out (by have := hz.out; omega), ← hka.out], hchg.then hr (fun i hi hk => absurd hk (by unfold One; omega))⟩
        · have hF := hid (show numS s a j = .bad a 134 from by rw [hnu.out, if_pos (Or.inr (Or.inr e2))])
          have ht : (((k : Nat) : Int) == (a : Int)) = false := by rw [beq_eq_false_iff_ne]; have := hka.out; omega
          have has := hjs e0
          have hga := byteAt_eq has
          have ht2 : (((byteAt s a : Nat) : Int) == 48) = false := by rw [beq_eq_false_iff_ne]; omega
          have ht4 : ((1000000 : Int) < (q : Int)) := by have := hqm.out e2; omega
          replace e1 := hid e1
          clear hone
          clear hjs
          have hc0 : decide ((k : Int) < (s.size : Int)) = true := decide_eq_true (by omega)
          have hg := byteAt_eq h1
          have hc1 : decide ((48 : Int) ≤ ((byteAt s k : Nat) : Int)) = false := decide_eq_false (by omega)
          go_wp2_with (with_reducible refine halt_op (.store 57 (.tmp 4) (.tmp 56)) ?_)
          unfold Halted
          refine store_blk rfl 57 (.tmp 4) (.tmp 56) (by rfl) _ (by rfl) _ (by rfl) HG.out (by rfl) (by exact infoG') (by rfl) ?_
          intro wz HR hr
          go_wp2
          exact bodyPost_ret (results_cell_row Try.results42 _ _ _ _ _ _ _ (by rfl) HR Try.underlying57 rfl (by exact infoG')) rfl ⟨by rw [hF.out]; rfl, hchg.then hr (fun i hi hk => absurd hk (by unfold One; omega))⟩
        · have hF := hid (show numS s a j = .ok (valD s a j) (a + j) from by rw [hnu.out, if_neg (by omega)])
          have ht : (((k : Nat) : Int) == (a : Int)) = false := by rw [beq_eq_false_iff_ne]; have := hka.out; omega
          have has := hjs e0
          have hga := byteAt_eq has
          have ht2 : (((byteAt s a : Nat) : Int) == 48) = false := by rw [beq_eq_false_iff_ne]; omega
          have ht4 : ¬ ((1000000 : Int) < (q : Int)) := by have := hqv.out e2; omega
          replace e1 := hid e1
          clear hone
          clear hjs
          have hc0 : decide ((k : Int) < (s.size : Int)) = true := decide_eq_true (by omega)
          have hg := byteAt_eq h1
          have hc1 : decide ((48 : Int) ≤ ((byteAt s k : Nat) : Int)) = false := decide_eq_false (by omega)
          go_wp2_with (with_reducible refine halt_op (.store 57 (.tmp 4) (.tmp 59)) ?_)
          unfold Halted
          refine store_blk rfl 57 (.tmp 4) (.tmp 59) (by rfl) _ (by rfl) _ (by rfl) HG.out (by rfl) (by exact infoG') (by rfl) ?_
          intro wz HR hr
          go_wp2
          exact bodyPost_ret (results_cell_row Try.results42 _ _ _ _ _ _ _ (by rfl) HR Try.underlying57 rfl (by exact infoG')) rfl ⟨by rw [hF.out]; unfold gotN; simp only [Rd.val, Rd.at_, Rd.no]; rw [← hqv.out e2, ← hka.out], hchg.then hr (fun i hi hk => absurd hk (by unfold One; omega))⟩
      · rcases hfin with e0 | ⟨e0, e1, e2⟩ | ⟨e0, e1, e2⟩ | ⟨e0, e1, e2⟩ | ⟨e0, e1, e2⟩
        · have e1 : k = a := by have := hka.out; omega
          have hF := hid (show numS s a j = .bad a 134 from by rw [hnu.out, if_pos (Or.inl e0)])
          have ht : (((k : Nat) : Int) == (a : Int)) = true := beq_iff_eq.2 (by omega)
          replace e0 := hid e0
          replace e1 := hid e1
          clear hone
          clear hjs
          have hc0 : decide ((k : Int) < (s.size : Int)) = true := decide_eq_true (by omega)
          have hg := byteAt_eq h1
          have hc1 : decide ((48 : Int) ≤ ((byteAt s k : Nat) : Int)) = true := decide_eq_true (by omega)
          have hc2 : decide (((byteAt s k : Nat) : Int) ≤ 57) = false := decide_eq_false (by omega)
          go_wp2_with (with_reducible refine halt_op (.store 57 (.tmp 4) (.tmp 56)) ?_)
          unfold Halted
          refine store_blk rfl 57 (.tmp 4) (.tmp 56) (by rfl) _ (by rfl) _ (by rfl) HG.out (by rfl) (by exact infoG') (by rfl) ?_
          intro wz HR hr
          go_wp2
          exact bodyPost_ret (results_cell_row Try.results42 _ _ _ _ _ _ _ (by rfl) HR Try.underlying57 rfl (by exact infoG')) rfl ⟨by rw [hF.out]; rfl, hchg.then hr (fun i hi hk => absurd hk (by unfold One; omega))⟩
        · have hF := hid (show numS s a j = .bad a 134 from by rw [hnu.out, if_pos (Or.inr (Or.inl ⟨e1, e2⟩))])
          have ht : (((k : Nat) : Int) == (a : Int)) = false := by rw [beq_eq_false_iff_ne]; have := hka.out; omega
          have has := hjs e0
          have hga := byteAt_eq has
          have ht2 : (((byteAt s a : Nat) : Int) == 48) = true := beq_iff_eq.2 (by omega)
          have ht3 : ((a : Int) + 1 < (k : Int)) := by have := hka.out; omega
          replace e1 := hid e1
          clear hone
          clear hjs
          have hc0 : decide ((k : Int) < (s.size : Int)) = true := decide_eq_true (by omega)
          have hg := byteAt_eq h1
          have hc1 : decide ((48 : Int) ≤ ((byteAt s k : Nat) : Int)) = true := decide_eq_true (by omega)
          have hc2 : decide (((byteAt s k : Nat) : Int) ≤ 57) = false := decide_eq_false (by omega)
          go_wp2_with (with_reducible refine halt_op (.store 57 (.tmp 4) (.tmp 56)) ?_)
          unfold Halted
          refine store_blk rfl 57 (.tmp 4) (.tmp 56) (by rfl) _ (by rfl) _ (by rfl) HG.out (by rfl) (by exact infoG') (by rfl) ?_
          intro wz HR hr
          go_wp2
          exact bodyPost_ret (results_cell_row Try.results42 _ _ _ _ _ _ _ (by rfl) HR Try.underlying57 rfl (by exact infoG')) rfl ⟨by rw [hF.out]; rfl, hchg.then hr (fun i hi hk => absurd hk (by unfold One; omega))⟩
        · have hz := hone e2 e1
          have hF := hid (show numS s a j = .ok (valD s a j) (a + j) from by rw [hnu.out, if_neg (by omega)])
          have ht : (((k : Nat) : Int) == (a : Int)) = false := by rw [beq_eq_false_iff_ne]; have := hka.out; omega
          have has := hjs e0
          have hga := byteAt_eq has
          have ht2 : (((byteAt s a : Nat) : Int) == 48) = true := beq_iff_eq.2 (by omega)
          have ht3 : ¬ ((a : Int) + 1 < (k : Int)) := by have := hka.out; omega
          have ht4 : ¬ ((1000000 : Int) < (q : Int)) := by have := hqv.out (by omega); omega
          replace e1 := hid e1
          replace e2 := hid e2
          replace hz := hid hz
          clear hone
          clear hjs
          have hc0 : decide ((k : Int) < (s.size : Int)) = true := decide_eq_true (by omega)
          have hg := byteAt_eq h1
          have hc1 : decide ((48 : Int) ≤ ((byteAt s k : Nat) : Int)) = true := decide_eq_true (by omega)
          have hc2 : decide (((byteAt s k : Nat) : Int) ≤ 57) = false := decide_eq_false (by omega)
          go_wp2_with (with_reducible refine halt_op (.store 57 (.tmp 4) (.tmp 59)) ?_)
          unfold Halted
          refine store_blk rfl 57 (.tmp 4) (.tmp 59) (by rfl) _ (by rfl) _ (by rfl) HG.out (by rfl) (by exact infoG') (by rfl) ?_
          intro wz HR hr
          go_wp2
          exact bodyPost_ret (results_cell_row Try.results42 _ _ _ _ _ _ _ (by rfl) HR Try.underlying57 rfl (by exact infoG')) rfl ⟨by rw [hF.out]; unfold gotN; simp only [Rd.val, Rd.at_, Rd.no]; rw [← hqv.out (by have := hz.out; omega), ← hka.out], hchg.then hr (fun i hi hk => absurd hk (by unfold One; omega))⟩
        · have hF := hid (show numS s a j = .bad a 134 from by rw [hnu.out, if_pos (Or.inr (Or.inr e2))])
          have ht : (((k : Nat) : Int) == (a : Int)) = false := by rw [beq_eq_false_iff_ne]; have := hka.out; omega
          have has := hjs e0
          have hga := byteAt_eq has
          have ht2 : (((byteAt s a : Nat) : Int) == 48) = false := by rw [beq_eq_false_iff_ne]; omega
          have ht4 : ((1000000 : Int) < (q : Int)) := by have := hqm.out e2; omega
          replace e1 := hid e1
          clear hone
          clear hjs
          have hc0 : decide ((k : Int) < (s.size : Int)) = true := decide_eq_true (by omega)
          have hg := byteAt_eq h1
          have hc1 : decide ((48 : Int) ≤ ((byteAt s k : Nat) : Int)) = true := decide_eq_true (by omega)
          have hc2 : decide (((byteAt s k : Nat) : Int) ≤ 57) = false := decide_eq_false (by omega)
          go_wp2_with (with_reducible refine halt_op (.store 57 (.tmp 4) (.tmp 56)) ?_)
          unfold Halted
          refine store_blk rfl 57 (.tmp 4) (.tmp 56) (by rfl) _ (by rfl) _ (by rfl) HG.out (by rfl) (by exact infoG') (by rfl) ?_
          intro wz HR hr
          go_wp2
          exact bodyPost_ret (results_cell_row Try.results42 _ _ _ _ _ _ _ (by rfl) HR Try.underlying57 rfl (by exact infoG')) rfl ⟨by rw [hF.out]; rfl, hchg.then hr (fun i hi hk => absurd hk (by unfold One; omega))⟩
        · have hF := hid (show numS s a j = .ok (valD s a j) (a + j) from by rw [hnu.out, if_neg (by omega)])
          have ht : (((k : Nat) : Int) == (a : Int)) = false := by rw [beq_eq_false_iff_ne]; have := hka.out; omega
          have has := hjs e0
          have hga := byteAt_eq has
          have ht2 : (((byteAt s a : Nat) : Int) == 48) = false := by rw [beq_eq_false_iff_ne]; omega
          have ht4 : ¬ ((1000000 : Int) < (q : Int)) := by have := hqv.out e2; omega
          replace e1 := hid e1
          clear hone
          clear hjs
          have hc0 : decide ((k : Int) < (s.size : Int)) = true := decide_eq_true (by omega)
          have hg := byteAt_eq h1
          have hc1 : decide ((48 : Int) ≤ ((byteAt s k : Nat) : Int)) = true := decide_eq_true (by omega)
          have hc2 : decide (((byteAt s k : Nat) : Int) ≤ 57) = false := decide_eq_false (by omega)
          go_wp2_with (with_reducible refine halt_op (.store 57 (.tmp 4) (.tmp 59)) ?_)
          unfold Halted
          refine store_blk rfl 57 (.tmp 4) (.tmp 59) (by rfl) _ (by rfl) _ (by rfl) HG.out (by rfl) (by exact infoG') (by rfl) ?_
          intro wz HR hr
          go_wp2
          exact bodyPost_ret (results_cell_row Try.results42 _ _ _ _ _ _ _ (by rfl) HR Try.underlying57 rfl (by exact infoG')) rfl ⟨by rw [hF.out]; unfold gotN; simp only [Rd.val, Rd.at_, Rd.no]; rw [← hqv.out e2, ← hka.out], hchg.then hr (fun i hi hk => absurd hk (by unfold One; omega))⟩
end Go.Proofs.Ytpndjehiacmngaa
