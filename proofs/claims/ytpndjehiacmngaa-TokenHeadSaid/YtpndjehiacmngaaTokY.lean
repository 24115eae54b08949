/- Layer 13: the program's scanner: token. -/
import Derived.Test.YtpndjehiacmngaaTokX
import Derived.Test.YtpndjehiacmngaaTokW
namespace Go.Proofs.Ytpndjehiacmngaa
open Go.RowKit
set_option linter.unusedVariables false
attribute [local go_sem ↓] Go.wp_at_zero Go.wp_at_succ
theorem infoTT : (Try.prog.info? 40).map (·.size) = some 4 := by kernel_rfl
def TokAns (R : Rd Tok) (s : ByteArray) (b : Nat) (w : World) (e : Ending) (w' : World) : Prop :=
  ∃ (kd at_ n : Int) (A : Option Addr) (l c : Nat), e = .returned (.agg #[.int .i64 kd, .int .i64 at_, .int .i64 n, .slice A l c]) ∧ (∀ t nx, R = .ok t nx → kd = t.kind ∧ at_ = t.at_ ∧ n = t.n ∧ PRead (fun k => w.heap.size + 2 ≤ k) w' ⟨t, A, l, c⟩) ∧ SBox w' b s R.at_ R.no ∧ Chg (One b) w w'
theorem PRead.nil (F : Nat → Prop) (w : World) (t : Tok) (h : t.p = []) : PRead F w ⟨t, none, 0, 0⟩ := ⟨by show RowAt 4 F w none 0 0 (t.p.flatMap clsL); rw [h]; exact RowAt.none _ _ _, by show t.p.length = 0; rw [h]; rfl⟩
theorem kindV_bd' : ∀ b : Fin 256, -1 ≤ kindV b.val ∧ kindV b.val ≤ 7 := by decide +kernel
theorem kindV_bd (b : Nat) (h : b < 256) : -1 ≤ kindV b ∧ kindV b ≤ 7 := kindV_bd' ⟨b, h⟩
theorem sgn_any (b : Nat) (w : World) : Calls Try.prog 37 #[.string ⟨#[40, 41, 38, 124, 33, 62, 126]⟩, .int .u8 b] w fun e w' => e = .returned (.int .i64 (idxV signSet b)) ∧ w' = w := idx_any signSet b w
set_option maxHeartbeats 16000000 in
set_option maxRecDepth 100000 in
theorem token_any (b : Nat) (s : ByteArray) (a : Nat) (R : Rd Tok) (hR : TokRd s a R) (w : World) (H : SBox w b s a 0) (hs : s.size ≤ 9223372036854775000) (ha : a < s.size) :
    Calls Try.prog 22 #[.pointer (some ⟨b, 0, none⟩)] w (TokAns R s b w) := by
  obtain ⟨r0, r1, r2, f0, f1, f2, hlt⟩ := H.at_
  have HT0 := hid ((Blk.new w #[.int .i64 0, .int .i64 0, .int .i64 0, .slice none 0 0] 40).alloc (.cells #[.int .i64 0, .int .i64 a, .int .i64 0, .slice none 0 0] 40))
  have HU0 := hid (Blk.new2 w (.cells #[.int .i64 0, .int .i64 0, .int .i64 0, .slice none 0 0] 40) #[.int .i64 0, .int .i64 a, .int .i64 0, .slice none 0 0] 40)
  have HB0 := hid ((Blk.alloc (Blk.alloc H (.cells #[.int .i64 0, .int .i64 0, .int .i64 0, .slice none 0 0] 40)) (.cells #[.int .i64 0, .int .i64 a, .int .i64 0, .slice none 0 0] 40)))
  have hC0 := hid (((Chg.refl (One b) w).alloc (.cells #[.int .i64 0, .int .i64 0, .int .i64 0, .slice none 0 0] 40)).alloc (.cells #[.int .i64 0, .int .i64 a, .int .i64 0, .slice none 0 0] 40))
  clear H
  have hlt1 := byteAt_lt s a
  cases hR with
  | @pat R0 h k =>
    have h34 := hid (hasB_yes ha h)
    replace h := hid h
    go_enter Try.func22, Try.ntmps22
    go_wp2_with fail
    refine (has_any b s a 34 0 _ HB0.out (by omega) (by omega) (by decide)).mono ?_
    rintro e w1 ⟨rfl, hB, hc⟩
    rw [h34.out]
    rw [h34.out] at hB
    have hC1 := hid (hC0.out.trans hc)
    have HT1 := hid (HT0.out.chg hc (by unfold One; omega))
    have HU1 := hid (HU0.out.chg hc (by unfold One; omega))
    have hs1 := hc.size
    simp only [World.size_alloc] at hs1
    replace hB : SBox w1 b s (a + 1 : Nat) 0 := hB
    have HB1 := hid hB
    clear hB hc HT0 HU0 HB0 hC0 r0 r1 r2 f0 f1 f2
    go_wp2_with fail
    refine (pattern_any b s (a + 1) R0 k _ HB1.out hs (by omega)).mono ?_
    rintro e w2 ⟨A, l, c, rfl, hx, hB, hc⟩
    have HB2 := hid hB
    have hC2 := hid (hC1.out.trans hc)
    have HT2 := hid (HT1.out.chg hc (by unfold One; omega))
    have HU2 := hid (HU1.out.chg hc (by unfold One; omega))
    have hs2 := hc.size
    have hx2 := hid hx
    clear hB hc hx HT1 HU1 HB1
    obtain ⟨t0, t1, t2, t3, u0, u1, u2, u3, hlu⟩ := HU2.out.four
    have q0 : (⟨w.heap.size + 1, 0, none⟩ : Addr).block ≠ w.heap.size := by dsimp only; omega
    have q3 : (⟨w.heap.size + 1, 3, none⟩ : Addr).block ≠ w.heap.size := by dsimp only; omega
    have p0 : (⟨w.heap.size + 1, 0, none⟩ : Addr).block ≠ b := by dsimp only; omega
    have p3 : (⟨w.heap.size + 1, 3, none⟩ : Addr).block ≠ b := by dsimp only; omega
    have HT3 := hid (Blk.other (Blk.other HT2.out q0 (.int .i64 8)) q3 (.slice A l c))
    have HB3 := hid (Blk.other (Blk.other HB2.out p0 (.int .i64 8)) p3 (.slice A l c))
    have hC3 := hid ((hC2.out.setNew (Nat.le_succ _) 0 (.int .i64 8)).setNew (Nat.le_succ _) 3 (.slice A l c))
    have hch := hid (((Chg.refl (One (w.heap.size + 1)) w2).setOne 0 (.int .i64 8)).setOne 3 (.slice A l c))
    clear q0 q3 p0 p3 HT2 HB2 hC2
    go_wp2_with (with_reducible refine halt_op (.store 40 (.tmp 2) (.tmp 15)) ?_)
    unfold Halted
    refine store_blk rfl 40 (.tmp 2) (.tmp 15) (by rfl) _ (by rfl) _ (by rfl) HT3.out (by rfl) (by exact infoTT) (by rfl) ?_
    intro wz HR hr
    go_wp2
    exact bodyPost_ret (results_cell_row Try.results22 _ _ _ _ _ _ _ (by rfl) HR Try.underlying40 rfl (by exact infoTT)) rfl ⟨8, a, 0, A, l, c, rfl, (fun t nx h => by
      cases hR0 : R0 with
      | bad p e => rw [hR0] at h; cases h
      | ok ys n =>
        rw [hR0] at h; injection h with h1 h2; subst h1
        have HP := hx2.out ys n hR0
        refine ⟨rfl, rfl, rfl, ⟨?_, HP.1⟩⟩
        have r1 := (RowAt.of_own HP.2).mono (G := fun k => w.heap.size + 2 ≤ k) (fun k hk hF => by have := hF.2; omega)
        have r2 := r1.chg hch.out (fun k hk hF => by unfold One; omega)
        exact r2.chg hr (fun k hk hF => by unfold One; omega)), Blk.chg (by rw [Rd.map_at, Rd.map_no]; exact HB3.out) hr (by unfold One; omega), hC3.out.then hr (fun i hi hk => absurd hk (by unfold One; omega))⟩
  | none h h1 =>
    have h34 := hid (hasB_no (s := s) (k := a) h)
    have KB : Hid (-1 ≤ kindV (byteAt s a) ∧ kindV (byteAt s a) ≤ 7) := hid (kindV_bd _ (byteAt_lt s a))
    have hk1 : idxV signSet (byteAt s a) + 1 < 1 := h1
    replace h := hid h
    go_enter Try.func22, Try.ntmps22
    go_wp2_with fail
    refine (has_any b s a 34 0 _ HB0.out (by omega) (by omega) (by decide)).mono ?_
    rintro e w1 ⟨rfl, hB, hc⟩
    rw [h34.out]
    rw [h34.out] at hB
    have hC1 := hid (hC0.out.trans hc)
    have HT1 := hid (HT0.out.chg hc (by unfold One; omega))
    have HU1 := hid (HU0.out.chg hc (by unfold One; omega))
    have hs1 := hc.size
    simp only [World.size_alloc] at hs1
    replace hB : SBox w1 b s (a : Nat) 0 := hB
    have HB1 := hid hB
    clear hB hc HT0 HU0 HB0 hC0 r0 r1 r2 f0 f1 f2
    obtain ⟨r0, r1, r2, f0, f1, f2, hlb⟩ := SBox.at_ HB1.out
    obtain ⟨t0, t1, t2, t3, u0, u1, u2, u3, hlu⟩ := HU1.out.four
    have hg := byteAt_eq ha
    have hbu : b ≠ w.heap.size + 1 := by omega
    have hbu' : w.heap.size + 1 ≠ b := by omega
    have kz := IntWalk.i64_in (idxV signSet (byteAt s a) + 1) (by have := KB.out; unfold kindV at this; omega)
    go_wp2_with fail
    go_region_with (first | (go_at_call 37; (with_reducible refine (sgn_any _ _).mono ?_); rintro e w3 ⟨rfl, rfl⟩))
    all_goals
      have q0 : (⟨w.heap.size + 1, 0, none⟩ : Addr).block ≠ w.heap.size := by dsimp only; omega
      have p0 : (⟨w.heap.size + 1, 0, none⟩ : Addr).block ≠ b := by dsimp only; omega
      have HT3 := hid (Blk.drew (Blk.other HT1.out q0 (.int .i64 (idxV signSet (byteAt s a) + 1))))
      have HB3 := hid (show SBox (w1.setCell ⟨w.heap.size + 1, 0, none⟩ (.int .i64 (idxV signSet (byteAt s a) + 1))).drew b s (a : Nat) 0 from Blk.drew (Blk.other HB1.out p0 (.int .i64 (idxV signSet (byteAt s a) + 1))))
      have HU3 := hid (show Blk (w1.setCell ⟨w.heap.size + 1, 0, none⟩ (.int .i64 (idxV signSet (byteAt s a) + 1))).drew (w.heap.size + 1) #[.int .i64 (idxV signSet (byteAt s a) + 1), .int .i64 a, .int .i64 0, .slice none 0 0] 40 from Blk.drew (Blk.set HU1.out 0 (.int .i64 (idxV signSet (byteAt s a) + 1))))
      have hC3 := hid ((hC1.out.setNew (Nat.le_succ _) 0 (.int .i64 (idxV signSet (byteAt s a) + 1))).drew)
      clear q0 p0 HT1 HB1 HU1 hC1 t0 t1 t2 t3 u0 u1 u2 u3 r0 r1 r2 f0 f1 f2 hlb hlu
      go_wp2_with (with_reducible refine halt_op (.fieldAddr 40 (.tmp 3) 0) ?_)
      unfold Halted
      refine wpList_forget (fun W => SBox W b s (a : Nat) 0 ∧ Blk W w.heap.size #[.int .i64 0, .int .i64 0, .int .i64 0, .slice none 0 0] 40 ∧ Blk W (w.heap.size + 1) #[.int .i64 (idxV signSet (byteAt s a) + 1), .int .i64 a, .int .i64 0, .slice none 0 0] 40 ∧ Chg (One b) w W) ⟨HB3.out, HT3.out, HU3.out, hC3.out⟩ ?_
      clear HB3 HT3 HU3 hC3
      rintro W ⟨HB3, HT3, HU3, hC3⟩
      obtain ⟨r0, r1, r2, f0, f1, f2, hlb⟩ := SBox.at_ HB3
      obtain ⟨t0, t1, t2, t3, u0, u1, u2, u3, hlu⟩ := HU3.four
      replace HB3 := hid HB3
      replace HT3 := hid HT3
      replace HU3 := hid HU3
      replace hC3 := hid hC3
      go_wp2_with fail
      refine (fails_any b s a 0 a 130 _ HB3.out).mono ?_
      rintro e w7 ⟨rfl, hB, hc⟩
      have HB7 := hid hB
      have hC7 := hid (hC3.out.trans hc)
      have HT7 := hid (HT3.out.chg hc (by unfold One; omega))
      have HU7 := hid (HU3.out.chg hc (by unfold One; omega))
      have hs7 := hc.size
      clear hB hc HB3 HT3 HU3 hC3 r0 r1 r2 f0 f1 f2 hlb t0 t1 t2 t3 u0 u1 u2 u3 hlu
      obtain ⟨t0, t1, t2, t3, u0, u1, u2, u3, hlu⟩ := HU7.out.four
      go_wp2_with (with_reducible refine halt_op (.store 40 (.tmp 2) (.tmp 37)) ?_)
      unfold Halted
      refine store_blk rfl 40 (.tmp 2) (.tmp 37) (by rfl) _ (by rfl) _ (by rfl) HT7.out (by rfl) (by exact infoTT) (by rfl) ?_
      intro wz HR hr
      go_wp2
      exact bodyPost_ret (results_cell_row Try.results22 _ _ _ _ _ _ _ (by rfl) HR Try.underlying40 rfl (by exact infoTT)) rfl ⟨idxV signSet (byteAt s a) + 1, a, 0, none, 0, 0, rfl, (fun t nx h => by cases h), Blk.chg HB7.out hr (by unfold One; omega), hC7.out.then hr (fun i hi hk => absurd hk (by unfold One; omega))⟩
  | @sign k h h1 h2 h3 =>
    have h34 := hid (hasB_no (s := s) (k := a) h)
    have KB : Hid (-1 ≤ kindV (byteAt s a) ∧ kindV (byteAt s a) ≤ 7) := hid (kindV_bd _ (byteAt_lt s a))
    have hkk := hid (show idxV signSet (byteAt s a) + 1 = (k : Int) from h1)
    have hk1 : ¬ (idxV signSet (byteAt s a) + 1 < 1) := by have := hkk.out; omega
    have hk6 : ((idxV signSet (byteAt s a) + 1) == 6) = false := by rw [beq_eq_false_iff_ne]; have := hkk.out; omega
    have hk7 : ((idxV signSet (byteAt s a) + 1) == 7) = false := by rw [beq_eq_false_iff_ne]; have := hkk.out; omega
    replace h := hid h
    replace h1 := hid h1
    go_enter Try.func22, Try.ntmps22
    go_wp2_with fail
    refine (has_any b s a 34 0 _ HB0.out (by omega) (by omega) (by decide)).mono ?_
    rintro e w1 ⟨rfl, hB, hc⟩
    rw [h34.out]
    rw [h34.out] at hB
    have hC1 := hid (hC0.out.trans hc)
    have HT1 := hid (HT0.out.chg hc (by unfold One; omega))
    have HU1 := hid (HU0.out.chg hc (by unfold One; omega))
    have hs1 := hc.size
    simp only [World.size_alloc] at hs1
    replace hB : SBox w1 b s (a : Nat) 0 := hB
    have HB1 := hid hB
    clear hB hc HT0 HU0 HB0 hC0 r0 r1 r2 f0 f1 f2
    obtain ⟨r0, r1, r2, f0, f1, f2, hlb⟩ := SBox.at_ HB1.out
    obtain ⟨t0, t1, t2, t3, u0, u1, u2, u3, hlu⟩ := HU1.out.four
    have hg := byteAt_eq ha
    have hbu : b ≠ w.heap.size + 1 := by omega
    have hbu' : w.heap.size + 1 ≠ b := by omega
    have kz := IntWalk.i64_in (idxV signSet (byteAt s a) + 1) (by have := KB.out; unfold kindV at this; omega)
    go_wp2_with fail
    go_region_with (first | (go_at_call 37; (with_reducible refine (sgn_any _ _).mono ?_); rintro e w3 ⟨rfl, rfl⟩))
    all_goals
      have q0 : (⟨w.heap.size + 1, 0, none⟩ : Addr).block ≠ w.heap.size := by dsimp only; omega
      have p0 : (⟨w.heap.size + 1, 0, none⟩ : Addr).block ≠ b := by dsimp only; omega
      have HT3 := hid (Blk.drew (Blk.other HT1.out q0 (.int .i64 (idxV signSet (byteAt s a) + 1))))
      have HB3 := hid (show SBox (w1.setCell ⟨w.heap.size + 1, 0, none⟩ (.int .i64 (idxV signSet (byteAt s a) + 1))).drew b s (a : Nat) 0 from Blk.drew (Blk.other HB1.out p0 (.int .i64 (idxV signSet (byteAt s a) + 1))))
      have HU3 := hid (show Blk (w1.setCell ⟨w.heap.size + 1, 0, none⟩ (.int .i64 (idxV signSet (byteAt s a) + 1))).drew (w.heap.size + 1) #[.int .i64 (idxV signSet (byteAt s a) + 1), .int .i64 a, .int .i64 0, .slice none 0 0] 40 from Blk.drew (Blk.set HU1.out 0 (.int .i64 (idxV signSet (byteAt s a) + 1))))
      have hC3 := hid ((hC1.out.setNew (Nat.le_succ _) 0 (.int .i64 (idxV signSet (byteAt s a) + 1))).drew)
      clear q0 p0 HT1 HB1 HU1 hC1 t0 t1 t2 t3 u0 u1 u2 u3 r0 r1 r2 f0 f1 f2 hlb hlu
      go_wp2_with (with_reducible refine halt_op (.fieldAddr 40 (.tmp 3) 0) ?_)
      unfold Halted
      refine wpList_forget (fun W => SBox W b s (a : Nat) 0 ∧ Blk W w.heap.size #[.int .i64 0, .int .i64 0, .int .i64 0, .slice none 0 0] 40 ∧ Blk W (w.heap.size + 1) #[.int .i64 (idxV signSet (byteAt s a) + 1), .int .i64 a, .int .i64 0, .slice none 0 0] 40 ∧ Chg (One b) w W) ⟨HB3.out, HT3.out, HU3.out, hC3.out⟩ ?_
      clear HB3 HT3 HU3 hC3
      rintro W ⟨HB3, HT3, HU3, hC3⟩
      obtain ⟨r0, r1, r2, f0, f1, f2, hlb⟩ := SBox.at_ HB3
      obtain ⟨t0, t1, t2, t3, u0, u1, u2, u3, hlu⟩ := HU3.four
      replace HB3 := hid HB3
      replace HT3 := hid HT3
      replace HU3 := hid HU3
      replace hC3 := hid hC3
      have HB4 := hid (show SBox (W.setCell ⟨b, 1, none⟩ (.int .i64 ((a : Int) + 1))) b s (a + 1 : Nat) 0 from HB3.out.putAt _)
      have hbt : (⟨b, 1, none⟩ : Addr).block ≠ w.heap.size := by dsimp only; omega
      have hbv : (⟨b, 1, none⟩ : Addr).block ≠ w.heap.size + 1 := by dsimp only; omega
      have HT4 := hid (Blk.other HT3.out hbt (.int .i64 ((a : Int) + 1)))
      have HU4 := hid (Blk.other HU3.out hbv (.int .i64 ((a : Int) + 1)))
      have hC4 := hid (hC3.out.setOne 1 (.int .i64 ((a : Int) + 1)))
      clear hbt hbv
      go_wp2_with (with_reducible refine halt_op (.store 40 (.tmp 2) (.tmp 56)) ?_)
      unfold Halted
      refine store_blk rfl 40 (.tmp 2) (.tmp 56) (by rfl) _ (by rfl) _ (by rfl) HT4.out (by rfl) (by exact infoTT) (by rfl) ?_
      intro wz HR hr
      go_wp2
      exact bodyPost_ret (results_cell_row Try.results22 _ _ _ _ _ _ _ (by rfl) HR Try.underlying40 rfl (by exact infoTT)) rfl ⟨idxV signSet (byteAt s a) + 1, a, 0, none, 0, 0, rfl, (fun t nx h => by injection h with h1 h2; subst h1; exact ⟨hkk.out, rfl, rfl, PRead.nil _ _ _ rfl⟩), Blk.chg HB4.out hr (by unfold One; omega), hC4.out.then hr (fun i hi hk => absurd hk (by unfold One; omega))⟩
  | @num k m h h1 h2 h3 =>
    have h34 := hid (hasB_no (s := s) (k := a) h)
    have KB : Hid (-1 ≤ kindV (byteAt s a) ∧ kindV (byteAt s a) ≤ 7) := hid (kindV_bd _ (byteAt_lt s a))
    have hkk := hid (show idxV signSet (byteAt s a) + 1 = (k : Int) from h1)
    have hk1 : ¬ (idxV signSet (byteAt s a) + 1 < 1) := by have := hkk.out; omega
    have hk67 : k = 6 ∨ k = 7 := by have := KB.out; rw [h1] at this; omega
    replace h := hid h
    replace h1 := hid h1
    rcases hk67 with hk6' | hk6'
    · have hk6 : ((idxV signSet (byteAt s a) + 1) == 6) = true := beq_iff_eq.2 (by have := hkk.out; omega)
      replace hk6' := hid hk6'
      go_enter Try.func22, Try.ntmps22
      go_wp2_with fail
      refine (has_any b s a 34 0 _ HB0.out (by omega) (by omega) (by decide)).mono ?_
      rintro e w1 ⟨rfl, hB, hc⟩
      rw [h34.out]
      rw [h34.out] at hB
      have hC1 := hid (hC0.out.trans hc)
      have HT1 := hid (HT0.out.chg hc (by unfold One; omega))
      have HU1 := hid (HU0.out.chg hc (by unfold One; omega))
      have hs1 := hc.size
      simp only [World.size_alloc] at hs1
      replace hB : SBox w1 b s (a : Nat) 0 := hB
      have HB1 := hid hB
      clear hB hc HT0 HU0 HB0 hC0 r0 r1 r2 f0 f1 f2
      obtain ⟨r0, r1, r2, f0, f1, f2, hlb⟩ := SBox.at_ HB1.out
      obtain ⟨t0, t1, t2, t3, u0, u1, u2, u3, hlu⟩ := HU1.out.four
      have hg := byteAt_eq ha
      have hbu : b ≠ w.heap.size + 1 := by omega
      have hbu' : w.heap.size + 1 ≠ b := by omega
      have kz := IntWalk.i64_in (idxV signSet (byteAt s a) + 1) (by have := KB.out; unfold kindV at this; omega)
      go_wp2_with fail
      go_region_with (first | (go_at_call 37; (with_reducible refine (sgn_any _ _).mono ?_); rintro e w3 ⟨rfl, rfl⟩))
      all_goals
        have q0 : (⟨w.heap.size + 1, 0, none⟩ : Addr).block ≠ w.heap.size := by dsimp only; omega
        have p0 : (⟨w.heap.size + 1, 0, none⟩ : Addr).block ≠ b := by dsimp only; omega
        have HT3 := hid (Blk.drew (Blk.other HT1.out q0 (.int .i64 (idxV signSet (byteAt s a) + 1))))
        have HB3 := hid (show SBox (w1.setCell ⟨w.heap.size + 1, 0, none⟩ (.int .i64 (idxV signSet (byteAt s a) + 1))).drew b s (a : Nat) 0 from Blk.drew (Blk.other HB1.out p0 (.int .i64 (idxV signSet (byteAt s a) + 1))))
        have HU3 := hid (show Blk (w1.setCell ⟨w.heap.size + 1, 0, none⟩ (.int .i64 (idxV signSet (byteAt s a) + 1))).drew (w.heap.size + 1) #[.int .i64 (idxV signSet (byteAt s a) + 1), .int .i64 a, .int .i64 0, .slice none 0 0] 40 from Blk.drew (Blk.set HU1.out 0 (.int .i64 (idxV signSet (byteAt s a) + 1))))
        have hC3 := hid ((hC1.out.setNew (Nat.le_succ _) 0 (.int .i64 (idxV signSet (byteAt s a) + 1))).drew)
        clear q0 p0 HT1 HB1 HU1 hC1 t0 t1 t2 t3 u0 u1 u2 u3 r0 r1 r2 f0 f1 f2 hlb hlu
        go_wp2_with (with_reducible refine halt_op (.fieldAddr 40 (.tmp 3) 0) ?_)
        unfold Halted
        refine wpList_forget (fun W => SBox W b s (a : Nat) 0 ∧ Blk W w.heap.size #[.int .i64 0, .int .i64 0, .int .i64 0, .slice none 0 0] 40 ∧ Blk W (w.heap.size + 1) #[.int .i64 (idxV signSet (byteAt s a) + 1), .int .i64 a, .int .i64 0, .slice none 0 0] 40 ∧ Chg (One b) w W) ⟨HB3.out, HT3.out, HU3.out, hC3.out⟩ ?_
        clear HB3 HT3 HU3 hC3
        rintro W ⟨HB3, HT3, HU3, hC3⟩
        obtain ⟨r0, r1, r2, f0, f1, f2, hlb⟩ := SBox.at_ HB3
        obtain ⟨t0, t1, t2, t3, u0, u1, u2, u3, hlu⟩ := HU3.four
        replace HB3 := hid HB3
        replace HT3 := hid HT3
        replace HU3 := hid HU3
        replace hC3 := hid hC3
        have HB4 := hid (show SBox (W.setCell ⟨b, 1, none⟩ (.int .i64 ((a : Int) + 1))) b s (a + 1 : Nat) 0 from HB3.out.putAt _)
        have hbt : (⟨b, 1, none⟩ : Addr).block ≠ w.heap.size := by dsimp only; omega
        have hbv : (⟨b, 1, none⟩ : Addr).block ≠ w.heap.size + 1 := by dsimp only; omega
        have HT4 := hid (Blk.other HT3.out hbt (.int .i64 ((a : Int) + 1)))
        have HU4 := hid (Blk.other HU3.out hbv (.int .i64 ((a : Int) + 1)))
        have hC4 := hid (hC3.out.setOne 1 (.int .i64 ((a : Int) + 1)))
        clear hbt hbv
        go_wp2_with fail
        refine (number_any b s (a + 1) m _ HB4.out hs (by omega) h3).mono ?_
        rintro e w7 ⟨v, rfl, hv, hB, hc⟩
        have hv7 := hid hv
        have HB7 := hid hB
        have hC7 := hid (hC4.out.trans hc)
        have HT7 := hid (HT4.out.chg hc (by unfold One; omega))
        have HU7 := hid (HU4.out.chg hc (by unfold One; omega))
        have hs7 := hc.size
        clear hB hc hv HB3 HT3 HU3 hC3 HB4 HT4 HU4 hC4 r0 r1 r2 f0 f1 f2 hlb t0 t1 t2 t3 u0 u1 u2 u3 hlu
        obtain ⟨t0, t1, t2, t3, u0, u1, u2, u3, hlu⟩ := HU7.out.four
        have q2 : (⟨w.heap.size + 1, 2, none⟩ : Addr).block ≠ w.heap.size := by dsimp only; omega
        have p2 : (⟨w.heap.size + 1, 2, none⟩ : Addr).block ≠ b := by dsimp only; omega
        have HT8 := hid (Blk.other HT7.out q2 (.int .i64 v))
        have HB8 := hid (Blk.other HB7.out p2 (.int .i64 v))
        have hC8 := hid (hC7.out.setNew (Nat.le_succ _) 2 (.int .i64 v))
        clear q2 p2
        go_wp2_with (with_reducible refine halt_op (.store 40 (.tmp 2) (.tmp 56)) ?_)
        unfold Halted
        refine store_blk rfl 40 (.tmp 2) (.tmp 56) (by rfl) _ (by rfl) _ (by rfl) HT8.out (by rfl) (by exact infoTT) (by rfl) ?_
        intro wz HR hr
        go_wp2
        exact bodyPost_ret (results_cell_row Try.results22 _ _ _ _ _ _ _ (by rfl) HR Try.underlying40 rfl (by exact infoTT)) rfl ⟨idxV signSet (byteAt s a) + 1, a, v, none, 0, 0, rfl, (fun t nx h => by
          cases hR0 : numS s (a + 1) m with
          | bad p e => rw [hR0] at h; cases h
          | ok ys n => rw [hR0] at h; injection h with h1 h2; subst h1; exact ⟨hkk.out, rfl, hv7.out ys n hR0, PRead.nil _ _ _ rfl⟩), Blk.chg (by rw [Rd.map_at, Rd.map_no]; exact HB8.out) hr (by unfold One; omega), hC8.out.then hr (fun i hi hk => absurd hk (by unfold One; omega))⟩
    · have hk6 : ((idxV signSet (byteAt s a) + 1) == 6) = false := by rw [beq_eq_false_iff_ne]; have := hkk.out; omega
      have hk7 : ((idxV signSet (byteAt s a) + 1) == 7) = true := beq_iff_eq.2 (by have := hkk.out; omega)
      replace hk6' := hid hk6'
      go_enter Try.func22, Try.ntmps22
      go_wp2_with fail
      refine (has_any b s a 34 0 _ HB0.out (by omega) (by omega) (by decide)).mono ?_
      rintro e w1 ⟨rfl, hB, hc⟩
      rw [h34.out]
      rw [h34.out] at hB
      have hC1 := hid (hC0.out.trans hc)
      have HT1 := hid (HT0.out.chg hc (by unfold One; omega))
      have HU1 := hid (HU0.out.chg hc (by unfold One; omega))
      have hs1 := hc.size
      simp only [World.size_alloc] at hs1
      replace hB : SBox w1 b s (a : Nat) 0 := hB
      have HB1 := hid hB
      clear hB hc HT0 HU0 HB0 hC0 r0 r1 r2 f0 f1 f2
      obtain ⟨r0, r1, r2, f0, f1, f2, hlb⟩ := SBox.at_ HB1.out
      obtain ⟨t0, t1, t2, t3, u0, u1, u2, u3, hlu⟩ := HU1.out.four
      have hg := byteAt_eq ha
      have hbu : b ≠ w.heap.size + 1 := by omega
      have hbu' : w.heap.size + 1 ≠ b := by omega
      have kz := IntWalk.i64_in (idxV signSet (byteAt s a) + 1) (by have := KB.out; unfold kindV at this; omega)
      go_wp2_with fail
      go_region_with (first | (go_at_call 37; (with_reducible refine (sgn_any _ _).mono ?_); rintro e w3 ⟨rfl, rfl⟩))
      all_goals
        have q0 : (⟨w.heap.size + 1, 0, none⟩ : Addr).block ≠ w.heap.size := by dsimp only; omega
        have p0 : (⟨w.heap.size + 1, 0, none⟩ : Addr).block ≠ b := by dsimp only; omega
        have HT3 := hid (Blk.drew (Blk.other HT1.out q0 (.int .i64 (idxV signSet (byteAt s a) + 1))))
        have HB3 := hid (show SBox (w1.setCell ⟨w.heap.size + 1, 0, none⟩ (.int .i64 (idxV signSet (byteAt s a) + 1))).drew b s (a : Nat) 0 from Blk.drew (Blk.other HB1.out p0 (.int .i64 (idxV signSet (byteAt s a) + 1))))
        have HU3 := hid (show Blk (w1.setCell ⟨w.heap.size + 1, 0, none⟩ (.int .i64 (idxV signSet (byteAt s a) + 1))).drew (w.heap.size + 1) #[.int .i64 (idxV signSet (byteAt s a) + 1), .int .i64 a, .int .i64 0, .slice none 0 0] 40 from Blk.drew (Blk.set HU1.out 0 (.int .i64 (idxV signSet (byteAt s a) + 1))))
        have hC3 := hid ((hC1.out.setNew (Nat.le_succ _) 0 (.int .i64 (idxV signSet (byteAt s a) + 1))).drew)
        clear q0 p0 HT1 HB1 HU1 hC1 t0 t1 t2 t3 u0 u1 u2 u3 r0 r1 r2 f0 f1 f2 hlb hlu
        go_wp2_with (with_reducible refine halt_op (.fieldAddr 40 (.tmp 3) 0) ?_)
        unfold Halted
        refine wpList_forget (fun W => SBox W b s (a : Nat) 0 ∧ Blk W w.heap.size #[.int .i64 0, .int .i64 0, .int .i64 0, .slice none 0 0] 40 ∧ Blk W (w.heap.size + 1) #[.int .i64 (idxV signSet (byteAt s a) + 1), .int .i64 a, .int .i64 0, .slice none 0 0] 40 ∧ Chg (One b) w W) ⟨HB3.out, HT3.out, HU3.out, hC3.out⟩ ?_
        clear HB3 HT3 HU3 hC3
        rintro W ⟨HB3, HT3, HU3, hC3⟩
        obtain ⟨r0, r1, r2, f0, f1, f2, hlb⟩ := SBox.at_ HB3
        obtain ⟨t0, t1, t2, t3, u0, u1, u2, u3, hlu⟩ := HU3.four
        replace HB3 := hid HB3
        replace HT3 := hid HT3
        replace HU3 := hid HU3
        replace hC3 := hid hC3
        have HB4 := hid (show SBox (W.setCell ⟨b, 1, none⟩ (.int .i64 ((a : Int) + 1))) b s (a + 1 : Nat) 0 from HB3.out.putAt _)
        have hbt : (⟨b, 1, none⟩ : Addr).block ≠ w.heap.size := by dsimp only; omega
        have hbv : (⟨b, 1, none⟩ : Addr).block ≠ w.heap.size + 1 := by dsimp only; omega
        have HT4 := hid (Blk.other HT3.out hbt (.int .i64 ((a : Int) + 1)))
        have HU4 := hid (Blk.other HU3.out hbv (.int .i64 ((a : Int) + 1)))
        have hC4 := hid (hC3.out.setOne 1 (.int .i64 ((a : Int) + 1)))
        clear hbt hbv
        go_wp2_with fail
        refine (number_any b s (a + 1) m _ HB4.out hs (by omega) h3).mono ?_
        rintro e w7 ⟨v, rfl, hv, hB, hc⟩
        have hv7 := hid hv
        have HB7 := hid hB
        have hC7 := hid (hC4.out.trans hc)
        have HT7 := hid (HT4.out.chg hc (by unfold One; omega))
        have HU7 := hid (HU4.out.chg hc (by unfold One; omega))
        have hs7 := hc.size
        clear hB hc hv HB3 HT3 HU3 hC3 HB4 HT4 HU4 hC4 r0 r1 r2 f0 f1 f2 hlb t0 t1 t2 t3 u0 u1 u2 u3 hlu
        obtain ⟨t0, t1, t2, t3, u0, u1, u2, u3, hlu⟩ := HU7.out.four
        have q2 : (⟨w.heap.size + 1, 2, none⟩ : Addr).block ≠ w.heap.size := by dsimp only; omega
        have p2 : (⟨w.heap.size + 1, 2, none⟩ : Addr).block ≠ b := by dsimp only; omega
        have HT8 := hid (Blk.other HT7.out q2 (.int .i64 v))
        have HB8 := hid (Blk.other HB7.out p2 (.int .i64 v))
        have hC8 := hid (hC7.out.setNew (Nat.le_succ _) 2 (.int .i64 v))
        clear q2 p2
        go_wp2_with (with_reducible refine halt_op (.store 40 (.tmp 2) (.tmp 56)) ?_)
        unfold Halted
        refine store_blk rfl 40 (.tmp 2) (.tmp 56) (by rfl) _ (by rfl) _ (by rfl) HT8.out (by rfl) (by exact infoTT) (by rfl) ?_
        intro wz HR hr
        go_wp2
        exact bodyPost_ret (results_cell_row Try.results22 _ _ _ _ _ _ _ (by rfl) HR Try.underlying40 rfl (by exact infoTT)) rfl ⟨idxV signSet (byteAt s a) + 1, a, v, none, 0, 0, rfl, (fun t nx h => by
          cases hR0 : numS s (a + 1) m with
          | bad p e => rw [hR0] at h; cases h
          | ok ys n => rw [hR0] at h; injection h with h1 h2; subst h1; exact ⟨hkk.out, rfl, hv7.out ys n hR0, PRead.nil _ _ _ rfl⟩), Blk.chg (by rw [Rd.map_at, Rd.map_no]; exact HB8.out) hr (by unfold One; omega), hC8.out.then hr (fun i hi hk => absurd hk (by unfold One; omega))⟩
end Go.Proofs.Ytpndjehiacmngaa
