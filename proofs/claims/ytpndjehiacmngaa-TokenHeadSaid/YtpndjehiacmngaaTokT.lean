/- Layer 13: the document's kind, element, pattern. -/
import Derived.Test.YtpndjehiacmngaaTokO
import Derived.Test.YtpndjehiacmngaaTokR
import Derived.Test.YtpndjehiacmngaaLibD
namespace Go.Proofs.Ytpndjehiacmngaa
open Go.RowKit
set_option linter.unusedVariables false
attribute [local go_sem ↓] Go.wp_at_zero Go.wp_at_succ
theorem sig_hit' : ∀ k : Fin 7, kindV (byteAt signSet k.val) = (k.val : Int) + 1 := by decide +kernel
theorem sig_hit (k : Nat) (h : k < 7) : kindV (byteAt signSet k) = (k : Int) + 1 := sig_hit' ⟨k, h⟩
theorem sig_none' : ∀ b : Fin 256, (∀ j : Fin 7, byteAt signSet j.val ≠ b.val) → kindV b.val < 1 := by decide +kernel
theorem sig_none (b : Nat) (hb : b < 256) (h : ∀ j, j < 7 → byteAt signSet j ≠ b) : kindV b < 1 := sig_none' ⟨b, hb⟩ (fun j => h j.val j.isLt)
def kind0 (b : Nat) : Int := if kindV b < 1 then 0 else kindV b
theorem refKind_any (b : Nat) (w : World) (hb : b < 256) :
    Calls Try.prog 41 #[.int .u8 b] w fun e w' => e = .returned (.int .i64 (kind0 b)) ∧ w' = w := by
  go_enter Try.func41, Try.ntmps41
  go_wp2_with fail
  go_loop [4] (fun i => ∃ k : Nat, k ≤ 7 ∧ i = .int .i64 k ∧ Hid (∀ j, j < k → byteAt signSet j ≠ b)) (fun i => 7 - (intOf i).toNat)
  case atStart => exact ⟨0, by omega, rfl, hid (fun j h => by omega)⟩
  case round =>
    obtain ⟨k, hk, rfl, hall⟩ := hrel
    by_cases hlt : k < 7
    · have hks : k < signSet.size := hlt
      obtain ⟨v, hv⟩ : ∃ v, v = byteAt signSet k := ⟨_, rfl⟩
      have hg : (signSet[k]'hks).toNat = v := by rw [hv]; exact byteAt_eq hks
      unfold signSet at hg hks
      by_cases he : v = b
      · have hE := hid (show kind0 b = (k : Int) + 1 from by unfold kind0; rw [← he, hv, sig_hit k hlt, if_neg (by omega)])
        have hd : (((v : Nat) : Int) == (b : Int)) = true := beq_iff_eq.2 (by omega)
        replace he := hid he
        replace hv := hid hv
        go_wp2
        go_ret
        exact ⟨by rw [hE.out]; rfl, rfl⟩
      · have hd : (((v : Nat) : Int) == (b : Int)) = false := by rw [beq_eq_false_iff_ne]; omega
        have hnew := hid (show ∀ j, j < k + 1 → byteAt signSet j ≠ b from fun j hj => by
          rcases Nat.lt_or_ge j k with h | h
          · exact hall.out j h
          · have e : j = k := by omega
            rw [e, ← hv]; exact he)
        replace hv := hid hv
        clear he
        go_wp2
        go_round
        case rel => exact ⟨k + 1, by omega, by go_num, hnew⟩
        case measure => simp [intOf]; omega
    · have hE := hid (show kind0 b = 0 from by unfold kind0; rw [if_pos (sig_none b hb (fun j hj => hall.out j (by omega)))])
      go_wp2
      go_ret
      exact ⟨by rw [hE.out]; rfl, rfl⟩
/-! ### element -/
theorem ofC_one (v : Nat) (hv : v < 256) : rangeC v v = BitVec.twoPow 256 v := cls_ext fun i hi => by
  unfold rangeC; rw [setC_get _ hi, BitVec.getLsbD_twoPow]
  by_cases e : v = i
  · subst e; simp [hv]
  · have : (decide (v ≤ i) && decide (i ≤ v)) = false := by simp; omega
    rw [this]; simp [e]
/-- What the document's element answers: the class counts where nothing is amiss. -/
def ElemAns (R : Rd Cls) (w : World) (e : Ending) (w' : World) : Prop :=
  ∃ (B : Nat) (x : Cls), e = .returned (.agg #[.int .u8 B, .int .u64 (wd x 0), .int .u64 (wd x 1), .int .u64 (wd x 2), .int .u64 (wd x 3), .slice none 0 0, .int .i64 0, .int .i64 (R.at_ : Nat), .int .i64 R.no]) ∧ (∀ y nx, R = .ok y nx → x = y) ∧ Chg Nothing w w'
theorem refClassL (s : ByteArray) (op : Nat) (R : Rd (Cls × Nat)) (hR : ClassRun s (beginS s op) 0 0 R) (w : World) (hs : s.size ≤ 9223372036854775000) (ha : op < s.size) :
    Calls Try.prog 63 #[.string s, .int .i64 op] w fun e w' => ∃ x : Cls, e = .returned (.agg #[.int .u8 0, .int .u64 (wd x 0), .int .u64 (wd x 1), .int .u64 (wd x 2), .int .u64 (wd x 3), .slice none 0 0, .int .i64 0, .int .i64 ((finC (negS s op) op R).at_ : Nat), .int .i64 (finC (negS s op) op R).no]) ∧ (∀ y nx, finC (negS s op) op R = .ok y nx → x = y) ∧ Chg Nothing w w' := by
  refine (refClass_any s op R hR w hs ha).mono ?_
  rintro e w' ⟨rfl, hc⟩
  cases hF : finC (negS s op) op R with
  | ok y nx => exact ⟨y, rfl, (fun z n h => by injection h), hc⟩
  | bad p e => exact ⟨0, by simp only [wd_zero]; rfl, (fun z n h => by cases h), hc⟩
theorem splice9 (v0 v1 v2 v3 v4 v5 v6 v7 v8 a b c d : Value) : splice #[v0, v1, v2, v3, v4, v5, v6, v7, v8] 1 #[a, b, c, d].toList = #[v0, a, b, c, d, v5, v6, v7, v8] := by simp [splice]
theorem inS_empty (b : Nat) : inS ByteArray.empty b = false := by unfold inS; rfl
set_option maxHeartbeats 4000000 in
set_option maxRecDepth 100000 in
theorem refElement_any (s : ByteArray) (a : Nat) (R : Rd Cls) (hR : ElemRd s a R) (w : World) (hs : s.size ≤ 9223372036854775000) (ha : a < s.size) :
    Calls Try.prog 56 #[.string s, .int .i64 a] w (ElemAns R w) := by
  have hlt1 := byteAt_lt s a
  have hg := byteAt_eq ha
  have HG0 := hid (Blk.new w #[.int .u8 0, .int .u64 0, .int .u64 0, .int .u64 0, .int .u64 0, .slice none 0 0, .int .i64 0, .int .i64 0, .int .i64 0] 57)
  have hC0 := hid ((Chg.refl Nothing w).alloc (.cells #[.int .u8 0, .int .u64 0, .int .u64 0, .int .u64 0, .int .u64 0, .slice none 0 0, .int .i64 0, .int .i64 0, .int .i64 0] 57))
  cases hR with
  | full h =>
    have hd : (((byteAt s a : Nat) : Int) == 63) = true := beq_iff_eq.2 (by omega)
    replace h := hid h
    go_enter Try.func56, Try.ntmps56
    go_wp2_with fail
    refine (refFullL _).mono ?_
    rintro e w1 ⟨rfl, hc⟩
    have HG1 := hid (HG0.out.chg hc id)
    have hC1 := hid (hC0.out.trans hc)
    clear hc HG0 hC0
    go_wp2_with (with_reducible refine halt_op (.store 57 (.tmp 4) (.tmp 13)) ?_)
    unfold Halted
    refine store_blk rfl 57 (.tmp 4) (.tmp 13) (by rfl) _ (by rfl) _ (by rfl) HG1.out (by rfl) (by exact infoG) (by rfl) ?_
    intro wz HR hr
    go_wp2
    exact bodyPost_ret (results_cell_row Try.results56 _ _ _ _ _ _ _ (by rfl) HR Try.underlying57 rfl (by exact infoG)) rfl ⟨0, fullC, rfl, (fun y nx h => by injection h), hC1.out.then hr (fun i hi hk => absurd hk (by unfold One; omega))⟩
  | @cls R0 h k =>
    have hd : (((byteAt s a : Nat) : Int) == 63) = false := by rw [beq_eq_false_iff_ne]; omega
    have hd2 : (((byteAt s a : Nat) : Int) == 91) = true := beq_iff_eq.2 (by omega)
    replace h := hid h
    go_enter Try.func56, Try.ntmps56
    go_wp2_with fail
    refine (refClassL s a R0 k _ hs ha).mono ?_
    rintro e w1 ⟨x, rfl, hx, hc⟩
    replace hx := hid hx
    have HG1 := hid (HG0.out.chg hc id)
    have hC1 := hid (hC0.out.trans hc)
    clear hc HG0 hC0
    go_wp2_with (with_reducible refine halt_op (.store 57 (.tmp 4) (.tmp 20)) ?_)
    unfold Halted
    refine store_blk rfl 57 (.tmp 4) (.tmp 20) (by rfl) _ (by rfl) _ (by rfl) HG1.out (by rfl) (by exact infoG) (by rfl) ?_
    intro wz HR hr
    go_wp2
    exact bodyPost_ret (results_cell_row Try.results56 _ _ _ _ _ _ _ (by rfl) HR Try.underlying57 rfl (by exact infoG)) rfl ⟨0, x, rfl, hx.out, hC1.out.then hr (fun i hi hk => absurd hk (by unfold One; omega))⟩
  | byte h h' =>
    have hd : (((byteAt s a : Nat) : Int) == 63) = false := by rw [beq_eq_false_iff_ne]; omega
    have hd2 : (((byteAt s a : Nat) : Int) == 91) = false := by rw [beq_eq_false_iff_ne]; omega
    have hone := hid (show oneS ByteArray.empty 130 s a = if byteAt s a = 92 then escS s a else if signB (byteAt s a) = true ∧ inS ByteArray.empty (byteAt s a) = false then .ok (byteAt s a) (a + 1) else .bad a 130 from rfl)
    replace h := hid h
    replace h' := hid h'
    by_cases h92 : byteAt s a = 92
    · have hd3 : (((byteAt s a : Nat) : Int) == 92) = true := beq_iff_eq.2 (by omega)
      have hE := hid (show oneS ByteArray.empty 130 s a = escS s a from by rw [hone.out, if_pos h92])
      replace h92 := hid h92
      rw [hE.out]
      go_enter Try.func56, Try.ntmps56
      go_wp2_with fail
      refine (refEscape_any' s a _ hs ha).mono ?_
      rintro e w1 ⟨rfl, hc⟩
      have hb1 := Blk.new (w.alloc (.cells #[.int .u8 0, .int .u64 0, .int .u64 0, .int .u64 0, .int .u64 0, .slice none 0 0, .int .i64 0, .int .i64 0, .int .i64 0] 57)) #[.int .u8 (byteAt s a), .int .u64 0, .int .u64 0, .int .u64 0, .int .u64 0, .slice none 0 0, .int .i64 0, .int .i64 ((a : Int) + 1), .int .i64 0] 57
      rw [World.size_alloc] at hb1
      have HB1 := hid (hb1.chg hc id)
      have HG1 := hid ((HG0.out.alloc _).chg hc id)
      have hC1 := hid ((hC0.out.alloc _).trans hc)
      clear hc HG0 hC0 hb1
      go_wp2_with (with_reducible refine halt_op (.store 57 (.tmp 5) (.tmp 33)) ?_)
      unfold Halted
      refine store_blk rfl 57 (.tmp 5) (.tmp 33) (by rfl) _ (by rfl) _ (by rfl) HB1.out (by rfl) (by exact infoG) (by rfl) ?_
      intro w3 HB3 hc
      have HG3 := hid (HG1.out.chg hc (by unfold One; omega))
      have hC3 := hid (hC1.out.then hc (fun i hi hk => absurd hk (by unfold One; omega)))
      have b0 := HB3.cell 0 rfl
      have hval := hid (show ∀ y nx, (escS s a).map (fun v => BitVec.twoPow 256 v) = .ok y nx → rangeC ((escS s a).val 0) ((escS s a).val 0) = y from by
        cases hR : escS s a with
        | ok v n => intro y nx h; injection h with h1 h2; rw [← h1]; exact ofC_one v (escS_ok hR).2.2
        | bad p e => intro y nx h; cases h)
      have hlv : Hid ((escS s a).val 0 < 256) := hid (by
        cases hR : escS s a with
        | ok v n => exact (escS_ok hR).2.2
        | bad p e => exact (by decide : (0 : Nat) < 256))
      replace HB3 := hid HB3
      clear hc HG1 HB1 hC1
      obtain ⟨V, hV⟩ : ∃ V, V = (escS s a).val 0 := ⟨_, rfl⟩
      rw [← hV] at hval hlv HB3 b0
      have hlv' := hlv.out
      replace hV := hid hV
      go_wp2_with fail
      refine (refRangeL V V _ (by omega) (by omega)).mono ?_
      rintro e w4 ⟨rfl, hc⟩
      have HG4 := hid (HG3.out.chg hc id)
      have HB4 := hid (HB3.out.chg hc id)
      have hC4 := hid (hC3.out.trans hc)
      have hs4 := hc.size
      clear hc HG3 HB3 hC3 b0
      go_wp2_with (with_reducible refine halt_op (.store 35 (.tmp 46) (.tmp 45)) ?_)
      unfold Halted
      refine store_in rfl 35 (.tmp 46) (.tmp 45) (by rfl) _ 1 (by rfl) _ (by rfl) HB4.out (by exact Nat.le_of_ble_eq_true rfl) (by exact infoC4) (by rfl) ?_
      intro w5 HB5 hc
      rw [splice9] at HB5
      replace HB5 := hid HB5
      have HG5 := hid (HG4.out.chg hc (by unfold One; omega))
      have hC5 := hid (hC4.out.then hc (fun i hi hk => absurd hk (by unfold One; omega)))
      clear hc HG4 HB4 hC4
      go_wp2_with (with_reducible refine halt_op (.load 57 (.tmp 5)) ?_)
      unfold Halted
      refine wpList_load_row rfl 57 (.tmp 5) (by rfl) _ (by rfl) _ _ _ _ HB5.out Try.underlying57 (by rfl) (by exact infoG) ?_
      go_wp2_with (with_reducible refine halt_op (.store 57 (.tmp 4) (.tmp 47)) ?_)
      unfold Halted
      refine store_blk rfl 57 (.tmp 4) (.tmp 47) (by rfl) _ (by rfl) _ (by rfl) HG5.out (by rfl) (by exact infoG) (by rfl) ?_
      intro wz HR hr
      go_wp2
      exact bodyPost_ret (results_cell_row Try.results56 _ _ _ _ _ _ _ (by rfl) HR Try.underlying57 rfl (by exact infoG)) rfl ⟨V, rangeC V V, by rw [Rd.map_at, Rd.map_no] <;> rfl, hval.out, hC5.out.then hr (fun i hi hk => absurd hk (by unfold One; omega))⟩
    · have hd3 : (((byteAt s a : Nat) : Int) == 92) = false := by rw [beq_eq_false_iff_ne]; omega
      have hb1 := Blk.new (w.alloc (.cells #[.int .u8 0, .int .u64 0, .int .u64 0, .int .u64 0, .int .u64 0, .slice none 0 0, .int .i64 0, .int .i64 0, .int .i64 0] 57)) #[.int .u8 (byteAt s a), .int .u64 0, .int .u64 0, .int .u64 0, .int .u64 0, .slice none 0 0, .int .i64 0, .int .i64 ((a : Int) + 1), .int .i64 0] 57
      rw [World.size_alloc] at hb1
      have HB1 := hid hb1
      have HG1 := hid (HG0.out.alloc (.cells #[.int .u8 (byteAt s a), .int .u64 0, .int .u64 0, .int .u64 0, .int .u64 0, .slice none 0 0, .int .i64 0, .int .i64 ((a : Int) + 1), .int .i64 0] 57))
      have hC1 := hid (hC0.out.alloc (.cells #[.int .u8 (byteAt s a), .int .u64 0, .int .u64 0, .int .u64 0, .int .u64 0, .slice none 0 0, .int .i64 0, .int .i64 ((a : Int) + 1), .int .i64 0] 57))
      clear HG0 hC0 hb1
      cases hsg : signB (byteAt s a) with
      | true =>
        have hE := hid (show oneS ByteArray.empty 130 s a = .ok (byteAt s a) (a + 1) from by rw [hone.out, if_neg h92, if_pos ⟨hsg, inS_empty _⟩])
        have hsg' := hid (show ∀ w, Calls Try.prog 48 #[.int .u8 (byteAt s a)] w fun e w' => e = .returned (.bool true) ∧ w' = w from fun w => by have := refSign_any (byteAt s a) w (by omega); rw [hsg] at this; exact this)
        clear hsg
        replace h92 := hid h92
        rw [hE.out]
        go_enter Try.func56, Try.ntmps56
        go_wp2_with fail
        refine (hsg'.out _).mono ?_
        rintro e w' ⟨rfl, rfl⟩
        have b0 := HB1.out.cell 0 rfl
        have hval := hid (show ∀ y nx, (Rd.ok (byteAt s a) (a + 1)).map (fun v => BitVec.twoPow 256 v) = .ok y nx → rangeC (byteAt s a) (byteAt s a) = y from by
          intro y nx h; injection h with h1 h2; rw [← h1]; exact ofC_one _ (byteAt_lt s a))
        have HB3 := HB1
        have HG3 := HG1
        have hC3 := hC1
        clear HB1 HG1 hC1
        go_wp2_with fail
        refine (refRangeL (byteAt s a) (byteAt s a) _ (by omega) (by omega)).mono ?_
        rintro e w4 ⟨rfl, hc⟩
        have HG4 := hid (HG3.out.chg hc id)
        have HB4 := hid (HB3.out.chg hc id)
        have hC4 := hid (hC3.out.trans hc)
        have hs4 := hc.size
        clear hc HG3 HB3 hC3 b0
        go_wp2_with (with_reducible refine halt_op (.store 35 (.tmp 46) (.tmp 45)) ?_)
        unfold Halted
        refine store_in rfl 35 (.tmp 46) (.tmp 45) (by rfl) _ 1 (by rfl) _ (by rfl) HB4.out (by exact Nat.le_of_ble_eq_true rfl) (by exact infoC4) (by rfl) ?_
        intro w5 HB5 hc
        rw [splice9] at HB5
        replace HB5 := hid HB5
        have HG5 := hid (HG4.out.chg hc (by unfold One; omega))
        have hC5 := hid (hC4.out.then hc (fun i hi hk => absurd hk (by unfold One; omega)))
        clear hc HG4 HB4 hC4
        go_wp2_with (with_reducible refine halt_op (.load 57 (.tmp 5)) ?_)
        unfold Halted
        refine wpList_load_row rfl 57 (.tmp 5) (by rfl) _ (by rfl) _ _ _ _ HB5.out Try.underlying57 (by rfl) (by exact infoG) ?_
        go_wp2_with (with_reducible refine halt_op (.store 57 (.tmp 4) (.tmp 47)) ?_)
        unfold Halted
        refine store_blk rfl 57 (.tmp 4) (.tmp 47) (by rfl) _ (by rfl) _ (by rfl) HG5.out (by rfl) (by exact infoG) (by rfl) ?_
        intro wz HR hr
        go_wp2
        exact bodyPost_ret (results_cell_row Try.results56 _ _ _ _ _ _ _ (by rfl) HR Try.underlying57 rfl (by exact infoG)) rfl ⟨(byteAt s a), rangeC (byteAt s a) (byteAt s a), by rw [Rd.map_at, Rd.map_no] <;> rfl, hval.out, hC5.out.then hr (fun i hi hk => absurd hk (by unfold One; omega))⟩
      | false =>
        have hE := hid (show oneS ByteArray.empty 130 s a = .bad a 130 from by rw [hone.out, if_neg h92, if_neg (by rw [hsg]; simp)])
        have hsg' := hid (show ∀ w, Calls Try.prog 48 #[.int .u8 (byteAt s a)] w fun e w' => e = .returned (.bool false) ∧ w' = w from fun w => by have := refSign_any (byteAt s a) w (by omega); rw [hsg] at this; exact this)
        clear hsg
        replace h92 := hid h92
        rw [hE.out]
        go_enter Try.func56, Try.ntmps56
        go_wp2_with fail
        refine (hsg'.out _).mono ?_
        rintro e w' ⟨rfl, rfl⟩
        go_wp2_with (with_reducible refine halt_op (.store 57 (.tmp 5) (.tmp 40)) ?_)
        unfold Halted
        refine store_blk rfl 57 (.tmp 5) (.tmp 40) (by rfl) _ (by rfl) _ (by rfl) HB1.out (by rfl) (by exact infoG) (by rfl) ?_
        intro w3 HB3 hc
        have HG3 := hid (HG1.out.chg hc (by unfold One; omega))
        have hC3 := hid (hC1.out.then hc (fun i hi hk => absurd hk (by unfold One; omega)))
        have b0 := HB3.cell 0 rfl
        have hval := hid (show ∀ y nx, (Rd.bad a 130 : Rd Nat).map (fun v => BitVec.twoPow 256 v) = .ok y nx → rangeC 0 0 = y from by intro y nx h; cases h)
        replace HB3 := hid HB3
        clear hc HG1 HB1 hC1
        go_wp2_with fail
        refine (refRangeL 0 0 _ (by decide) (by decide)).mono ?_
        rintro e w4 ⟨rfl, hc⟩
        have HG4 := hid (HG3.out.chg hc id)
        have HB4 := hid (HB3.out.chg hc id)
        have hC4 := hid (hC3.out.trans hc)
        have hs4 := hc.size
        clear hc HG3 HB3 hC3 b0
        go_wp2_with (with_reducible refine halt_op (.store 35 (.tmp 46) (.tmp 45)) ?_)
        unfold Halted
        refine store_in rfl 35 (.tmp 46) (.tmp 45) (by rfl) _ 1 (by rfl) _ (by rfl) HB4.out (by exact Nat.le_of_ble_eq_true rfl) (by exact infoC4) (by rfl) ?_
        intro w5 HB5 hc
        rw [splice9] at HB5
        replace HB5 := hid HB5
        have HG5 := hid (HG4.out.chg hc (by unfold One; omega))
        have hC5 := hid (hC4.out.then hc (fun i hi hk => absurd hk (by unfold One; omega)))
        clear hc HG4 HB4 hC4
        go_wp2_with (with_reducible refine halt_op (.load 57 (.tmp 5)) ?_)
        unfold Halted
        refine wpList_load_row rfl 57 (.tmp 5) (by rfl) _ (by rfl) _ _ _ _ HB5.out Try.underlying57 (by rfl) (by exact infoG) ?_
        go_wp2_with (with_reducible refine halt_op (.store 57 (.tmp 4) (.tmp 47)) ?_)
        unfold Halted
        refine store_blk rfl 57 (.tmp 4) (.tmp 47) (by rfl) _ (by rfl) _ (by rfl) HG5.out (by rfl) (by exact infoG) (by rfl) ?_
        intro wz HR hr
        go_wp2
        exact bodyPost_ret (results_cell_row Try.results56 _ _ _ _ _ _ _ (by rfl) HR Try.underlying57 rfl (by exact infoG)) rfl ⟨0, rangeC 0 0, by rw [Rd.map_at, Rd.map_no] <;> rfl, hval.out, hC5.out.then hr (fun i hi hk => absurd hk (by unfold One; omega))⟩
end Go.Proofs.Ytpndjehiacmngaa
