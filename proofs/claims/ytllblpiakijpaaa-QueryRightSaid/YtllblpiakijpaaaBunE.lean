/- Joined texts: TokT TokU TokV TokW TokX TokY TokZ. -/
import Derived.Test.YtllblpiakijpaaaBunD
import Derived.Test.YtllblpiakijpaaaBunA
import Derived.Laws.BytesArg
/- Layer 13: the document's kind, element, pattern. -/
namespace Go.Proofs.Ytllblpiakijpaaa
open Go.RowKit
set_option linter.unusedVariables false
attribute [local go_sem ↓] Go.wp_at_zero Go.wp_at_succ
theorem sig_hit' : ∀ k : Fin 7, kindV (byteAt signSet k.val) = (k.val : Int) + 1 := by decide +kernel
theorem sig_hit (k : Nat) (h : k < 7) : kindV (byteAt signSet k) = (k : Int) + 1 := sig_hit' ⟨k, h⟩
theorem sig_none' : ∀ b : Fin 256, (∀ j : Fin 7, byteAt signSet j.val ≠ b.val) → kindV b.val < 1 := by decide +kernel
theorem sig_none (b : Nat) (hb : b < 256) (h : ∀ j, j < 7 → byteAt signSet j ≠ b) : kindV b < 1 := sig_none' ⟨b, hb⟩ (fun j => h j.val j.isLt)
def kind0 (b : Nat) : Int := if kindV b < 1 then 0 else kindV b
theorem refKind_any (b : Nat) (w : World) (hb : b < 256) :
    Calls Try.prog 76 #[.int .u8 b] w fun e w' => e = .returned (.int .i64 (kind0 b)) ∧ w' = w := by
  go_enter Try.func76, Try.ntmps76
  go_wp2_with fail
  go_loop [4] (fun i => ∃ k : Nat, k ≤ 7 ∧ i = .int .i64 k ∧ Hid (∀ j, j < k → byteAt signSet j ≠ b)) (fun i => 7 - (intOf i).toNat)
  case atStart => exact ⟨0, by omega, rfl, hid (fun j h => by omega)⟩
  case round =>
    obtain ⟨k, hk, rfl, hall⟩ := hrel
    by_cases hlt : k < 7
    · have hks : k < signSet.size := hlt
      obtain ⟨v, hv⟩ : ∃ v, v = byteAt signSet k := ⟨_, rfl⟩
      have hg : (signSet[k]'hks).toNat = v := by rw [hv]; exact byteAt_eq hks
      unfold signSet at hg hks
      by_cases he : v = b
      · have hE := hid (show kind0 b = (k : Int) + 1 from by unfold kind0; rw [← he, hv, sig_hit k hlt, if_neg (by omega)])
        have hd : (((v : Nat) : Int) == (b : Int)) = true := beq_iff_eq.2 (by omega)
        replace he := hid he
        replace hv := hid hv
        go_wp2
        go_ret
        exact ⟨by rw [hE.out]; rfl, rfl⟩
      · have hd : (((v : Nat) : Int) == (b : Int)) = false := by rw [beq_eq_false_iff_ne]; omega
        have hnew := hid (show ∀ j, j < k + 1 → byteAt signSet j ≠ b from fun j hj => by
          rcases Nat.lt_or_ge j k with h | h
          · exact hall.out j h
          · have e : j = k := by omega
            rw [e, ← hv]; exact he)
        replace hv := hid hv
        clear he
        go_wp2
        go_round
        case rel => exact ⟨k + 1, by omega, by go_num, hnew⟩
        case measure => simp [intOf]; omega
    · have hE := hid (show kind0 b = 0 from by unfold kind0; rw [if_pos (sig_none b hb (fun j hj => hall.out j (by omega)))])
      go_wp2
      go_ret
      exact ⟨by rw [hE.out]; rfl, rfl⟩
/-! ### element -/
theorem ofC_one (v : Nat) (hv : v < 256) : rangeC v v = BitVec.twoPow 256 v := cls_ext fun i hi => by
  unfold rangeC; rw [setC_get _ hi, BitVec.getLsbD_twoPow]
  by_cases e : v = i
  · subst e; simp [hv]
  · have : (decide (v ≤ i) && decide (i ≤ v)) = false := by simp; omega
    rw [this]; simp [e]
/-- What the document's element answers: the class counts where nothing is amiss. -/
def ElemAns (R : Rd Cls) (w : World) (e : Ending) (w' : World) : Prop :=
  ∃ (B : Nat) (x : Cls), e = .returned (.agg #[.int .u8 B, .int .u64 (wd x 0), .int .u64 (wd x 1), .int .u64 (wd x 2), .int .u64 (wd x 3), .slice none 0 0, .int .i64 0, .int .i64 (R.at_ : Nat), .int .i64 R.no]) ∧ (∀ y nx, R = .ok y nx → x = y) ∧ Chg Nothing w w'
theorem refClassL (s : ByteArray) (op : Nat) (R : Rd (Cls × Nat)) (hR : ClassRun s (beginS s op) 0 0 R) (w : World) (hs : s.size ≤ 9223372036854775000) (ha : op < s.size) :
    Calls Try.prog 109 #[.string s, .int .i64 op] w fun e w' => ∃ x : Cls, e = .returned (.agg #[.int .u8 0, .int .u64 (wd x 0), .int .u64 (wd x 1), .int .u64 (wd x 2), .int .u64 (wd x 3), .slice none 0 0, .int .i64 0, .int .i64 ((finC (negS s op) op R).at_ : Nat), .int .i64 (finC (negS s op) op R).no]) ∧ (∀ y nx, finC (negS s op) op R = .ok y nx → x = y) ∧ Chg Nothing w w' := by
  refine (refClass_any s op R hR w hs ha).mono ?_
  rintro e w' ⟨rfl, hc⟩
  cases hF : finC (negS s op) op R with
  | ok y nx => exact ⟨y, rfl, (fun z n h => by injection h), hc⟩
  | bad p e => exact ⟨0, by simp only [wd_zero]; rfl, (fun z n h => by cases h), hc⟩
theorem splice9 (v0 v1 v2 v3 v4 v5 v6 v7 v8 a b c d : Value) : splice #[v0, v1, v2, v3, v4, v5, v6, v7, v8] 1 #[a, b, c, d].toList = #[v0, a, b, c, d, v5, v6, v7, v8] := by simp [splice]
theorem inS_empty (b : Nat) : inS ByteArray.empty b = false := by unfold inS; rfl
set_option maxHeartbeats 4000000 in
set_option maxRecDepth 100000 in
theorem refElement_any (s : ByteArray) (a : Nat) (R : Rd Cls) (hR : ElemRd s a R) (w : World) (hs : s.size ≤ 9223372036854775000) (ha : a < s.size) :
    Calls Try.prog 91 #[.string s, .int .i64 a] w (ElemAns R w) := by
  have hlt1 := byteAt_lt s a
  have hg := byteAt_eq ha
  have HG0 := hid (Blk.new w #[.int .u8 0, .int .u64 0, .int .u64 0, .int .u64 0, .int .u64 0, .slice none 0 0, .int .i64 0, .int .i64 0, .int .i64 0] 80)
  have hC0 := hid ((Chg.refl Nothing w).alloc (.cells #[.int .u8 0, .int .u64 0, .int .u64 0, .int .u64 0, .int .u64 0, .slice none 0 0, .int .i64 0, .int .i64 0, .int .i64 0] 80))
  cases hR with
  | full h =>
    have hd : (((byteAt s a : Nat) : Int) == 63) = true := beq_iff_eq.2 (by omega)
    replace h := hid h
    go_enter Try.func91, Try.ntmps91
    go_wp2_with fail
    refine (refFullL _).mono ?_
    rintro e w1 ⟨rfl, hc⟩
    have HG1 := hid (HG0.out.chg hc id)
    have hC1 := hid (hC0.out.trans hc)
    clear hc HG0 hC0
    go_wp2_with (with_reducible refine halt_op (.store 80 (.tmp 4) (.tmp 13)) ?_)
    unfold Halted
    refine store_blk rfl 80 (.tmp 4) (.tmp 13) (by rfl) _ (by rfl) _ (by rfl) HG1.out (by rfl) (by exact infoG) (by rfl) ?_
    intro wz HR hr
    go_wp2
    exact bodyPost_ret (results_cell_row Try.results91 _ _ _ _ _ _ _ (by rfl) HR Try.underlying80 rfl (by exact infoG)) rfl ⟨0, fullC, rfl, (fun y nx h => by injection h), hC1.out.then hr (fun i hi hk => absurd hk (by unfold One; omega))⟩
  | @cls R0 h k =>
    have hd : (((byteAt s a : Nat) : Int) == 63) = false := by rw [beq_eq_false_iff_ne]; omega
    have hd2 : (((byteAt s a : Nat) : Int) == 91) = true := beq_iff_eq.2 (by omega)
    replace h := hid h
    go_enter Try.func91, Try.ntmps91
    go_wp2_with fail
    refine (refClassL s a R0 k _ hs ha).mono ?_
    rintro e w1 ⟨x, rfl, hx, hc⟩
    replace hx := hid hx
    have HG1 := hid (HG0.out.chg hc id)
    have hC1 := hid (hC0.out.trans hc)
    clear hc HG0 hC0
    go_wp2_with (with_reducible refine halt_op (.store 80 (.tmp 4) (.tmp 20)) ?_)
    unfold Halted
    refine store_blk rfl 80 (.tmp 4) (.tmp 20) (by rfl) _ (by rfl) _ (by rfl) HG1.out (by rfl) (by exact infoG) (by rfl) ?_
    intro wz HR hr
    go_wp2
    exact bodyPost_ret (results_cell_row Try.results91 _ _ _ _ _ _ _ (by rfl) HR Try.underlying80 rfl (by exact infoG)) rfl ⟨0, x, rfl, hx.out, hC1.out.then hr (fun i hi hk => absurd hk (by unfold One; omega))⟩
  | byte h h' =>
    have hd : (((byteAt s a : Nat) : Int) == 63) = false := by rw [beq_eq_false_iff_ne]; omega
    have hd2 : (((byteAt s a : Nat) : Int) == 91) = false := by rw [beq_eq_false_iff_ne]; omega
    have hone := hid (show oneS ByteArray.empty 130 s a = if byteAt s a = 92 then escS s a else if signB (byteAt s a) = true ∧ inS ByteArray.empty (byteAt s a) = false then .ok (byteAt s a) (a + 1) else .bad a 130 from rfl)
    replace h := hid h
    replace h' := hid h'
    by_cases h92 : byteAt s a = 92
    · have hd3 : (((byteAt s a : Nat) : Int) == 92) = true := beq_iff_eq.2 (by omega)
      have hE := hid (show oneS ByteArray.empty 130 s a = escS s a from by rw [hone.out, if_pos h92])
      replace h92 := hid h92
      rw [hE.out]
      go_enter Try.func91, Try.ntmps91
      go_wp2_with fail
      refine (refEscape_any' s a _ hs ha).mono ?_
      rintro e w1 ⟨rfl, hc⟩
      have hb1 := Blk.new (w.alloc (.cells #[.int .u8 0, .int .u64 0, .int .u64 0, .int .u64 0, .int .u64 0, .slice none 0 0, .int .i64 0, .int .i64 0, .int .i64 0] 80)) #[.int .u8 (byteAt s a), .int .u64 0, .int .u64 0, .int .u64 0, .int .u64 0, .slice none 0 0, .int .i64 0, .int .i64 ((a : Int) + 1), .int .i64 0] 80
      rw [World.size_alloc] at hb1
      have HB1 := hid (hb1.chg hc id)
      have HG1 := hid ((HG0.out.alloc _).chg hc id)
      have hC1 := hid ((hC0.out.alloc _).trans hc)
      clear hc HG0 hC0 hb1
      go_wp2_with (with_reducible refine halt_op (.store 80 (.tmp 5) (.tmp 33)) ?_)
      unfold Halted
      refine store_blk rfl 80 (.tmp 5) (.tmp 33) (by rfl) _ (by rfl) _ (by rfl) HB1.out (by rfl) (by exact infoG) (by rfl) ?_
      intro w3 HB3 hc
      have HG3 := hid (HG1.out.chg hc (by unfold One; omega))
      have hC3 := hid (hC1.out.then hc (fun i hi hk => absurd hk (by unfold One; omega)))
      have b0 := HB3.cell 0 rfl
      have hval := hid (show ∀ y nx, (escS s a).map (fun v => BitVec.twoPow 256 v) = .ok y nx → rangeC ((escS s a).val 0) ((escS s a).val 0) = y from by
        cases hR : escS s a with
        | ok v n => intro y nx h; injection h with h1 h2; rw [← h1]; exact ofC_one v (escS_ok hR).2.2
        | bad p e => intro y nx h; cases h)
      have hlv : Hid ((escS s a).val 0 < 256) := hid (by
        cases hR : escS s a with
        | ok v n => exact (escS_ok hR).2.2
        | bad p e => exact (by decide : (0 : Nat) < 256))
      replace HB3 := hid HB3
      clear hc HG1 HB1 hC1
      obtain ⟨V, hV⟩ : ∃ V, V = (escS s a).val 0 := ⟨_, rfl⟩
      rw [← hV] at hval hlv HB3 b0
      have hlv' := hlv.out
      replace hV := hid hV
      go_wp2_with fail
      refine (refRangeL V V _ (by omega) (by omega)).mono ?_
      rintro e w4 ⟨rfl, hc⟩
      have HG4 := hid (HG3.out.chg hc id)
      have HB4 := hid (HB3.out.chg hc id)
      have hC4 := hid (hC3.out.trans hc)
      have hs4 := hc.size
      clear hc HG3 HB3 hC3 b0
      go_wp2_with (with_reducible refine halt_op (.store 70 (.tmp 46) (.tmp 45)) ?_)
      unfold Halted
      refine store_in rfl 70 (.tmp 46) (.tmp 45) (by rfl) _ 1 (by rfl) _ (by rfl) HB4.out (by exact Nat.le_of_ble_eq_true rfl) (by exact infoC4) (by rfl) ?_
      intro w5 HB5 hc
      rw [splice9] at HB5
      replace HB5 := hid HB5
      have HG5 := hid (HG4.out.chg hc (by unfold One; omega))
      have hC5 := hid (hC4.out.then hc (fun i hi hk => absurd hk (by unfold One; omega)))
      clear hc HG4 HB4 hC4
      go_wp2_with (with_reducible refine halt_op (.load 80 (.tmp 5)) ?_)
      unfold Halted
      refine wpList_load_row rfl 80 (.tmp 5) (by rfl) _ (by rfl) _ _ _ _ HB5.out Try.underlying80 (by rfl) (by exact infoG) ?_
      go_wp2_with (with_reducible refine halt_op (.store 80 (.tmp 4) (.tmp 47)) ?_)
      unfold Halted
      refine store_blk rfl 80 (.tmp 4) (.tmp 47) (by rfl) _ (by rfl) _ (by rfl) HG5.out (by rfl) (by exact infoG) (by rfl) ?_
      intro wz HR hr
      go_wp2
      exact bodyPost_ret (results_cell_row Try.results91 _ _ _ _ _ _ _ (by rfl) HR Try.underlying80 rfl (by exact infoG)) rfl ⟨V, rangeC V V, by rw [Rd.map_at, Rd.map_no] <;> rfl, hval.out, hC5.out.then hr (fun i hi hk => absurd hk (by unfold One; omega))⟩
    · have hd3 : (((byteAt s a : Nat) : Int) == 92) = false := by rw [beq_eq_false_iff_ne]; omega
      have hb1 := Blk.new (w.alloc (.cells #[.int .u8 0, .int .u64 0, .int .u64 0, .int .u64 0, .int .u64 0, .slice none 0 0, .int .i64 0, .int .i64 0, .int .i64 0] 80)) #[.int .u8 (byteAt s a), .int .u64 0, .int .u64 0, .int .u64 0, .int .u64 0, .slice none 0 0, .int .i64 0, .int .i64 ((a : Int) + 1), .int .i64 0] 80
      rw [World.size_alloc] at hb1
      have HB1 := hid hb1
      have HG1 := hid (HG0.out.alloc (.cells #[.int .u8 (byteAt s a), .int .u64 0, .int .u64 0, .int .u64 0, .int .u64 0, .slice none 0 0, .int .i64 0, .int .i64 ((a : Int) + 1), .int .i64 0] 80))
      have hC1 := hid (hC0.out.alloc (.cells #[.int .u8 (byteAt s a), .int .u64 0, .int .u64 0, .int .u64 0, .int .u64 0, .slice none 0 0, .int .i64 0, .int .i64 ((a : Int) + 1), .int .i64 0] 80))
      clear HG0 hC0 hb1
      cases hsg : signB (byteAt s a) with
      | true =>
        have hE := hid (show oneS ByteArray.empty 130 s a = .ok (byteAt s a) (a + 1) from by rw [hone.out, if_neg h92, if_pos ⟨hsg, inS_empty _⟩])
        have hsg' := hid (show ∀ w, Calls Try.prog 111 #[.int .u8 (byteAt s a)] w fun e w' => e = .returned (.bool true) ∧ w' = w from fun w => by have := refSign_any (byteAt s a) w (by omega); rw [hsg] at this; exact this)
        clear hsg
        replace h92 := hid h92
        rw [hE.out]
        go_enter Try.func91, Try.ntmps91
        go_wp2_with fail
        refine (hsg'.out _).mono ?_
        rintro e w' ⟨rfl, rfl⟩
        have b0 := HB1.out.cell 0 rfl
        have hval := hid (show ∀ y nx, (Rd.ok (byteAt s a) (a + 1)).map (fun v => BitVec.twoPow 256 v) = .ok y nx → rangeC (byteAt s a) (byteAt s a) = y from by
          intro y nx h; injection h with h1 h2; rw [← h1]; exact ofC_one _ (byteAt_lt s a))
        have HB3 := HB1
        have HG3 := HG1
        have hC3 := hC1
        clear HB1 HG1 hC1
        go_wp2_with fail
        refine (refRangeL (byteAt s a) (byteAt s a) _ (by omega) (by omega)).mono ?_
        rintro e w4 ⟨rfl, hc⟩
        have HG4 := hid (HG3.out.chg hc id)
        have HB4 := hid (HB3.out.chg hc id)
        have hC4 := hid (hC3.out.trans hc)
        have hs4 := hc.size
        clear hc HG3 HB3 hC3 b0
        go_wp2_with (with_reducible refine halt_op (.store 70 (.tmp 46) (.tmp 45)) ?_)
        unfold Halted
        refine store_in rfl 70 (.tmp 46) (.tmp 45) (by rfl) _ 1 (by rfl) _ (by rfl) HB4.out (by exact Nat.le_of_ble_eq_true rfl) (by exact infoC4) (by rfl) ?_
        intro w5 HB5 hc
        rw [splice9] at HB5
        replace HB5 := hid HB5
        have HG5 := hid (HG4.out.chg hc (by unfold One; omega))
        have hC5 := hid (hC4.out.then hc (fun i hi hk => absurd hk (by unfold One; omega)))
        clear hc HG4 HB4 hC4
        go_wp2_with (with_reducible refine halt_op (.load 80 (.tmp 5)) ?_)
        unfold Halted
        refine wpList_load_row rfl 80 (.tmp 5) (by rfl) _ (by rfl) _ _ _ _ HB5.out Try.underlying80 (by rfl) (by exact infoG) ?_
        go_wp2_with (with_reducible refine halt_op (.store 80 (.tmp 4) (.tmp 47)) ?_)
        unfold Halted
        refine store_blk rfl 80 (.tmp 4) (.tmp 47) (by rfl) _ (by rfl) _ (by rfl) HG5.out (by rfl) (by exact infoG) (by rfl) ?_
        intro wz HR hr
        go_wp2
        exact bodyPost_ret (results_cell_row Try.results91 _ _ _ _ _ _ _ (by rfl) HR Try.underlying80 rfl (by exact infoG)) rfl ⟨(byteAt s a), rangeC (byteAt s a) (byteAt s a), by rw [Rd.map_at, Rd.map_no] <;> rfl, hval.out, hC5.out.then hr (fun i hi hk => absurd hk (by unfold One; omega))⟩
      | false =>
        have hE := hid (show oneS ByteArray.empty 130 s a = .bad a 130 from by rw [hone.out, if_neg h92, if_neg (by rw [hsg]; simp)])
        have hsg' := hid (show ∀ w, Calls Try.prog 111 #[.int .u8 (byteAt s a)] w fun e w' => e = .returned (.bool false) ∧ w' = w from fun w => by have := refSign_any (byteAt s a) w (by omega); rw [hsg] at this; exact this)
        clear hsg
        replace h92 := hid h92
        rw [hE.out]
        go_enter Try.func91, Try.ntmps91
        go_wp2_with fail
        refine (hsg'.out _).mono ?_
        rintro e w' ⟨rfl, rfl⟩
        go_wp2_with (with_reducible refine halt_op (.store 80 (.tmp 5) (.tmp 40)) ?_)
        unfold Halted
        refine store_blk rfl 80 (.tmp 5) (.tmp 40) (by rfl) _ (by rfl) _ (by rfl) HB1.out (by rfl) (by exact infoG) (by rfl) ?_
        intro w3 HB3 hc
        have HG3 := hid (HG1.out.chg hc (by unfold One; omega))
        have hC3 := hid (hC1.out.then hc (fun i hi hk => absurd hk (by unfold One; omega)))
        have b0 := HB3.cell 0 rfl
        have hval := hid (show ∀ y nx, (Rd.bad a 130 : Rd Nat).map (fun v => BitVec.twoPow 256 v) = .ok y nx → rangeC 0 0 = y from by intro y nx h; cases h)
        replace HB3 := hid HB3
        clear hc HG1 HB1 hC1
        go_wp2_with fail
        refine (refRangeL 0 0 _ (by decide) (by decide)).mono ?_
        rintro e w4 ⟨rfl, hc⟩
        have HG4 := hid (HG3.out.chg hc id)
        have HB4 := hid (HB3.out.chg hc id)
        have hC4 := hid (hC3.out.trans hc)
        have hs4 := hc.size
        clear hc HG3 HB3 hC3 b0
        go_wp2_with (with_reducible refine halt_op (.store 70 (.tmp 46) (.tmp 45)) ?_)
        unfold Halted
        refine store_in rfl 70 (.tmp 46) (.tmp 45) (by rfl) _ 1 (by rfl) _ (by rfl) HB4.out (by exact Nat.le_of_ble_eq_true rfl) (by exact infoC4) (by rfl) ?_
        intro w5 HB5 hc
        rw [splice9] at HB5
        replace HB5 := hid HB5
        have HG5 := hid (HG4.out.chg hc (by unfold One; omega))
        have hC5 := hid (hC4.out.then hc (fun i hi hk => absurd hk (by unfold One; omega)))
        clear hc HG4 HB4 hC4
        go_wp2_with (with_reducible refine halt_op (.load 80 (.tmp 5)) ?_)
        unfold Halted
        refine wpList_load_row rfl 80 (.tmp 5) (by rfl) _ (by rfl) _ _ _ _ HB5.out Try.underlying80 (by rfl) (by exact infoG) ?_
        go_wp2_with (with_reducible refine halt_op (.store 80 (.tmp 4) (.tmp 47)) ?_)
        unfold Halted
        refine store_blk rfl 80 (.tmp 4) (.tmp 47) (by rfl) _ (by rfl) _ (by rfl) HG5.out (by rfl) (by exact infoG) (by rfl) ?_
        intro wz HR hr
        go_wp2
        exact bodyPost_ret (results_cell_row Try.results91 _ _ _ _ _ _ _ (by rfl) HR Try.underlying80 rfl (by exact infoG)) rfl ⟨0, rangeC 0 0, by rw [Rd.map_at, Rd.map_no] <;> rfl, hval.out, hC5.out.then hr (fun i hi hk => absurd hk (by unfold One; omega))⟩
end Go.Proofs.Ytllblpiakijpaaa

/- Layer 13: places of what is read; the document's pattern. -/
namespace Go.Proofs.Ytllblpiakijpaaa
open Go.RowKit
set_option linter.unusedVariables false
attribute [local go_sem ↓] Go.wp_at_zero Go.wp_at_succ
/-- What is read begins behind a; it ends in the text. -/
structure Placed {α : Type} (s : ByteArray) (a : Nat) (R : Rd α) : Prop where
  le : R.at_ ≤ s.size
  lt : R.no = 0 → a < R.at_
  ok : (∀ v nx, R ≠ .ok v nx) → R.no ≠ 0
theorem escS_placed (s : ByteArray) (a : Nat) (ha : a < s.size) : Placed s a (escS s a) := by
  cases h : escS s a with
  | ok v b => have := escS_ok h; exact ⟨this.2.1, fun _ => this.1, fun h => absurd rfl (h _ _)⟩
  | bad p e => have := escS_bad h; exact ⟨by simp only [Rd.at_]; omega, fun h => by simp only [Rd.no] at h; omega, fun _ => by simp only [Rd.no]; omega⟩
theorem oneS_placed (ap : ByteArray) (no : Int) (s : ByteArray) (a : Nat) (ha : a < s.size) (hn : no ≠ 0) : Placed s a (oneS ap no s a) := by
  cases h : oneS ap no s a with
  | ok v b => have := oneS_ok h ha; exact ⟨this.2.1, fun _ => this.1, fun h => absurd rfl (h _ _)⟩
  | bad p e => have := oneS_bad h hn; exact ⟨by simp only [Rd.at_]; omega, fun h => by simp only [Rd.no] at h; omega, fun _ => by simp only [Rd.no]; omega⟩
theorem ClassRun.placed {s : ByteArray} {a : Nat} {x : Cls} {n : Nat} {R : Rd (Cls × Nat)} (h : ClassRun s a x n R) : a ≤ s.size → Placed s a R := by
  induction h with
  | stop h hb => intro _; exact ⟨by simp only [Rd.at_]; omega, fun _ => by simp only [Rd.at_]; omega, fun h => absurd rfl (h _ _)⟩
  | bad1 h h1 => intro ha; have := itemS_bad h1 ha; exact ⟨by simp only [Rd.at_]; omega, fun h => by simp only [Rd.no] at h; omega, fun _ => by simp only [Rd.no]; omega⟩
  | one h h1 h2 k ih => intro ha; have h3 := itemS_ok h1; have := ih h3.2.1; exact ⟨this.le, fun h => by have := this.lt h; omega, this.ok⟩
  | bad2 h h1 h2 h3 => intro ha; have := itemS_bad h3 (by omega); exact ⟨by simp only [Rd.at_]; omega, fun h => by simp only [Rd.no] at h; omega, fun _ => by simp only [Rd.no]; omega⟩
  | less h h1 h2 h3 h4 => intro ha; exact ⟨by simp only [Rd.at_]; omega, fun h => by simp only [Rd.no] at h; omega, fun _ => by simp only [Rd.no]; omega⟩
  | two h h1 h2 h3 h4 k ih => intro ha; have h5 := itemS_ok h1; have h6 := itemS_ok h3; have := ih h6.2.1; exact ⟨this.le, fun h => by have := this.lt h; omega, this.ok⟩
theorem beginS_le (s : ByteArray) (op : Nat) (h : op < s.size) : op < beginS s op ∧ beginS s op ≤ s.size := by
  unfold beginS negS
  by_cases h1 : op + 1 < s.size ∧ byteAt s (op + 1) = 94
  · rw [if_pos (by simpa using h1)]; omega
  · rw [if_neg (by simpa using h1)]; omega
theorem finC_placed {s : ByteArray} {a op : Nat} {ng : Bool} {R : Rd (Cls × Nat)} (h : Placed s a R) (ha : op ≤ a) (hs : op ≤ s.size) : Placed s op (finC ng op R) := by
  cases R with
  | ok v b =>
    obtain ⟨x, n⟩ := v
    have h1 := h.le; have h2 := h.lt rfl
    simp only [Rd.at_] at h1 h2
    have e : finC ng op (.ok (x, n) b) = if n = 0 ∨ (if ng then ~~~ x else x) = 0 then .bad op 132 else .ok (if ng then ~~~ x else x) b := rfl
    rw [e]
    by_cases hc : n = 0 ∨ (if ng then ~~~ x else x) = 0
    · rw [if_pos hc]; exact ⟨by simp only [Rd.at_]; omega, fun h => by simp only [Rd.no] at h; omega, fun _ => by simp only [Rd.no]; omega⟩
    · rw [if_neg hc]; exact ⟨by simp only [Rd.at_]; omega, fun _ => by simp only [Rd.at_]; omega, fun h => absurd rfl (h _ _)⟩
  | bad p e => exact ⟨h.le, fun h2 => by have := h.lt h2; simp only [Rd.at_, finC] at this ⊢; omega, h.ok ∘ fun _ v nx h => by cases h⟩
theorem Rd.map_placed {α β : Type} {f : α → β} {s : ByteArray} {a : Nat} {R : Rd α} (h : Placed s a R) : Placed s a (R.map f) := by
  cases R with
  | ok v b => exact ⟨h.le, h.lt, fun h => absurd rfl (h _ _)⟩
  | bad p e => exact ⟨h.le, h.lt, fun _ => h.ok (fun v nx h => by cases h)⟩
theorem ElemRd.placed {s : ByteArray} {a : Nat} {R : Rd Cls} (h : ElemRd s a R) (ha : a < s.size) : Placed s a R := by
  cases h with
  | full h => exact ⟨by simp only [Rd.at_]; omega, fun _ => by simp only [Rd.at_]; omega, fun h => absurd rfl (h _ _)⟩
  | cls h k => have hb := beginS_le s a ha; exact finC_placed (k.placed hb.2) (by omega) (by omega)
  | byte h h' => exact Rd.map_placed (oneS_placed _ _ s a ha (by decide))
theorem PatRun.placed {s : ByteArray} {a : Nat} {xs : List Cls} {R : Rd (List Cls)} (h : PatRun s a xs R) : a ≤ s.size → Placed s a R := by
  induction h with
  | stop h => intro _; exact ⟨by simp only [Rd.at_]; omega, fun h => by simp only [Rd.no] at h; omega, fun _ => by simp only [Rd.no]; omega⟩
  | close h hb h1 => intro _; exact ⟨by simp only [Rd.at_]; omega, fun _ => by simp only [Rd.at_]; omega, fun h => absurd rfl (h _ _)⟩
  | empty h hb h1 => intro _; exact ⟨by simp only [Rd.at_]; omega, fun h => by simp only [Rd.no] at h; omega, fun _ => by simp only [Rd.no]; omega⟩
  | long h hb h1 => intro _; exact ⟨by simp only [Rd.at_]; omega, fun h => by simp only [Rd.no] at h; omega, fun _ => by simp only [Rd.no]; omega⟩
  | bad h hb h1 k => intro _; have := k.placed h; exact ⟨this.le, this.lt, fun _ => this.ok (fun v nx h => by cases h)⟩
  | step h hb h1 k r ih => intro _; have h2 := k.placed h; have h3 := h2.lt rfl; simp only [Rd.at_] at h3; have h4 := h2.le; simp only [Rd.at_] at h4; have := ih h4; exact ⟨this.le, fun h => by have := this.lt h; omega, this.ok⟩
theorem PatRun.len {s : ByteArray} {a : Nat} {xs : List Cls} {R : Rd (List Cls)} (h : PatRun s a xs R) : xs.length ≤ 64 → ∀ ys b, R = .ok ys b → ys.length ≤ 64 ∧ 0 < ys.length := by
  induction h with
  | stop h => intro _ ys b e; cases e
  | close h hb h1 => intro hl ys b e; injection e with e1 e2; subst e1; exact ⟨hl, h1⟩
  | empty h hb h1 => intro _ ys b e; cases e
  | long h hb h1 => intro _ ys b e; cases e
  | bad h hb h1 k => intro _ ys b e; cases e
  | step h hb h1 k r ih => intro hl; exact ih (by rw [List.length_append]; simp; omega)
def clsL (x : Cls) : List Value := [.int .u64 (wd x 0), .int .u64 (wd x 1), .int .u64 (wd x 2), .int .u64 (wd x 3)]
theorem infoCl : (Try.prog.info? 70).map (fun i => (i.zero, i.size, i.bytes)) = some (some (.agg #[.int .u64 0, .int .u64 0, .int .u64 0, .int .u64 0]), 4, 32) := by kernel_rfl
theorem clsL_one (x : Cls) : ∀ u ∈ clsL x, u.oneCell' = true := by intro u hu; unfold clsL at hu; simp at hu; rcases hu with rfl | rfl | rfl | rfl <;> rfl
def POwn (w : World) (base : Nat) (A : Option Addr) (n c : Nat) (xs : List Cls) : Prop := xs.length = n ∧ w.ownsRow base 70 4 (.slice A n c) n (xs.flatMap clsL)
/-- What the loop of the document's pattern keeps. -/
def RpInv (s : ByteArray) (w : World) (R : Rd (List Cls)) (pt ov : Value) (wr : World) : Prop :=
  ∃ (k : Nat) (xs : List Cls) (A : Option Addr) (n c : Nat), k ≤ s.size ∧ n ≤ 64 ∧ pt = .int .i64 k ∧ ov = .slice A n c ∧ PatRun s k xs R ∧ Hid (POwn wr (w.heap.size + 1) A n c xs) ∧ Blk wr w.heap.size #[.int .u8 0, .int .u64 0, .int .u64 0, .int .u64 0, .int .u64 0, .slice none 0 0, .int .i64 0, .int .i64 0, .int .i64 0] 80 ∧ Chg Nothing w wr ∧ w.heap.size + 1 ≤ wr.heap.size
def PatAns (R : Rd (List Cls)) (w : World) (e : Ending) (w' : World) : Prop :=
  ∃ (B : Nat) (x : Cls) (A : Option Addr) (n c : Nat), e = .returned (.agg #[.int .u8 B, .int .u64 (wd x 0), .int .u64 (wd x 1), .int .u64 (wd x 2), .int .u64 (wd x 3), .slice A n c, .int .i64 0, .int .i64 (R.at_ : Nat), .int .i64 R.no]) ∧ (∀ ys nx, R = .ok ys nx → POwn w' (w.heap.size + 1) A n c ys) ∧ Chg Nothing w w'
set_option maxHeartbeats 8000000 in
set_option maxRecDepth 100000 in
theorem refPattern_any (s : ByteArray) (a : Nat) (R : Rd (List Cls)) (hR : PatRun s a [] R) (w : World) (hs : s.size ≤ 9223372036854775000) (ha : a ≤ s.size) :
    Calls Try.prog 75 #[.string s, .int .i64 a] w (PatAns R w) := by
  have hR := hid hR
  go_enter Try.func75, Try.ntmps75
  go_wp2_with fail
  go_loopw [1, 5] (fun pt ov wr => RpInv s w R pt ov wr) (fun pt _ _ => s.size + 1 - (intOf pt).toNat)
  case atStart => exact ⟨a, [], none, 0, 0, ha, by omega, rfl, rfl, hR.out, hid ⟨rfl, World.ownsRow_nil _ _ _ _⟩, Blk.new w _ _, (Chg.refl _ _).alloc _, by rw [World.size_alloc]; omega⟩
  case round =>
    clear hR
    obtain ⟨k, xs, A, n, c, hk, hn, rfl, rfl, hrun, HO, hG, hchg, hwr⟩ := hrel
    have HG := hid hG
    have hgl := hG.lt
    clear hG
    cases hrun with
    | stop h =>
      have hd : decide ((k : Int) < (s.size : Int)) = false := decide_eq_false (by omega)
      go_wp2_with (with_reducible refine halt_op (.store 80 (.tmp 4) (.tmp 45)) ?_)
      unfold Halted
      refine store_blk rfl 80 (.tmp 4) (.tmp 45) (by rfl) _ (by rfl) _ (by rfl) HG.out (by rfl) (by exact infoG) (by rfl) ?_
      intro wz HR hr
      go_wp2
      exact bodyPost_ret (results_cell_row Try.results75 _ _ _ _ _ _ _ (by rfl) HR Try.underlying80 rfl (by exact infoG)) rfl ⟨0, 0, none, 0, 0, by simp only [wd_zero]; rfl, (fun ys nx h => by cases h), hchg.then hr (fun i hi hk => absurd hk (by unfold One; omega))⟩
    | close h hb h1 =>
      have hd : decide ((k : Int) < (s.size : Int)) = true := decide_eq_true (by omega)
      have hg := byteAt_eq h
      have hd2 : (((byteAt s k : Nat) : Int) == 34) = true := beq_iff_eq.2 (by omega)
      have hn0 : ((n : Int) == 0) = false := by rw [beq_eq_false_iff_ne]; have := HO.out.1; omega
      replace hb := hid hb
      go_wp2_with (with_reducible refine halt_op (.store 80 (.tmp 4) (.tmp 23)) ?_)
      unfold Halted
      refine store_blk rfl 80 (.tmp 4) (.tmp 23) (by rfl) _ (by rfl) _ (by rfl) HG.out (by rfl) (by exact infoG) (by rfl) ?_
      intro wz HR hr
      go_wp2
      exact bodyPost_ret (results_cell_row Try.results75 _ _ _ _ _ _ _ (by rfl) HR Try.underlying80 rfl (by exact infoG)) rfl ⟨0, 0, A, n, c, by simp only [wd_zero]; rfl, (fun ys nx h => by injection h with e1 e2; subst e1; exact ⟨HO.out.1, own_chg HO.out.2 hr (fun k hk => by have := own_of HO.out.2 k hk; unfold One; omega)⟩), hchg.then hr (fun i hi hk => absurd hk (by unfold One; omega))⟩
    | empty h hb h1 =>
      have hd : decide ((k : Int) < (s.size : Int)) = true := decide_eq_true (by omega)
      have hg := byteAt_eq h
      have hd2 : (((byteAt s k : Nat) : Int) == 34) = true := beq_iff_eq.2 (by omega)
      have hn0 : ((n : Int) == 0) = true := beq_iff_eq.2 (by have := HO.out.1; omega)
      replace hb := hid hb
      go_wp2_with (with_reducible refine halt_op (.store 80 (.tmp 4) (.tmp 19)) ?_)
      unfold Halted
      refine store_blk rfl 80 (.tmp 4) (.tmp 19) (by rfl) _ (by rfl) _ (by rfl) HG.out (by rfl) (by exact infoG) (by rfl) ?_
      intro wz HR hr
      go_wp2
      exact bodyPost_ret (results_cell_row Try.results75 _ _ _ _ _ _ _ (by rfl) HR Try.underlying80 rfl (by exact infoG)) rfl ⟨0, 0, none, 0, 0, by simp only [wd_zero]; rfl, (fun ys nx h => by cases h), hchg.then hr (fun i hi hk => absurd hk (by unfold One; omega))⟩
    | long h hb h1 =>
      have hd : decide ((k : Int) < (s.size : Int)) = true := decide_eq_true (by omega)
      have hg := byteAt_eq h
      have hd2 : (((byteAt s k : Nat) : Int) == 34) = false := by rw [beq_eq_false_iff_ne]; omega
      have hn0 : ((n : Int) == 64) = true := beq_iff_eq.2 (by have := HO.out.1; omega)
      replace hb := hid hb
      go_wp2_with (with_reducible refine halt_op (.store 80 (.tmp 4) (.tmp 28)) ?_)
      unfold Halted
      refine store_blk rfl 80 (.tmp 4) (.tmp 28) (by rfl) _ (by rfl) _ (by rfl) HG.out (by rfl) (by exact infoG) (by rfl) ?_
      intro wz HR hr
      go_wp2
      exact bodyPost_ret (results_cell_row Try.results75 _ _ _ _ _ _ _ (by rfl) HR Try.underlying80 rfl (by exact infoG)) rfl ⟨0, 0, none, 0, 0, by simp only [wd_zero]; rfl, (fun ys nx h => by cases h), hchg.then hr (fun i hi hk => absurd hk (by unfold One; omega))⟩
    | @bad _ _ p e0 h hb h1 r =>
      have hd : decide ((k : Int) < (s.size : Int)) = true := decide_eq_true (by omega)
      have hg := byteAt_eq h
      have hd2 : (((byteAt s k : Nat) : Int) == 34) = false := by rw [beq_eq_false_iff_ne]; omega
      have hn0 : ((n : Int) == 64) = false := by rw [beq_eq_false_iff_ne]; have := HO.out.1; omega
      have hne := (r.placed h).ok (fun v nx h => by cases h)
      simp only [Rd.no] at hne
      have hne1 : (e0 == 0) = false := beq_eq_false_iff_ne.2 hne
      have hne2 : (e0 != 0) = true := by rw [bne_iff_ne]; exact hne
      replace hb := hid hb
      go_wp2_with fail
      refine (refElement_any s k _ r _ hs h).mono ?_
      rintro e w1 ⟨B, x, rfl, hx, hc⟩
      have HG1 := hid (HG.out.chg hc id)
      have hC1 := hid (hchg.trans hc)
      have hs1 := hc.size
      clear hc hchg HG hx
      simp only [Rd.at_, Rd.no]
      go_wp2_with (with_reducible refine halt_op (.store 80 (.tmp 4) (.tmp 35)) ?_)
      unfold Halted
      refine store_blk rfl 80 (.tmp 4) (.tmp 35) (by rfl) _ (by rfl) _ (by rfl) (Blk.alloc HG1.out _) (by rfl) (by exact infoG) (by rfl) ?_
      intro wz HR hr
      go_wp2
      exact bodyPost_ret (results_cell_row Try.results75 _ _ _ _ _ _ _ (by rfl) HR Try.underlying80 rfl (by exact infoG)) rfl ⟨B, x, none, 0, 0, rfl, (fun ys nx h => by cases h), (hC1.out.alloc _).then hr (fun i hi hk => absurd hk (by unfold One; omega))⟩
    | @step _ _ x b _ h hb h1 r rr =>
      have hd : decide ((k : Int) < (s.size : Int)) = true := decide_eq_true (by omega)
      have hg := byteAt_eq h
      have hd2 : (((byteAt s k : Nat) : Int) == 34) = false := by rw [beq_eq_false_iff_ne]; omega
      have hn0 : ((n : Int) == 64) = false := by rw [beq_eq_false_iff_ne]; have := HO.out.1; omega
      have hn64 : n ≠ 64 := by have := HO.out.1; omega
      have hpl := r.placed h
      have hb2 := hpl.lt rfl
      have hb3 := hpl.le
      simp only [Rd.at_] at hb2 hb3
      clear hpl
      replace hb := hid hb
      go_wp2_with fail
      refine (refElement_any s k _ r _ hs h).mono ?_
      rintro e w1 ⟨B, y, rfl, hx, hc⟩
      obtain rfl : y = x := hx x b rfl
      have HG1 := hid (HG.out.chg hc id)
      have HO1 := hid (own_chg HO.out.2 hc (fun _ _ h => h))
      have hC1 := hid (hchg.trans hc)
      have hs1 := hc.size
      have hl1 := hid HO.out.1
      clear hc hchg HG hx HO
      simp only [Rd.at_, Rd.no]
      go_wp2_with (at_builtin; (refine append_cells (w := w1.alloc _) rfl _ _ 34 rfl (w.heap.size + 1) 70 (.agg #[.int .u64 0, .int .u64 0, .int .u64 0, .int .u64 0]) 4 32 Try.underlying34 infoCl rfl (by decide) A c n _ rfl (own_chg HO1.out ((Chg.refl Nothing w1).alloc _) (fun _ _ h => h)) (clsL y) (by rw [World.size_alloc]; rfl) rfl (clsL_one y) ?_ ?_ ?_ ?_))
      · omega
      · omega
      · rw [World.size_alloc]; omega
      intro A' c' w6 hown6 hc6 hA
      have oa := own_of HO1.out
      have HX := (Blk.new w1 #[.int .u8 B, .int .u64 (wd y 0), .int .u64 (wd y 1), .int .u64 (wd y 2), .int .u64 (wd y 3), .slice none 0 0, .int .i64 0, .int .i64 b, .int .i64 0] 80).chg hc6 (fun h => by have := oa _ h; omega)
      have x7 := HX.cell 7 rfl
      have hown7 := hid hown6
      have hc7 := hid hc6
      have oa' := hid oa
      clear HX hown6 hc6 hA oa
      go_wp2
      go_roundw
      case rel =>
        refine ⟨b, xs ++ [y], A', n + 1, c', hb3, by omega, rfl, rfl, rr, hid ⟨by rw [List.length_append, hl1.out]; rfl, by rw [List.flatMap_append]; simpa [clsL] using hown7.out⟩, (Blk.alloc HG1.out _).chg hc7.out (fun h => by have := oa'.out _ h; omega), (hC1.out.alloc _).then hc7.out (fun i hi h => by have := oa'.out _ h; omega), by have := hc7.out.size; rw [World.size_alloc] at this; omega⟩
      case measure => simp [intOf]; omega
end Go.Proofs.Ytllblpiakijpaaa

/- Layer 13: the document's one token. -/
namespace Go.Proofs.Ytllblpiakijpaaa
open Go.RowKit
set_option linter.unusedVariables false
attribute [local go_sem ↓] Go.wp_at_zero Go.wp_at_succ
theorem infoT : (Try.prog.info? 57).map (·.size) = some 4 := by kernel_rfl
def OneAns (R : Rd Tok) (w : World) (e : Ending) (w' : World) : Prop :=
  ∃ (kd at_ n : Int) (A : Option Addr) (l c : Nat) (B : Nat) (x : Cls) (A2 : Option Addr) (l2 c2 : Nat) (N : Int), e = .returned (.tuple #[.agg #[.int .i64 kd, .int .i64 at_, .int .i64 n, .slice A l c], .agg #[.int .u8 B, .int .u64 (wd x 0), .int .u64 (wd x 1), .int .u64 (wd x 2), .int .u64 (wd x 3), .slice A2 l2 c2, .int .i64 N, .int .i64 (R.at_ : Nat), .int .i64 R.no]]) ∧ (∀ t nx, R = .ok t nx → kd = t.kind ∧ at_ = t.at_ ∧ n = t.n ∧ POwn w' (w.heap.size + 2) A l c t.p) ∧ Chg Nothing w w'
theorem Blk.new2 (w : World) (o : Obj) (cs : Array Value) (T : TypeId) : Blk ((w.alloc o).alloc (.cells cs T)) (w.heap.size + 1) cs T := by
  have := Blk.new (w.alloc o) cs T
  rwa [World.size_alloc] at this
structure FourAt (w : World) (b : Nat) (v0 v1 v2 v3 : Value) : Prop where
  r0 : w.cell? ⟨b, 0, none⟩ = some v0
  r1 : w.cell? ⟨b, 1, none⟩ = some v1
  r2 : w.cell? ⟨b, 2, none⟩ = some v2
  r3 : w.cell? ⟨b, 3, none⟩ = some v3
  f0 : w.frozen? ⟨b, 0, none⟩ = false
  f1 : w.frozen? ⟨b, 1, none⟩ = false
  f2 : w.frozen? ⟨b, 2, none⟩ = false
  f3 : w.frozen? ⟨b, 3, none⟩ = false
  lt : b < w.heap.size
theorem Blk.four {w : World} {b : Nat} {v0 v1 v2 v3 : Value} {T : TypeId} (h : Blk w b #[v0, v1, v2, v3] T) : FourAt w b v0 v1 v2 v3 :=
  ⟨h.cell 0 rfl, h.cell 1 rfl, h.cell 2 rfl, h.cell 3 rfl, h.free 0, h.free 1, h.free 2, h.free 3, h.lt⟩
set_option maxHeartbeats 8000000 in
set_option maxRecDepth 100000 in
theorem refOne_any (s : ByteArray) (a : Nat) (R : Rd Tok) (hR : TokRd s a R) (w : World) (hs : s.size ≤ 9223372036854775000) (ha : a < s.size) :
    Calls Try.prog 52 #[.string s, .int .i64 a] w (OneAns R w) := by
  have hlt1 := byteAt_lt s a
  have hg := byteAt_eq ha
  have hT := Blk.new w #[.int .i64 0, .int .i64 0, .int .i64 0, .slice none 0 0] 57
  have hG := Blk.new (w.alloc (.cells #[.int .i64 0, .int .i64 0, .int .i64 0, .slice none 0 0] 57)) #[.int .u8 0, .int .u64 0, .int .u64 0, .int .u64 0, .int .u64 0, .slice none 0 0, .int .i64 0, .int .i64 0, .int .i64 0] 80
  rw [World.size_alloc] at hG
  have HT0 := hid (hT.alloc (.cells #[.int .u8 0, .int .u64 0, .int .u64 0, .int .u64 0, .int .u64 0, .slice none 0 0, .int .i64 0, .int .i64 0, .int .i64 0] 80))
  have HG0 := hid hG
  have hC0 := hid (((Chg.refl Nothing w).alloc (.cells #[.int .i64 0, .int .i64 0, .int .i64 0, .slice none 0 0] 57)).alloc (.cells #[.int .u8 0, .int .u64 0, .int .u64 0, .int .u64 0, .int .u64 0, .slice none 0 0, .int .i64 0, .int .i64 0, .int .i64 0] 80))
  clear hT hG
  cases hR with
  | @pat R0 h k =>
    have hd : (((byteAt s a : Nat) : Int) == 34) = true := beq_iff_eq.2 (by omega)
    replace h := hid h
    go_enter Try.func52, Try.ntmps52
    go_wp2_with fail
    refine (refPattern_any s (a + 1) R0 k _ hs (by omega)).mono ?_
    rintro e w1 ⟨B, x, A, l, c, rfl, hx, hc⟩
    have HT1 := hid (HT0.out.chg hc id)
    have HG1 := hid (HG0.out.chg hc id)
    have hC1 := hid (hC0.out.trans hc)
    have hs1 := hc.size
    simp only [World.size_alloc] at hs1
    replace hx := hid hx
    clear hc HT0 HG0 hC0
    obtain ⟨t0, t1, t2, t3, u0, u1, u2, u3, hlt⟩ := HT1.out.four
    obtain ⟨g0, g1, g2, g3, g4, g5, g6, g7, g8, e0, e1, e2, e3, e4, e5, e6, e7, e8, hlg⟩ := HG1.out.nine
    go_wp2_with fail
    go_region_with (fail)
    all_goals
      go_wp2
      --Z
      exact bodyPost_ret (v := .tuple #[.agg #[.int .i64 8, .int .i64 a, .int .i64 0, .slice A l c], .agg #[.int .u8 B, .int .u64 (wd x 0), .int .u64 (wd x 1), .int .u64 (wd x 2), .int .u64 (wd x 3), .slice A l c, .int .i64 0, .int .i64 (R0.at_ : Nat), .int .i64 R0.no]]) (results_cells2 Try.results52 _ _ _ _ _ _ 57 80 _ _ (by rfl) (by rfl) (by repeat (first | with_reducible exact HT1.out | with_reducible exact HG1.out | with_reducible exact Blk.new2 _ _ _ _ | with_reducible exact Blk.new _ _ _ | with_reducible refine Blk.drewN ?_ _ | with_reducible refine Blk.drew ?_ | with_reducible refine Blk.alloc ?_ _ | with_reducible refine Blk.other ?_ (by dsimp only; omega) _ | with_reducible apply Blk.put4 | with_reducible apply Blk.put9)) (by repeat (first | with_reducible exact HT1.out | with_reducible exact HG1.out | with_reducible exact Blk.new2 _ _ _ _ | with_reducible exact Blk.new _ _ _ | with_reducible refine Blk.drewN ?_ _ | with_reducible refine Blk.drew ?_ | with_reducible refine Blk.alloc ?_ _ | with_reducible refine Blk.other ?_ (by dsimp only; omega) _ | with_reducible apply Blk.put4 | with_reducible apply Blk.put9)) Try.underlying57 rfl (by exact infoT) Try.underlying80 rfl (by exact infoG)) rfl ⟨8, a, 0, A, l, c, B, x, A, l, c, 0, by rw [Rd.map_at, Rd.map_no], (fun t nx h => by
        cases hR0 : R0 with
        | bad p e => rw [hR0] at h; cases h
        | ok ys n =>
          rw [hR0] at h; injection h with h1 h2; subst h1
          have HP0 := hx.out ys n hR0
          simp only [World.size_alloc] at HP0
          have HP : POwn w1 (w.heap.size + 2) A l c ys := ⟨HP0.1, own_base_less HP0.2 (by omega)⟩
          exact ⟨rfl, rfl, rfl, HP.1, (own_chg HP.2 (S := fun k => k = w.heap.size ∨ k = w.heap.size + 1) (by repeat (first | with_reducible exact Chg.refl _ _ | with_reducible refine Chg.drewN ?_ _ | with_reducible refine Chg.drew ?_ | with_reducible refine Chg.alloc ?_ _ | with_reducible refine Chg.setCell ?_ _ (fun _ => by dsimp only; omega) _)) (fun k hk => by have := own_of HP.2 k hk; omega))⟩), (by repeat (first | with_reducible exact hC1.out | with_reducible exact Chg.refl _ _ | with_reducible refine Chg.drewN ?_ _ | with_reducible refine Chg.drew ?_ | with_reducible refine Chg.alloc ?_ _ | with_reducible refine Chg.setNew ?_ (Nat.le_refl _) _ _ | with_reducible refine Chg.setNew ?_ (Nat.le_succ _) _ _))⟩
  | none h h1 =>
    have hd : (((byteAt s a : Nat) : Int) == 34) = false := by rw [beq_eq_false_iff_ne]; omega
    have hk0 : Hid (kind0 (byteAt s a) = 0) := hid (by unfold kind0; rw [if_pos h1])
    replace h := hid h
    replace h1 := hid h1
    have HT1 := HT0
    have HG1 := HG0
    have hC1 := hC0
    obtain ⟨t0, t1, t2, t3, u0, u1, u2, u3, hlt⟩ := HT1.out.four
    obtain ⟨g0, g1, g2, g3, g4, g5, g6, g7, g8, e0, e1, e2, e3, e4, e5, e6, e7, e8, hlg⟩ := HG1.out.nine
    go_enter Try.func52, Try.ntmps52
    go_wp2_with fail
    refine (refKind_any (byteAt s a) _ (byteAt_lt s a)).mono ?_
    rintro e w' ⟨rfl, rfl⟩
    rw [hk0.out]
    go_wp2
    exact bodyPost_ret (v := .tuple #[.agg #[.int .i64 0, .int .i64 0, .int .i64 0, .slice none 0 0], .agg #[.int .u8 0, .int .u64 0, .int .u64 0, .int .u64 0, .int .u64 0, .slice none 0 0, .int .i64 0, .int .i64 a, .int .i64 130]]) (results_cells2 Try.results52 _ _ _ _ _ _ 57 80 _ _ (by rfl) (by rfl) (by repeat (first | with_reducible exact HT1.out | with_reducible exact HG1.out | with_reducible exact Blk.new2 _ _ _ _ | with_reducible exact Blk.new _ _ _ | with_reducible refine Blk.drewN ?_ _ | with_reducible refine Blk.drew ?_ | with_reducible refine Blk.alloc ?_ _ | with_reducible refine Blk.other ?_ (by dsimp only; omega) _ | with_reducible apply Blk.put4 | with_reducible apply Blk.put9)) (by repeat (first | with_reducible exact HT1.out | with_reducible exact HG1.out | with_reducible exact Blk.new2 _ _ _ _ | with_reducible exact Blk.new _ _ _ | with_reducible refine Blk.drewN ?_ _ | with_reducible refine Blk.drew ?_ | with_reducible refine Blk.alloc ?_ _ | with_reducible refine Blk.other ?_ (by dsimp only; omega) _ | with_reducible apply Blk.put4 | with_reducible apply Blk.put9)) Try.underlying57 rfl (by exact infoT) Try.underlying80 rfl (by exact infoG)) rfl ⟨0, 0, 0, none, 0, 0, 0, 0, none, 0, 0, 0, by simp only [wd_zero]; rfl, (fun t nx h => by cases h), (by repeat (first | with_reducible exact hC1.out | with_reducible exact Chg.refl _ _ | with_reducible refine Chg.drewN ?_ _ | with_reducible refine Chg.drew ?_ | with_reducible refine Chg.alloc ?_ _ | with_reducible refine Chg.setNew ?_ (Nat.le_refl _) _ _ | with_reducible refine Chg.setNew ?_ (Nat.le_succ _) _ _))⟩
  | @sign k h h1 h2 h3 =>
    have hd : (((byteAt s a : Nat) : Int) == 34) = false := by rw [beq_eq_false_iff_ne]; omega
    have hk0 : Hid (kind0 (byteAt s a) = k) := hid (by unfold kind0; rw [if_neg (by omega), h1])
    have hk1 : (((k : Nat) : Int) == 0) = false := by rw [beq_eq_false_iff_ne]; omega
    have hk2 : ((k : Int) < 6) := by omega
    replace h := hid h
    replace h1 := hid h1
    have HT1 := HT0
    have HG1 := HG0
    have hC1 := hC0
    obtain ⟨t0, t1, t2, t3, u0, u1, u2, u3, hlt⟩ := HT1.out.four
    obtain ⟨g0, g1, g2, g3, g4, g5, g6, g7, g8, e0, e1, e2, e3, e4, e5, e6, e7, e8, hlg⟩ := HG1.out.nine
    go_enter Try.func52, Try.ntmps52
    go_wp2_with fail
    refine (refKind_any (byteAt s a) _ (byteAt_lt s a)).mono ?_
    rintro e w' ⟨rfl, rfl⟩
    rw [hk0.out]
    go_wp2
    exact bodyPost_ret (v := .tuple #[.agg #[.int .i64 k, .int .i64 a, .int .i64 0, .slice none 0 0], .agg #[.int .u8 0, .int .u64 0, .int .u64 0, .int .u64 0, .int .u64 0, .slice none 0 0, .int .i64 0, .int .i64 ((a : Int) + 1), .int .i64 0]]) (results_cells2 Try.results52 _ _ _ _ _ _ 57 80 _ _ (by rfl) (by rfl) (by repeat (first | with_reducible exact HT1.out | with_reducible exact HG1.out | with_reducible exact Blk.new2 _ _ _ _ | with_reducible exact Blk.new _ _ _ | with_reducible refine Blk.drewN ?_ _ | with_reducible refine Blk.drew ?_ | with_reducible refine Blk.alloc ?_ _ | with_reducible refine Blk.other ?_ (by dsimp only; omega) _ | with_reducible apply Blk.put4 | with_reducible apply Blk.put9)) (by repeat (first | with_reducible exact HT1.out | with_reducible exact HG1.out | with_reducible exact Blk.new2 _ _ _ _ | with_reducible exact Blk.new _ _ _ | with_reducible refine Blk.drewN ?_ _ | with_reducible refine Blk.drew ?_ | with_reducible refine Blk.alloc ?_ _ | with_reducible refine Blk.other ?_ (by dsimp only; omega) _ | with_reducible apply Blk.put4 | with_reducible apply Blk.put9)) Try.underlying57 rfl (by exact infoT) Try.underlying80 rfl (by exact infoG)) rfl ⟨k, a, 0, none, 0, 0, 0, 0, none, 0, 0, 0, by simp only [wd_zero]; rfl, (fun t nx h => by injection h with h1 h2; subst h1; exact ⟨rfl, rfl, rfl, rfl, World.ownsRow_nil _ _ _ _⟩), (by repeat (first | with_reducible exact hC1.out | with_reducible exact Chg.refl _ _ | with_reducible refine Chg.drewN ?_ _ | with_reducible refine Chg.drew ?_ | with_reducible refine Chg.alloc ?_ _ | with_reducible refine Chg.setNew ?_ (Nat.le_refl _) _ _ | with_reducible refine Chg.setNew ?_ (Nat.le_succ _) _ _))⟩
  | @num k m h h1 h2 h3 =>
    have hd : (((byteAt s a : Nat) : Int) == 34) = false := by rw [beq_eq_false_iff_ne]; omega
    have hk0 : Hid (kind0 (byteAt s a) = k) := hid (by unfold kind0; rw [if_neg (by omega), h1])
    have hk1 : (((k : Nat) : Int) == 0) = false := by rw [beq_eq_false_iff_ne]; omega
    have hk2 : ¬ ((k : Int) < 6) := by omega
    replace h := hid h
    replace h1 := hid h1
    go_enter Try.func52, Try.ntmps52
    go_wp2_with fail
    refine (refKind_any (byteAt s a) _ (byteAt_lt s a)).mono ?_
    rintro e w' ⟨rfl, rfl⟩
    rw [hk0.out]
    go_wp2_with fail
    refine (refNumber_any s (a + 1) m _ hs (by omega) h3).mono ?_
    rintro e w1 ⟨rfl, hc⟩
    have HT1 := hid (HT0.out.chg hc id)
    have HG1 := hid (HG0.out.chg hc id)
    have hC1 := hid (hC0.out.trans hc)
    clear hc HT0 HG0 hC0
    unfold gotN
    obtain ⟨t0, t1, t2, t3, u0, u1, u2, u3, hlt⟩ := HT1.out.four
    obtain ⟨g0, g1, g2, g3, g4, g5, g6, g7, g8, e0, e1, e2, e3, e4, e5, e6, e7, e8, hlg⟩ := HG1.out.nine
    go_wp2_with fail
    go_region_with (fail)
    all_goals
      go_wp2
      exact bodyPost_ret (v := .tuple #[.agg #[.int .i64 k, .int .i64 a, .int .i64 ((numS s (a + 1) m).val 0 : Nat), .slice none 0 0], .agg #[.int .u8 0, .int .u64 0, .int .u64 0, .int .u64 0, .int .u64 0, .slice none 0 0, .int .i64 ((numS s (a + 1) m).val 0 : Nat), .int .i64 ((numS s (a + 1) m).at_ : Nat), .int .i64 (numS s (a + 1) m).no]]) (results_cells2 Try.results52 _ _ _ _ _ _ 57 80 _ _ (by rfl) (by rfl) (by repeat (first | with_reducible exact HT1.out | with_reducible exact HG1.out | with_reducible exact Blk.new2 _ _ _ _ | with_reducible exact Blk.new _ _ _ | with_reducible refine Blk.drewN ?_ _ | with_reducible refine Blk.drew ?_ | with_reducible refine Blk.alloc ?_ _ | with_reducible refine Blk.other ?_ (by dsimp only; omega) _ | with_reducible apply Blk.put4 | with_reducible apply Blk.put9)) (by repeat (first | with_reducible exact HT1.out | with_reducible exact HG1.out | with_reducible exact Blk.new2 _ _ _ _ | with_reducible exact Blk.new _ _ _ | with_reducible refine Blk.drewN ?_ _ | with_reducible refine Blk.drew ?_ | with_reducible refine Blk.alloc ?_ _ | with_reducible refine Blk.other ?_ (by dsimp only; omega) _ | with_reducible apply Blk.put4 | with_reducible apply Blk.put9)) Try.underlying57 rfl (by exact infoT) Try.underlying80 rfl (by exact infoG)) rfl ⟨k, a, ((numS s (a + 1) m).val 0 : Nat), none, 0, 0, 0, 0, none, 0, 0, ((numS s (a + 1) m).val 0 : Nat), by rw [Rd.map_at, Rd.map_no]; simp only [wd_zero]; rfl, (fun t nx h => by
        cases hR0 : numS s (a + 1) m with
        | bad p e => rw [hR0] at h; cases h
        | ok ys n => rw [hR0] at h; injection h with h1 h2; subst h1; exact ⟨rfl, rfl, rfl, rfl, World.ownsRow_nil _ _ _ _⟩), (by repeat (first | with_reducible exact hC1.out | with_reducible exact Chg.refl _ _ | with_reducible refine Chg.drewN ?_ _ | with_reducible refine Chg.drew ?_ | with_reducible refine Chg.alloc ?_ _ | with_reducible refine Chg.setNew ?_ (Nat.le_refl _) _ _ | with_reducible refine Chg.setNew ?_ (Nat.le_succ _) _ _))⟩
end Go.Proofs.Ytllblpiakijpaaa

/- Layer 13: rows of tokens; the document's Lex. -/
namespace Go.Proofs.Ytllblpiakijpaaa
open Go.RowKit
set_option linter.unusedVariables false
attribute [local go_sem ↓] Go.wp_at_zero Go.wp_at_succ
/-- A token, and where its elements lie. -/
structure TP where
  t : Tok
  A : Option Addr
  l : Nat
  c : Nat
def tpL (p : TP) : List Value := [.int .i64 p.t.kind, .int .i64 p.t.at_, .int .i64 p.t.n, .slice p.A p.l p.c]
theorem tpL_len (p : TP) : (tpL p).length = 4 := rfl
theorem tpL_one (p : TP) : ∀ u ∈ tpL p, u.oneCell' = true := by intro u hu; unfold tpL at hu; simp at hu; rcases hu with rfl | rfl | rfl | rfl <;> rfl
structure PRead (F : Nat → Prop) (w : World) (p : TP) : Prop where
  row : RowAt 4 F w p.A p.l p.c (p.t.p.flatMap clsL)
  len : p.t.p.length = p.l
/-- A row of tokens of the call's own. -/
structure TRow (w : World) (base : Nat) (T : TypeId) (A : Option Addr) (n c : Nat) (ps : List TP) : Prop where
  len : ps.length = n
  own : w.ownsRow base T 4 (.slice A n c) n (ps.flatMap tpL)
  els : ∀ p ∈ ps, PRead (fun k => base ≤ k ∧ ¬ Of A k) w p
theorem TRow.nil (w : World) (base : Nat) (T : TypeId) : TRow w base T none 0 0 [] := ⟨rfl, World.ownsRow_nil _ _ _ _, fun p h => by simp at h⟩
theorem TRow.chg {S : Nat → Prop} {w w' : World} {base : Nat} {T : TypeId} {A : Option Addr} {n c : Nat} {ps : List TP} (h : TRow w base T A n c ps) (hc : Chg S w w') (hS : ∀ k, base ≤ k → k < w.heap.size → ¬ S k) : TRow w' base T A n c ps :=
  ⟨h.len, own_chg h.own hc (fun k hk => by have := own_of h.own k hk; exact hS k this.1 this.2), fun p hp => ⟨(h.els p hp).row.chg hc (fun k hk hF => hS k hF.1 hk), (h.els p hp).len⟩⟩
theorem infoTk : (Try.prog.info? 57).map (fun i => (i.zero, i.size, i.bytes)) = some (some (.agg #[.int .i64 0, .int .i64 0, .int .i64 0, .slice none 0 0]), 4, 48) := by kernel_rfl
/-- One more token. -/
theorem TRow.snoc {w w1 w2 : World} {base : Nat} {T : TypeId} {A A' : Option Addr} {n c c' : Nat} {ps : List TP} (h : TRow w base T A n c ps) (p : TP) (b1 : Nat)
    (hc : Chg Nothing w w1) (hb1 : w.heap.size ≤ b1) (hbase : base ≤ b1) (hp : PRead (fun k => b1 ≤ k) w1 p)
    (hown : w2.ownsRow base T 4 (.slice A' (n + 1) c') (n + 1) (ps.flatMap tpL ++ tpL p)) (hc2 : Chg (Of A) w1 w2) (hA : ∀ k, Of A' k → Of A k ∨ w1.heap.size ≤ k) :
    TRow w2 base T A' (n + 1) c' (ps ++ [p]) := by
  have oa := own_of h.own
  refine ⟨by rw [List.length_append, h.len]; rfl, by rw [List.flatMap_append]; simpa using hown, fun q hq => ?_⟩
  rw [List.mem_append] at hq
  rcases hq with hq | hq
  · have e := h.els q hq
    refine ⟨?_, e.len⟩
    have r1 := e.row.chg hc (fun _ _ _ h => h)
    have r2 := r1.mono (G := fun k => base ≤ k ∧ ¬ Of A k ∧ k < w1.heap.size) (fun k hk hF => ⟨hF.1, hF.2, hk⟩)
    have r3 := r2.chg hc2 (fun k hk hF => hF.2.1)
    exact r3.mono (fun k hk hF => ⟨hF.1, fun hA' => by rcases hA k hA' with h1 | h1; exact hF.2.1 h1; have := hF.2.2; omega⟩)
  · simp at hq; subst hq
    refine ⟨?_, hp.len⟩
    have r2 := hp.row.mono (G := fun k => b1 ≤ k ∧ k < w1.heap.size) (fun k hk hF => ⟨hF, hk⟩)
    have r3 := r2.chg hc2 (fun k hk hF hOf => by have := oa k hOf; omega)
    exact r3.mono (fun k hk hF => ⟨by omega, fun hA' => by rcases hA k hA' with h1 | h1; have := oa k h1; omega; omega⟩)
/-- What Lex answers of a text. -/
def lexS (s : ByteArray) (R : Rd (List Tok)) : Prop := if 1000 < s.size then R = .bad 1000 135 else LexRun s 0 [] R
def LexAns (T : TypeId) (R : Rd (List Tok)) (w : World) (e : Ending) (w' : World) : Prop :=
  ∃ (A : Option Addr) (n c : Nat) (ps : List TP), e = .returned (.tuple #[.slice A n c, .int .i64 (R.at_ : Nat), .int .i64 R.no]) ∧ TRow w' w.heap.size T A n c ps ∧ (∀ l nx, R = .ok l nx → ps.map TP.t = l) ∧ (R.no ≠ 0 → ps = []) ∧ Chg Nothing w w'
theorem numS_placed (s : ByteArray) (a m : Nat) (ha : a ≤ s.size) (h : DigRun s a m) : Placed s a (numS s a m) ∨ (∃ v, numS s a m = .ok v (a + m) ∧ 0 < m ∧ a + m ≤ s.size) := by
  unfold numS
  by_cases hc : m = 0 ∨ (byteAt s a = 48 ∧ 1 < m) ∨ 1000000 < valD s a m
  · left; rw [if_pos hc]; exact ⟨by simp only [Rd.at_]; omega, fun h => by simp only [Rd.no] at h; omega, fun _ => by simp only [Rd.no]; omega⟩
  · right; rw [if_neg hc]
    have hm : 0 < m := by omega
    have := h.yes (m - 1) (by omega)
    unfold isDig at this
    exact ⟨_, rfl, hm, by omega⟩
theorem TokRd.placed {s : ByteArray} {a : Nat} {R : Rd Tok} (h : TokRd s a R) (ha : a < s.size) : Placed s a R := by
  cases h with
  | pat h k => have := k.placed (show a + 1 ≤ s.size by omega); exact Rd.map_placed ⟨this.le, fun h => by have := this.lt h; omega, this.ok⟩
  | none h h1 => exact ⟨by simp only [Rd.at_]; omega, fun h => by simp only [Rd.no] at h; omega, fun _ => by simp only [Rd.no]; omega⟩
  | sign h h1 h2 h3 => exact ⟨by simp only [Rd.at_]; omega, fun _ => by simp only [Rd.at_]; omega, fun h => absurd rfl (h _ _)⟩
  | num h h1 h2 h3 =>
    rcases numS_placed s (a + 1) _ (by omega) h3 with h4 | ⟨v, h4, h5, h6⟩
    · exact Rd.map_placed ⟨h4.le, fun h => by have := h4.lt h; omega, h4.ok⟩
    · rw [h4]; exact ⟨h6, fun _ => by simp only [Rd.at_, Rd.map]; omega, fun h => absurd rfl (h _ _)⟩
theorem LexRun.placed {s : ByteArray} {a : Nat} {l : List Tok} {R : Rd (List Tok)} (h : LexRun s a l R) : R.at_ ≤ s.size ∧ ((∀ v nx, R ≠ .ok v nx) → R.no ≠ 0) ∧ ((∃ v nx, R = .ok v nx) → R.at_ = s.size) := by
  induction h with
  | stop h => exact ⟨Nat.le_refl _, fun h => absurd rfl (h _ _), fun _ => rfl⟩
  | blank h hb k ih => exact ih
  | bad h hb k => have := k.placed h; exact ⟨this.le, fun _ => this.ok (fun v nx h => by cases h), fun ⟨v, nx, h⟩ => by cases h⟩
  | step h hb k r ih => exact ih
def RlInv (s : ByteArray) (w : World) (R : Rd (List Tok)) (pt ov : Value) (wr : World) : Prop :=
  ∃ (k : Nat) (ps : List TP) (A : Option Addr) (n c : Nat), k ≤ s.size ∧ n ≤ k ∧ pt = .int .i64 k ∧ ov = .slice A n c ∧ LexRun s k (ps.map TP.t) R ∧ Hid (TRow wr w.heap.size 57 A n c ps) ∧ Chg Nothing w wr
set_option maxHeartbeats 8000000 in
set_option maxRecDepth 100000 in
theorem refLex_any (s : ByteArray) (R : Rd (List Tok)) (hR : lexS s R) (w : World) (hs : s.size ≤ 9223372036854775000) :
    Calls Try.prog 31 #[.string s] w (LexAns 57 R w) := by
  unfold lexS at hR
  by_cases hbig : 1000 < s.size
  · rw [if_pos hbig] at hR
    subst hR
    have hbi : (1000 : Int) < (s.size : Int) := by omega
    go_enter Try.func31, Try.ntmps31
    go_wp2
    go_ret3
    exact ⟨none, 0, 0, [], rfl, TRow.nil _ _ _, (fun l nx h => by cases h), (fun _ => rfl), Chg.refl _ _⟩
  · rw [if_neg hbig] at hR
    have hbi : ¬ (1000 : Int) < (s.size : Int) := by omega
    have hR := hid hR
    go_enter Try.func31, Try.ntmps31
    go_wp2_with fail
    go_loopw [6, 5] (fun pt ov wr => RlInv s w R pt ov wr) (fun pt _ _ => s.size - (intOf pt).toNat)
    case atStart => exact ⟨0, [], none, 0, 0, by omega, by omega, rfl, rfl, hR.out, hid (TRow.nil _ _ _), Chg.refl _ _⟩
    case round =>
      clear hR
      obtain ⟨k, ps, A, n, c, hk, hn, rfl, rfl, hrun, HT, hchg⟩ := hrel
      have hpl := hrun.placed
      cases hrun with
      | stop h =>
        have hd : decide ((k : Int) < (s.size : Int)) = false := decide_eq_false (by omega)
        go_wp2
        go_ret3
        exact ⟨A, n, c, ps, rfl, HT.out, (fun l nx h => by injection h), (fun h => absurd rfl h), hchg⟩
      | blank h hb r =>
        have hd : decide ((k : Int) < (s.size : Int)) = true := decide_eq_true (by omega)
        have hg := byteAt_eq h
        have hd2 : (((byteAt s k : Nat) : Int) == 32) = true := beq_iff_eq.2 (by omega)
        replace hb := hid hb
        replace hpl := hid hpl
        go_wp2
        go_roundw
        case rel => exact ⟨k + 1, ps, A, n, c, by omega, by omega, by go_num, rfl, r, HT, hchg⟩
        case measure => simp [intOf]; omega
      | @bad _ _ p e0 h hb r =>
        have hd : decide ((k : Int) < (s.size : Int)) = true := decide_eq_true (by omega)
        have hg := byteAt_eq h
        have hd2 : (((byteAt s k : Nat) : Int) == 32) = false := by rw [beq_eq_false_iff_ne]; omega
        have hne := hpl.2.1 (fun v nx h => by cases h)
        simp only [Rd.no] at hne
        have hne1 : (e0 == 0) = false := beq_eq_false_iff_ne.2 hne
        have hne2 : (e0 != 0) = true := by rw [bne_iff_ne]; exact hne
        replace hb := hid hb
        replace hpl := hid hpl
        go_wp2_with fail
        refine (refOne_any s k _ r _ hs h).mono ?_
        rintro e w1 ⟨kd, at_, nn, A1, l1, c1, B, x, A2, l2, c2, N, rfl, hx, hc⟩
        clear hx
        simp only [Rd.at_, Rd.no]
        have hC1 := hchg.trans hc
        have hs1 := hc.size
        clear hc hchg
        go_wp2_with fail
        go_quiet (fail)
        go_wp2
        go_ret3
        exact ⟨none, 0, 0, [], rfl, TRow.nil _ _ _, (fun l nx h => by cases h), (fun _ => rfl), by repeat (first | with_reducible exact hC1 | with_reducible refine Chg.drewN ?_ _ | with_reducible refine Chg.drew ?_ | with_reducible refine Chg.alloc ?_ _)⟩
      | @step _ _ t b _ h hb r rr =>
        have hd : decide ((k : Int) < (s.size : Int)) = true := decide_eq_true (by omega)
        have hg := byteAt_eq h
        have hd2 : (((byteAt s k : Nat) : Int) == 32) = false := by rw [beq_eq_false_iff_ne]; omega
        have hpb := r.placed h
        have hb2 := hpb.lt rfl
        have hb3 := hpb.le
        simp only [Rd.at_] at hb2 hb3
        clear hpb
        replace hb := hid hb
        replace hpl := hid hpl
        go_wp2_with fail
        refine (refOne_any s k _ r _ hs h).mono ?_
        rintro e w1 ⟨kd, at_, nn, A1, l1, c1, B, x, A2, l2, c2, N, rfl, hx, hc⟩
        obtain ⟨rfl, rfl, rfl, hP⟩ := hx t b rfl
        simp only [Rd.at_, Rd.no]
        have hC1 := hid (hchg.trans hc)
        have hs1 := hc.size
        have HT1 := hid (HT.out.chg hc (fun _ _ _ h => h))
        have hbs := hid hchg.size
        have hP1 : Hid (PRead (fun k => wr.heap.size + 2 ≤ k) w1 ⟨t, A1, l1, c1⟩) := hid ⟨(RowAt.of_own hP.2).mono (fun k _ hF => hF.2), hP.1⟩
        have hcw := hid hc
        clear hc hchg hx hP
        go_wp2_with (at_builtin; (refine append_cells (w := (w1.alloc _).alloc _) rfl _ _ 50 rfl w.heap.size 57 (.agg #[.int .i64 0, .int .i64 0, .int .i64 0, .slice none 0 0]) 4 48 Try.underlying50 infoTk rfl (by decide) A c n _ rfl (own_chg HT1.out.own (((Chg.refl Nothing w1).alloc _).alloc _) (fun _ _ h => h)) (tpL ⟨t, A1, l1, c1⟩) (by rw [World.size_alloc, World.size_alloc]; rfl) rfl (tpL_one _) ?_ ?_ ?_ ?_))
        · omega
        · omega
        · simp only [World.size_alloc]; have := hbs.out; omega
        intro A' c' w6 hown6 hc6 hA
        have oa := own_of HT1.out.own
        have HX := (Blk.new2 w1 (.cells #[.int .i64 t.kind, .int .i64 t.at_, .int .i64 t.n, .slice A1 l1 c1] 57) #[.int .u8 B, .int .u64 (wd x 0), .int .u64 (wd x 1), .int .u64 (wd x 2), .int .u64 (wd x 3), .slice A2 l2 c2, .int .i64 N, .int .i64 b, .int .i64 0] 80).chg hc6 (fun h => by have := oa _ h; omega)
        have x7 := HX.cell 7 rfl
        have hown7 := hid hown6
        have hc7 := hid hc6
        have oa' := hid oa
        have hA7 := hid hA
        clear HX hown6 hc6 hA oa
        go_wp2
        go_roundw
        case rel =>
          refine ⟨b, ps ++ [⟨t, A1, l1, c1⟩], A', n + 1, c', hb3, by omega, rfl, rfl, by rw [List.map_append]; exact rr, hid (TRow.snoc HT.out ⟨t, A1, l1, c1⟩ (wr.heap.size + 2) ((hcw.out.alloc (.cells #[.int .i64 t.kind, .int .i64 t.at_, .int .i64 t.n, .slice A1 l1 c1] 57)).alloc (.cells #[.int .u8 B, .int .u64 (wd x 0), .int .u64 (wd x 1), .int .u64 (wd x 2), .int .u64 (wd x 3), .slice A2 l2 c2, .int .i64 N, .int .i64 b, .int .i64 0] 80)) (by omega) (by have := hbs.out; omega) ⟨(hP1.out.row.chg (((Chg.refl Nothing w1).alloc _).alloc _) (fun _ _ _ h => h)), hP1.out.len⟩ hown7.out hc7.out (fun k hk => by have := hA7.out k hk; simp only [World.size_alloc]; exact this)), ((hC1.out.alloc _).alloc _).then hc7.out (fun i hi h => by have := own_of HT.out.own _ h; omega)⟩
        case measure => simp [intOf]; omega
end Go.Proofs.Ytllblpiakijpaaa

/- Layer 13: the program's scanner: pattern. -/
namespace Go.Proofs.Ytllblpiakijpaaa
open Go.RowKit
set_option linter.unusedVariables false
attribute [local go_sem ↓] Go.wp_at_zero Go.wp_at_succ
def noW (b : Nat) (w : World) : Int := match w.cell? ⟨b, 2, none⟩ with
  | some (.int _ q) => q
  | _ => 0
theorem SBox.noOf {w : World} {b : Nat} {s : ByteArray} {a no : Int} (h : SBox w b s a no) : noW b w = no := by
  unfold noW; rw [h.at_.r2]
def patMu (s : ByteArray) (b : Nat) (w : World) : Nat := if noW b w = 0 then s.size + 2 - placeW b w else 0
structure PatW (s : ByteArray) (b : Nat) (R : Rd (List Cls)) (w wr : World) (k : Nat) (no : Int) (xs : List Cls) (A : Option Addr) (n c : Nat) : Prop where
  box : SBox wr b s k no
  st : (no = 0 ∧ PatRun s k xs R ∧ n ≤ 64) ∨ (no ≠ 0 ∧ R = .bad k no)
  le : k ≤ s.size
  own : POwn wr w.heap.size A n c xs
  bb : b < w.heap.size
  chg : Chg (One b) w wr
def PatJ (s : ByteArray) (b : Nat) (R : Rd (List Cls)) (w : World) (a' : Act) (wr : World) : Prop :=
  ∃ (k : Nat) (no : Int) (xs : List Cls) (A : Option Addr) (n c : Nat) (u2 u4 u5 u6 u7 u8 u9 u10 u11 u12 u13 u14 u15 u16 u17 u18 u19 u20 u21 u22 u23 u24 u25 u26 u27 u28 u29 u30 u31 u32 u33 u34 u35 u36 u37 u38 u39 u40 u41 u42 u43 u44 u45 u46 u47 u48 u49 u50 u51 u52 u53 u54 u55 u56 u57 u58 u59 u60 u61 u62 u63 u64 u65 u66 u67 u68 u69 u70 u71 u72 u73 u74 u75 u76 u77 u78 u79 u80 u81 u82 u83 u84 u85 u86 u87 : Value), a' = { tmps := #[.pointer (some ⟨b, 0, none⟩), undef, u2, .slice A n c, u4, u5, u6, u7, u8, u9, u10, u11, u12, u13, u14, u15, u16, u17, u18, u19, u20, u21, u22, u23, u24, u25, u26, u27, u28, u29, u30, u31, u32, u33, u34, u35, u36, u37, u38, u39, u40, u41, u42, u43, u44, u45, u46, u47, u48, u49, u50, u51, u52, u53, u54, u55, u56, u57, u58, u59, u60, u61, u62, u63, u64, u65, u66, u67, u68, u69, u70, u71, u72, u73, u74, u75, u76, u77, u78, u79, u80, u81, u82, u83, u84, u85, u86, u87], defers := [] } ∧ PatW s b R w wr k no xs A n c
def ScP (R : Rd (List Cls)) (s : ByteArray) (b : Nat) (w : World) (e : Ending) (w' : World) : Prop :=
  ∃ (A : Option Addr) (n c : Nat), e = .returned (.slice A n c) ∧ (∀ ys nx, R = .ok ys nx → POwn w' w.heap.size A n c ys) ∧ SBox w' b s R.at_ R.no ∧ Chg (One b) w w'
theorem hasB_no {s : ByteArray} {k x : Nat} (h : byteAt s k ≠ x) : hasB s k x = false := by rw [hasB_eq]; simp [h]
theorem hasB_yes {s : ByteArray} {k x : Nat} (hk : k < s.size) (h : byteAt s k = x) : hasB s k x = true := by rw [hasB_eq]; simp [hk, h]
theorem ofC_str (v : Nat) (hv : v < 256) : ofC (strOfNums [(v : Int)]) = BitVec.twoPow 256 v := by
  unfold ofC
  rw [strOfNums_data]
  have : (UInt8.ofNat (v : Int).toNat).toNat = v := by simp; omega
  simp only [List.map_cons, List.map_nil, List.foldl_cons, List.foldl_nil, this]
  simp
set_option maxHeartbeats 16000000 in
set_option maxRecDepth 100000 in
theorem pattern_any (b : Nat) (s : ByteArray) (a : Nat) (R : Rd (List Cls)) (hR : PatRun s a [] R) (w : World) (H : SBox w b s a 0) (hs : s.size ≤ 9223372036854775000) (ha : a ≤ s.size) :
    Calls Try.prog 68 #[.pointer (some ⟨b, 0, none⟩)] w (ScP R s b w) := by
  have hlt := H.lt
  have HH := hid H
  have hR := hid hR
  clear H
  go_enter Try.func68, Try.ntmps68
  go_wp2_with fail
  refine wp_scope_one 0 (PatJ s b R w) (fun _ wr => patMu s b wr) rfl ?_ ?_
  · -- from the label on
    rintro a' wr ⟨k, no, xs, A, n, c, u2, u4, u5, u6, u7, u8, u9, u10, u11, u12, u13, u14, u15, u16, u17, u18, u19, u20, u21, u22, u23, u24, u25, u26, u27, u28, u29, u30, u31, u32, u33, u34, u35, u36, u37, u38, u39, u40, u41, u42, u43, u44, u45, u46, u47, u48, u49, u50, u51, u52, u53, u54, u55, u56, u57, u58, u59, u60, u61, u62, u63, u64, u65, u66, u67, u68, u69, u70, u71, u72, u73, u74, u75, u76, u77, u78, u79, u80, u81, u82, u83, u84, u85, u86, u87, rfl, ⟨hbox, hst, hk, hown, hbb, hchg⟩⟩
    have HB := hid hbox
    have hmu : Hid (no = 0 → patMu s b wr = s.size + 2 - k) := hid (fun h => by unfold patMu; rw [hbox.noOf, hbox.place, if_pos h])
    have HO := hid hown
    obtain ⟨r0, r1, r2, f0, f1, f2, hlb⟩ := SBox.at_ hbox
    clear hbox hown
    rcases hst with ⟨rfl, hrun, hn⟩ | ⟨hne, rfl⟩
    · cases hrun with
      | stop h =>
        have hkk : k = s.size := by omega
        subst hkk
        have he : decide ((s.size : Int) ≤ ((s.size : Nat) : Int)) = true := decide_eq_true (by omega)
        go_wp2_with fail
        refine (end_quiet b s s.size 0 _ HB.out (by omega)).mono ?_
        rintro e w' ⟨rfl, m, rfl⟩
        rw [he]
        go_wp2_with fail
        refine (fails_any b s s.size 0 s.size 133 _ (Blk.drewN HB.out _)).mono ?_
        rintro e w7 ⟨rfl, hB, hc⟩
        have HB7 := hid hB
        have HO7 := hid (show POwn w7 w.heap.size A n c xs from ⟨HO.out.1, own_chg HO.out.2 (((Chg.refl _ _).drewN _).trans hc) (fun j hj => by have := own_of HO.out.2 j hj; unfold One; omega)⟩)
        have hC7 := hid ((hchg.drewN _).trans hc)
        clear hB hc
        go_wp2
        go_step3
        refine ⟨rfl, ⟨s.size, 133, xs, A, n, c, _, _, _, _, _, _, _, _, _, _, _, _, _, _, _, _, _, _, _, _, _, _, _, _, _, _, _, _, _, _, _, _, _, _, _, _, _, _, _, _, _, _, _, _, _, _, _, _, _, _, _, _, _, _, _, _, _, _, _, _, _, _, _, _, _, _, _, _, _, _, _, _, _, _, _, _, _, _, _, _, _, _, _, _, _, rfl, ⟨HB7.out, .inr ⟨by decide, rfl⟩, by omega, HO7.out, hbb, hC7.out⟩⟩, ?_⟩
        rw [hmu.out (by simp)]; unfold patMu; rw [show noW b _ = _ from SBox.noOf HB7.out, if_neg (by decide)]; omega
      | close h hb h1 =>
        have hd2 : (((byteAt s k : Nat) : Int) == 34) = true := beq_iff_eq.2 (by omega)
        have hn0 : decide ((0 : Int) < (n : Int)) = true := decide_eq_true (by have := HO.out.1; omega)
        have hn1 : (0 : Int) < (n : Int) := by have := HO.out.1; omega
        replace hb := hid hb
        have he : decide ((s.size : Int) ≤ (k : Int)) = false := decide_eq_false (by omega)
        have hg := byteAt_eq h
        go_wp2_with fail
        refine (end_quiet b s k 0 _ HB.out (by omega)).mono ?_
        rintro e w' ⟨rfl, m, rfl⟩
        rw [he]
        go_wp2_with fail
        go_quiet (fail)
        go_wp2
        try simp only [jumps]
        go_ret
        exact ⟨A, n, c, rfl, (fun ys nx h => by injection h with e1 e2; subst e1; exact ⟨HO.out.1, own_chg HO.out.2 (((Chg.refl (One b) wr).drewN _).setOne _ _) (fun j hj => by have := own_of HO.out.2 j hj; unfold One; omega)⟩), SBox.putAt (Blk.drewN HB.out _) _, (hchg.drewN _).setOne _ _⟩
      | empty h hb h1 =>
        have hd2 : (((byteAt s k : Nat) : Int) == 34) = true := beq_iff_eq.2 (by omega)
        have hn0 : decide ((0 : Int) < (n : Int)) = false := decide_eq_false (by have := HO.out.1; omega)
        have hn1 : ¬ (0 : Int) < (n : Int) := by have := HO.out.1; omega
        replace hb := hid hb
        have he : decide ((s.size : Int) ≤ (k : Int)) = false := decide_eq_false (by omega)
        have hg := byteAt_eq h
        go_wp2_with fail
        refine (end_quiet b s k 0 _ HB.out (by omega)).mono ?_
        rintro e w' ⟨rfl, m, rfl⟩
        rw [he]
        go_wp2_with fail
        go_quiet (fail)
        go_wp2_with fail
        go_quiet (fail)
        go_wp2_with fail
        refine (fails_any b s k 0 k 135 _ (Blk.drewN HB.out _)).mono ?_
        rintro e w7 ⟨rfl, hB, hc⟩
        have HB7 := hid hB
        have HO7 := hid (show POwn w7 w.heap.size A n c xs from ⟨HO.out.1, own_chg HO.out.2 (((Chg.refl _ _).drewN _).trans hc) (fun j hj => by have := own_of HO.out.2 j hj; unfold One; omega)⟩)
        have hC7 := hid ((hchg.drewN _).trans hc)
        clear hB hc
        go_wp2
        go_step3
        refine ⟨rfl, ⟨k, 135, xs, A, n, c, _, _, _, _, _, _, _, _, _, _, _, _, _, _, _, _, _, _, _, _, _, _, _, _, _, _, _, _, _, _, _, _, _, _, _, _, _, _, _, _, _, _, _, _, _, _, _, _, _, _, _, _, _, _, _, _, _, _, _, _, _, _, _, _, _, _, _, _, _, _, _, _, _, _, _, _, _, _, _, _, _, _, _, _, _, rfl, ⟨HB7.out, .inr ⟨by decide, rfl⟩, by omega, HO7.out, hbb, hC7.out⟩⟩, ?_⟩
        rw [hmu.out (by simp)]; unfold patMu; rw [show noW b _ = _ from SBox.noOf HB7.out, if_neg (by decide)]; omega
      | long h hb h1 =>
        have hd2 : (((byteAt s k : Nat) : Int) == 34) = false := by rw [beq_eq_false_iff_ne]; omega
        have hn0 : ((n : Int) == 64) = true := beq_iff_eq.2 (by have := HO.out.1; omega)
        replace hb := hid hb
        have he : decide ((s.size : Int) ≤ (k : Int)) = false := decide_eq_false (by omega)
        have hg := byteAt_eq h
        go_wp2_with fail
        refine (end_quiet b s k 0 _ HB.out (by omega)).mono ?_
        rintro e w' ⟨rfl, m, rfl⟩
        rw [he]
        go_wp2_with fail
        go_quiet (fail)
        go_wp2_with fail
        go_quiet (fail)
        go_wp2_with fail
        refine (fails_any b s k 0 k 135 _ (Blk.drewN HB.out _)).mono ?_
        rintro e w7 ⟨rfl, hB, hc⟩
        have HB7 := hid hB
        have HO7 := hid (show POwn w7 w.heap.size A n c xs from ⟨HO.out.1, own_chg HO.out.2 (((Chg.refl _ _).drewN _).trans hc) (fun j hj => by have := own_of HO.out.2 j hj; unfold One; omega)⟩)
        have hC7 := hid ((hchg.drewN _).trans hc)
        clear hB hc
        go_wp2
        go_step3
        refine ⟨rfl, ⟨k, 135, xs, A, n, c, _, _, _, _, _, _, _, _, _, _, _, _, _, _, _, _, _, _, _, _, _, _, _, _, _, _, _, _, _, _, _, _, _, _, _, _, _, _, _, _, _, _, _, _, _, _, _, _, _, _, _, _, _, _, _, _, _, _, _, _, _, _, _, _, _, _, _, _, _, _, _, _, _, _, _, _, _, _, _, _, _, _, _, _, _, rfl, ⟨HB7.out, .inr ⟨by decide, rfl⟩, by omega, HO7.out, hbb, hC7.out⟩⟩, ?_⟩
        rw [hmu.out (by simp)]; unfold patMu; rw [show noW b _ = _ from SBox.noOf HB7.out, if_neg (by decide)]; omega
      | @bad _ _ p e0 h hb h1 kk =>
        have hpl := kk.placed h
        have hne := hpl.ok (fun v nx h => by cases h)
        simp only [Rd.no] at hne
        have hple := hpl.le
        simp only [Rd.at_] at hple
        clear hpl
        generalize hRR : (Rd.bad p e0 : Rd Cls) = RR at kk
        replace hRR := hid hRR
        cases kk with
        | full h6 => exact absurd hRR.out (by intro h; cases h)
        | @cls R0 h9 kk =>
          have hF := hid hRR.out.symm
          have h63 := hid (hasB_no (s := s) (k := k) (x := 63) (by omega))
          have h91 := hid (hasB_yes h h9)
          replace h9 := hid h9
          have hd2 : (((byteAt s k : Nat) : Int) == 34) = false := by rw [beq_eq_false_iff_ne]; omega
          have hn0 : ((n : Int) == 64) = false := by rw [beq_eq_false_iff_ne]; have := HO.out.1; omega
          have hn64 : n < 64 := by have := HO.out.1; omega
          replace hb := hid hb
          have he : decide ((s.size : Int) ≤ (k : Int)) = false := decide_eq_false (by omega)
          have hg := byteAt_eq h
          go_wp2_with fail
          refine (end_quiet b s k 0 _ HB.out (by omega)).mono ?_
          rintro e w' ⟨rfl, m, rfl⟩
          rw [he]
          go_wp2_with fail
          go_quiet (fail)
          go_wp2_with fail
          go_quiet (fail)
          go_wp2_with fail
          refine (has_any b s k 63 0 _ (Blk.drewN HB.out _) (by omega) (by omega) (by decide)).mono ?_
          rintro e w1 ⟨rfl, hB, hc⟩
          rw [h63.out]
          rw [h63.out] at hB
          have hC1 := hid ((hchg.drewN _).trans hc)
          have HO1 := hid (show POwn w1 w.heap.size A n c xs from ⟨HO.out.1, own_chg HO.out.2 (((Chg.refl _ _).drewN _).trans hc) (fun j hj => by have := own_of HO.out.2 j hj; unfold One; omega)⟩)
          have hs1 := hc.size
          replace hB : SBox w1 b s (k : Nat) 0 := hB
          have HB1 := hid hB
          clear hB hc
          go_wp2_with fail
          refine (has_any b s k 91 0 _ (HB1.out) (by omega) (by omega) (by decide)).mono ?_
          rintro e w2 ⟨rfl, hB, hc⟩
          rw [h91.out]
          rw [h91.out] at hB
          have hC2 := hid (hC1.out.trans hc)
          have HO2 := hid (show POwn w2 w.heap.size A n c xs from ⟨HO.out.1, own_chg HO1.out.2 (hc) (fun j hj => by have := own_of HO.out.2 j hj; unfold One; omega)⟩)
          have hs2 := hc.size
          replace hB : SBox w2 b s (k + 1 : Nat) 0 := hB
          have HB2 := hid hB
          clear hB hc
          go_wp2_with fail
          refine (class_any b s k R0 kk _ HB2.out hs h).mono ?_
          rintro e w3 ⟨x0, rfl, hx, hB, hc⟩
          have HF : finC (negS s k) k R0 = .bad p e0 := hF.out
          have hC3 := hid (hC2.out.trans hc)
          have HO3 := hid (own_chg HO2.out.2 hc (fun j hj => by have := own_of HO2.out.2 j hj; unfold One; omega))
          have hs3 := hc.size
          have HB3 := hid (show SBox w3 b s (p : Nat) e0 from by rw [HF] at hB; exact hB)
          clear hc hB hx
          go_wp2_with (at_builtin; (refine append_cells (w := w3) rfl _ _ 34 rfl w.heap.size 70 (.agg #[.int .u64 0, .int .u64 0, .int .u64 0, .int .u64 0]) 4 32 Try.underlying34 infoCl rfl (by decide) A c n _ rfl HO3.out (clsL x0) (by first | rfl | (rw [World.size_alloc]; rfl)) rfl (clsL_one x0) ?_ ?_ ?_ ?_))
          · omega
          · omega
          · have := hC3.out.size; omega
          intro A' c' w6 hown6 hc6 hA
          have oa := own_of HO3.out
          have HB6 := hid (HB3.out.chg hc6 (fun h => by have := oa _ h; omega))
          have hC6 := hid (hC3.out.then hc6 (fun i hi h => by have := oa _ h; omega))
          have hown7 := hid (show POwn w6 w.heap.size A' (n + 1) c' (xs ++ [x0]) from ⟨by rw [List.length_append, HO.out.1]; rfl, by rw [List.flatMap_append]; simpa using hown6⟩)
          clear hown6 hc6 hA oa
          go_wp2
          go_step3
          refine ⟨rfl, ⟨p, e0, xs ++ [x0], A', n + 1, c', _, _, _, _, _, _, _, _, _, _, _, _, _, _, _, _, _, _, _, _, _, _, _, _, _, _, _, _, _, _, _, _, _, _, _, _, _, _, _, _, _, _, _, _, _, _, _, _, _, _, _, _, _, _, _, _, _, _, _, _, _, _, _, _, _, _, _, _, _, _, _, _, _, _, _, _, _, _, _, _, _, _, _, _, _, rfl, ⟨HB6.out, .inr ⟨hne, rfl⟩, by omega, hown7.out, hbb, hC6.out⟩⟩, ?_⟩
          rw [hmu.out (by simp)]; unfold patMu; rw [show noW b _ = _ from SBox.noOf HB6.out, if_neg hne]; omega
        | byte h6 h9 =>
          have HF := hid (show ∃ v0, oneS ByteArray.empty 130 s k = .bad p e0 from by
            have := hRR.out
            cases h0 : oneS ByteArray.empty 130 s k with
            | ok v n => rw [h0] at this; cases this
            | bad q f => rw [h0] at this; injection this with e1 e2; exact ⟨0, by rw [← e1, ← e2]⟩)
          obtain ⟨_, hHF⟩ := HF.out
          clear HF
          have HF := hid hHF
          clear hHF
          have h63 := hid (hasB_no (s := s) (k := k) (x := 63) h6)
          have h91 := hid (hasB_no (s := s) (k := k) (x := 91) h9)
          replace h6 := hid h6
          replace h9 := hid h9
          have hd2 : (((byteAt s k : Nat) : Int) == 34) = false := by rw [beq_eq_false_iff_ne]; omega
          have hn0 : ((n : Int) == 64) = false := by rw [beq_eq_false_iff_ne]; have := HO.out.1; omega
          have hn64 : n < 64 := by have := HO.out.1; omega
          replace hb := hid hb
          have he : decide ((s.size : Int) ≤ (k : Int)) = false := decide_eq_false (by omega)
          have hg := byteAt_eq h
          go_wp2_with fail
          refine (end_quiet b s k 0 _ HB.out (by omega)).mono ?_
          rintro e w' ⟨rfl, m, rfl⟩
          rw [he]
          go_wp2_with fail
          go_quiet (fail)
          go_wp2_with fail
          go_quiet (fail)
          go_wp2_with fail
          refine (has_any b s k 63 0 _ (Blk.drewN HB.out _) (by omega) (by omega) (by decide)).mono ?_
          rintro e w1 ⟨rfl, hB, hc⟩
          rw [h63.out]
          rw [h63.out] at hB
          have hC1 := hid ((hchg.drewN _).trans hc)
          have HO1 := hid (show POwn w1 w.heap.size A n c xs from ⟨HO.out.1, own_chg HO.out.2 (((Chg.refl _ _).drewN _).trans hc) (fun j hj => by have := own_of HO.out.2 j hj; unfold One; omega)⟩)
          have hs1 := hc.size
          replace hB : SBox w1 b s (k : Nat) 0 := hB
          have HB1 := hid hB
          clear hB hc
          go_wp2_with fail
          refine (has_any b s k 91 0 _ (HB1.out) (by omega) (by omega) (by decide)).mono ?_
          rintro e w2 ⟨rfl, hB, hc⟩
          rw [h91.out]
          rw [h91.out] at hB
          have hC2 := hid (hC1.out.trans hc)
          have HO2 := hid (show POwn w2 w.heap.size A n c xs from ⟨HO.out.1, own_chg HO1.out.2 (hc) (fun j hj => by have := own_of HO.out.2 j hj; unfold One; omega)⟩)
          have hs2 := hc.size
          replace hB : SBox w2 b s (k : Nat) 0 := hB
          have HB2 := hid hB
          clear hB hc
          go_wp2_with fail
          refine (one_any ByteArray.empty 130 b s k _ HB2.out hs h).mono ?_
          rintro e w3 ⟨rfl, hB, hc⟩
          rw [HF.out] at hB
          rw [HF.out]
          generalize hval : Rd.val (Rd.bad p e0 : Rd Nat) 0 = v0
          have hv0 : v0 < 256 := by rw [← hval]; exact (by decide : (0 : Nat) < 256)
          replace hval := hid hval
          have hC3 := hid (hC2.out.trans hc)
          have HO3 := hid (own_chg HO2.out.2 hc (fun j hj => by have := own_of HO2.out.2 j hj; unfold One; omega))
          have hs3 := hc.size
          have HB3 := hid (show SBox w3 b s (p : Nat) e0 from hB)
          clear hc hB
          have hcl : ∀ i, i < 1 → (w3.alloc (.cells #[.int .u8 v0] 5)).cell? ⟨w3.heap.size, 0 + i, none⟩ = some (.int .u8 ([(v0 : Int)].getD i 0)) := by
            intro i hi
            obtain rfl : i = 0 := by omega
            exact (Blk.new w3 _ _).cell 0 rfl
          have hcv := run_convert_bytes_arg (P := Try.prog) _ _ _ Try.underlying111 Try.underlying5 _ 0 1 1 [(v0 : Int)] rfl hcl _ Try.underlying9
          clear hcl
          go_wp2_with fail
          refine (classOfL (strOfNums [(v0 : Int)]) _ (by rw [strOfNums_size]; show 1 ≤ 9223372036854775807; omega)).mono ?_
          rintro e w4 ⟨rfl, hc⟩
          rw [ofC_str v0 hv0]
          have HO4 := hid (own_chg HO3.out (((Chg.refl Nothing w3).alloc _).trans hc) (fun _ _ h => h))
          have HB4 := hid ((Blk.alloc HB3.out _).chg hc id)
          have hC4 := hid ((hC3.out.alloc _).then hc (fun _ _ h => h.elim))
          have hs4 := hc.size
          rw [World.size_alloc] at hs4
          clear hc hcv
          go_wp2_with (at_builtin; (refine append_cells (w := w4) rfl _ _ 34 rfl w.heap.size 70 (.agg #[.int .u64 0, .int .u64 0, .int .u64 0, .int .u64 0]) 4 32 Try.underlying34 infoCl rfl (by decide) A c n _ rfl HO4.out (clsL (BitVec.twoPow 256 v0)) (by first | rfl | (rw [World.size_alloc]; rfl)) rfl (clsL_one (BitVec.twoPow 256 v0)) ?_ ?_ ?_ ?_))
          · omega
          · omega
          · have := hC4.out.size; omega
          intro A' c' w6 hown6 hc6 hA
          have oa := own_of HO4.out
          have HB6 := hid (HB4.out.chg hc6 (fun h => by have := oa _ h; omega))
          have hC6 := hid (hC4.out.then hc6 (fun i hi h => by have := oa _ h; omega))
          have hown7 := hid (show POwn w6 w.heap.size A' (n + 1) c' (xs ++ [(BitVec.twoPow 256 v0)]) from ⟨by rw [List.length_append, HO.out.1]; rfl, by rw [List.flatMap_append]; simpa using hown6⟩)
          clear hown6 hc6 hA oa
          go_wp2
          go_step3
          refine ⟨rfl, ⟨p, e0, xs ++ [(BitVec.twoPow 256 v0)], A', n + 1, c', _, _, _, _, _, _, _, _, _, _, _, _, _, _, _, _, _, _, _, _, _, _, _, _, _, _, _, _, _, _, _, _, _, _, _, _, _, _, _, _, _, _, _, _, _, _, _, _, _, _, _, _, _, _, _, _, _, _, _, _, _, _, _, _, _, _, _, _, _, _, _, _, _, _, _, _, _, _, _, _, _, _, _, _, _, rfl, ⟨HB6.out, .inr ⟨hne, rfl⟩, by omega, hown7.out, hbb, hC6.out⟩⟩, ?_⟩
          rw [hmu.out (by simp)]; unfold patMu; rw [show noW b _ = _ from SBox.noOf HB6.out, if_neg hne]; omega
      | @step _ _ x d _ h hb h1 kk rr =>
        have hpl := kk.placed h
        have hb2 := hpl.lt rfl
        have hb3 := hpl.le
        simp only [Rd.at_] at hb2 hb3
        clear hpl
        generalize hRR : (Rd.ok x d : Rd Cls) = RR at kk
        replace hRR := hid hRR
        cases kk with
        | full h6 =>
          obtain ⟨rfl, rfl⟩ : x = fullC ∧ d = k + 1 := by have := hRR.out; injection this with e1 e2; exact ⟨e1, e2⟩
          have h63 := hid (hasB_yes h h6)
          replace h6 := hid h6
          have hd2 : (((byteAt s k : Nat) : Int) == 34) = false := by rw [beq_eq_false_iff_ne]; omega
          have hn0 : ((n : Int) == 64) = false := by rw [beq_eq_false_iff_ne]; have := HO.out.1; omega
          have hn64 : n < 64 := by have := HO.out.1; omega
          replace hb := hid hb
          have he : decide ((s.size : Int) ≤ (k : Int)) = false := decide_eq_false (by omega)
          have hg := byteAt_eq h
          go_wp2_with fail
          refine (end_quiet b s k 0 _ HB.out (by omega)).mono ?_
          rintro e w' ⟨rfl, m, rfl⟩
          rw [he]
          go_wp2_with fail
          go_quiet (fail)
          go_wp2_with fail
          go_quiet (fail)
          go_wp2_with fail
          refine (has_any b s k 63 0 _ (Blk.drewN HB.out _) (by omega) (by omega) (by decide)).mono ?_
          rintro e w1 ⟨rfl, hB, hc⟩
          rw [h63.out]
          rw [h63.out] at hB
          have hC1 := hid ((hchg.drewN _).trans hc)
          have HO1 := hid (show POwn w1 w.heap.size A n c xs from ⟨HO.out.1, own_chg HO.out.2 (((Chg.refl _ _).drewN _).trans hc) (fun j hj => by have := own_of HO.out.2 j hj; unfold One; omega)⟩)
          have hs1 := hc.size
          replace hB : SBox w1 b s (k + 1 : Nat) 0 := hB
          have HB1 := hid hB
          clear hB hc
          go_wp2_with fail
          refine (classFullL _).mono ?_
          rintro e w2 ⟨rfl, hc⟩
          have HO2 := hid (own_chg HO1.out.2 hc (fun _ _ h => h))
          have HB2 := hid (HB1.out.chg hc id)
          have hC2 := hid (hC1.out.then hc (fun _ _ h => h.elim))
          have hs2 := hc.size
          clear hc
          go_wp2_with (at_builtin; (refine append_cells (w := w2) rfl _ _ 34 rfl w.heap.size 70 (.agg #[.int .u64 0, .int .u64 0, .int .u64 0, .int .u64 0]) 4 32 Try.underlying34 infoCl rfl (by decide) A c n _ rfl HO2.out (clsL fullC) (by first | rfl | (rw [World.size_alloc]; rfl)) rfl (clsL_one fullC) ?_ ?_ ?_ ?_))
          · omega
          · omega
          · have := hC2.out.size; omega
          intro A' c' w6 hown6 hc6 hA
          have oa := own_of HO2.out
          have HB6 := hid (HB2.out.chg hc6 (fun h => by have := oa _ h; omega))
          have hC6 := hid (hC2.out.then hc6 (fun i hi h => by have := oa _ h; omega))
          have hown7 := hid (show POwn w6 w.heap.size A' (n + 1) c' (xs ++ [fullC]) from ⟨by rw [List.length_append, HO.out.1]; rfl, by rw [List.flatMap_append]; simpa using hown6⟩)
          clear hown6 hc6 hA oa
          go_wp2
          go_step3
          refine ⟨rfl, ⟨k + 1, 0, xs ++ [fullC], A', n + 1, c', _, _, _, _, _, _, _, _, _, _, _, _, _, _, _, _, _, _, _, _, _, _, _, _, _, _, _, _, _, _, _, _, _, _, _, _, _, _, _, _, _, _, _, _, _, _, _, _, _, _, _, _, _, _, _, _, _, _, _, _, _, _, _, _, _, _, _, _, _, _, _, _, _, _, _, _, _, _, _, _, _, _, _, _, _, rfl, ⟨HB6.out, .inl ⟨rfl, rr, by omega⟩, by omega, hown7.out, hbb, hC6.out⟩⟩, ?_⟩
          rw [hmu.out (by simp)]; unfold patMu; rw [show noW b _ = _ from SBox.noOf HB6.out, show placeW b _ = _ from SBox.place HB6.out, if_pos rfl]; omega
        | @cls R0 h9 kk =>
          have hF := hid hRR.out.symm
          have h63 := hid (hasB_no (s := s) (k := k) (x := 63) (by omega))
          have h91 := hid (hasB_yes h h9)
          replace h9 := hid h9
          have hd2 : (((byteAt s k : Nat) : Int) == 34) = false := by rw [beq_eq_false_iff_ne]; omega
          have hn0 : ((n : Int) == 64) = false := by rw [beq_eq_false_iff_ne]; have := HO.out.1; omega
          have hn64 : n < 64 := by have := HO.out.1; omega
          replace hb := hid hb
          have he : decide ((s.size : Int) ≤ (k : Int)) = false := decide_eq_false (by omega)
          have hg := byteAt_eq h
          go_wp2_with fail
          refine (end_quiet b s k 0 _ HB.out (by omega)).mono ?_
          rintro e w' ⟨rfl, m, rfl⟩
          rw [he]
          go_wp2_with fail
          go_quiet (fail)
          go_wp2_with fail
          go_quiet (fail)
          go_wp2_with fail
          refine (has_any b s k 63 0 _ (Blk.drewN HB.out _) (by omega) (by omega) (by decide)).mono ?_
          rintro e w1 ⟨rfl, hB, hc⟩
          rw [h63.out]
          rw [h63.out] at hB
          have hC1 := hid ((hchg.drewN _).trans hc)
          have HO1 := hid (show POwn w1 w.heap.size A n c xs from ⟨HO.out.1, own_chg HO.out.2 (((Chg.refl _ _).drewN _).trans hc) (fun j hj => by have := own_of HO.out.2 j hj; unfold One; omega)⟩)
          have hs1 := hc.size
          replace hB : SBox w1 b s (k : Nat) 0 := hB
          have HB1 := hid hB
          clear hB hc
          go_wp2_with fail
          refine (has_any b s k 91 0 _ (HB1.out) (by omega) (by omega) (by decide)).mono ?_
          rintro e w2 ⟨rfl, hB, hc⟩
          rw [h91.out]
          rw [h91.out] at hB
          have hC2 := hid (hC1.out.trans hc)
          have HO2 := hid (show POwn w2 w.heap.size A n c xs from ⟨HO.out.1, own_chg HO1.out.2 (hc) (fun j hj => by have := own_of HO.out.2 j hj; unfold One; omega)⟩)
          have hs2 := hc.size
          replace hB : SBox w2 b s (k + 1 : Nat) 0 := hB
          have HB2 := hid hB
          clear hB hc
          go_wp2_with fail
          refine (class_any b s k R0 kk _ HB2.out hs h).mono ?_
          rintro e w3 ⟨x0, rfl, hx, hB, hc⟩
          have HF : finC (negS s k) k R0 = .ok x d := hF.out
          obtain rfl : x0 = x := hx x d HF
          have hC3 := hid (hC2.out.trans hc)
          have HO3 := hid (own_chg HO2.out.2 hc (fun j hj => by have := own_of HO2.out.2 j hj; unfold One; omega))
          have hs3 := hc.size
          have HB3 := hid (show SBox w3 b s (d : Nat) 0 from by rw [HF] at hB; exact hB)
          clear hc hB hx
          go_wp2_with (at_builtin; (refine append_cells (w := w3) rfl _ _ 34 rfl w.heap.size 70 (.agg #[.int .u64 0, .int .u64 0, .int .u64 0, .int .u64 0]) 4 32 Try.underlying34 infoCl rfl (by decide) A c n _ rfl HO3.out (clsL x0) (by first | rfl | (rw [World.size_alloc]; rfl)) rfl (clsL_one x0) ?_ ?_ ?_ ?_))
          · omega
          · omega
          · have := hC3.out.size; omega
          intro A' c' w6 hown6 hc6 hA
          have oa := own_of HO3.out
          have HB6 := hid (HB3.out.chg hc6 (fun h => by have := oa _ h; omega))
          have hC6 := hid (hC3.out.then hc6 (fun i hi h => by have := oa _ h; omega))
          have hown7 := hid (show POwn w6 w.heap.size A' (n + 1) c' (xs ++ [x0]) from ⟨by rw [List.length_append, HO.out.1]; rfl, by rw [List.flatMap_append]; simpa using hown6⟩)
          clear hown6 hc6 hA oa
          go_wp2
          go_step3
          refine ⟨rfl, ⟨d, 0, xs ++ [x0], A', n + 1, c', _, _, _, _, _, _, _, _, _, _, _, _, _, _, _, _, _, _, _, _, _, _, _, _, _, _, _, _, _, _, _, _, _, _, _, _, _, _, _, _, _, _, _, _, _, _, _, _, _, _, _, _, _, _, _, _, _, _, _, _, _, _, _, _, _, _, _, _, _, _, _, _, _, _, _, _, _, _, _, _, _, _, _, _, _, rfl, ⟨HB6.out, .inl ⟨rfl, rr, by omega⟩, by omega, hown7.out, hbb, hC6.out⟩⟩, ?_⟩
          rw [hmu.out (by simp)]; unfold patMu; rw [show noW b _ = _ from SBox.noOf HB6.out, show placeW b _ = _ from SBox.place HB6.out, if_pos rfl]; omega
        | byte h6 h9 =>
          have HF := hid (show ∃ v0, oneS ByteArray.empty 130 s k = .ok v0 d ∧ x = BitVec.twoPow 256 v0 from by
            have := hRR.out
            cases h0 : oneS ByteArray.empty 130 s k with
            | ok v n => rw [h0] at this; injection this with e1 e2; exact ⟨v, by rw [e2], e1⟩
            | bad q f => rw [h0] at this; cases this)
          obtain ⟨v0, hHF, rfl⟩ := HF.out
          clear HF
          have HF := hHF
          clear hHF
          have hv0 := (oneS_ok HF h).2.2
          replace HF := hid HF
          have h63 := hid (hasB_no (s := s) (k := k) (x := 63) h6)
          have h91 := hid (hasB_no (s := s) (k := k) (x := 91) h9)
          replace h6 := hid h6
          replace h9 := hid h9
          have hd2 : (((byteAt s k : Nat) : Int) == 34) = false := by rw [beq_eq_false_iff_ne]; omega
          have hn0 : ((n : Int) == 64) = false := by rw [beq_eq_false_iff_ne]; have := HO.out.1; omega
          have hn64 : n < 64 := by have := HO.out.1; omega
          replace hb := hid hb
          have he : decide ((s.size : Int) ≤ (k : Int)) = false := decide_eq_false (by omega)
          have hg := byteAt_eq h
          go_wp2_with fail
          refine (end_quiet b s k 0 _ HB.out (by omega)).mono ?_
          rintro e w' ⟨rfl, m, rfl⟩
          rw [he]
          go_wp2_with fail
          go_quiet (fail)
          go_wp2_with fail
          go_quiet (fail)
          go_wp2_with fail
          refine (has_any b s k 63 0 _ (Blk.drewN HB.out _) (by omega) (by omega) (by decide)).mono ?_
          rintro e w1 ⟨rfl, hB, hc⟩
          rw [h63.out]
          rw [h63.out] at hB
          have hC1 := hid ((hchg.drewN _).trans hc)
          have HO1 := hid (show POwn w1 w.heap.size A n c xs from ⟨HO.out.1, own_chg HO.out.2 (((Chg.refl _ _).drewN _).trans hc) (fun j hj => by have := own_of HO.out.2 j hj; unfold One; omega)⟩)
          have hs1 := hc.size
          replace hB : SBox w1 b s (k : Nat) 0 := hB
          have HB1 := hid hB
          clear hB hc
          go_wp2_with fail
          refine (has_any b s k 91 0 _ (HB1.out) (by omega) (by omega) (by decide)).mono ?_
          rintro e w2 ⟨rfl, hB, hc⟩
          rw [h91.out]
          rw [h91.out] at hB
          have hC2 := hid (hC1.out.trans hc)
          have HO2 := hid (show POwn w2 w.heap.size A n c xs from ⟨HO.out.1, own_chg HO1.out.2 (hc) (fun j hj => by have := own_of HO.out.2 j hj; unfold One; omega)⟩)
          have hs2 := hc.size
          replace hB : SBox w2 b s (k : Nat) 0 := hB
          have HB2 := hid hB
          clear hB hc
          go_wp2_with fail
          refine (one_any ByteArray.empty 130 b s k _ HB2.out hs h).mono ?_
          rintro e w3 ⟨rfl, hB, hc⟩
          rw [HF.out] at hB
          rw [HF.out]
          simp only [Rd.val]
          have hC3 := hid (hC2.out.trans hc)
          have HO3 := hid (own_chg HO2.out.2 hc (fun j hj => by have := own_of HO2.out.2 j hj; unfold One; omega))
          have hs3 := hc.size
          have HB3 := hid (show SBox w3 b s (d : Nat) 0 from hB)
          clear hc hB
          have hcl : ∀ i, i < 1 → (w3.alloc (.cells #[.int .u8 v0] 5)).cell? ⟨w3.heap.size, 0 + i, none⟩ = some (.int .u8 ([(v0 : Int)].getD i 0)) := by
            intro i hi
            obtain rfl : i = 0 := by omega
            exact (Blk.new w3 _ _).cell 0 rfl
          have hcv := run_convert_bytes_arg (P := Try.prog) _ _ _ Try.underlying111 Try.underlying5 _ 0 1 1 [(v0 : Int)] rfl hcl _ Try.underlying9
          clear hcl
          go_wp2_with fail
          refine (classOfL (strOfNums [(v0 : Int)]) _ (by rw [strOfNums_size]; show 1 ≤ 9223372036854775807; omega)).mono ?_
          rintro e w4 ⟨rfl, hc⟩
          rw [ofC_str v0 hv0]
          have HO4 := hid (own_chg HO3.out (((Chg.refl Nothing w3).alloc _).trans hc) (fun _ _ h => h))
          have HB4 := hid ((Blk.alloc HB3.out _).chg hc id)
          have hC4 := hid ((hC3.out.alloc _).then hc (fun _ _ h => h.elim))
          have hs4 := hc.size
          rw [World.size_alloc] at hs4
          clear hc hcv
          go_wp2_with (at_builtin; (refine append_cells (w := w4) rfl _ _ 34 rfl w.heap.size 70 (.agg #[.int .u64 0, .int .u64 0, .int .u64 0, .int .u64 0]) 4 32 Try.underlying34 infoCl rfl (by decide) A c n _ rfl HO4.out (clsL (BitVec.twoPow 256 v0)) (by first | rfl | (rw [World.size_alloc]; rfl)) rfl (clsL_one (BitVec.twoPow 256 v0)) ?_ ?_ ?_ ?_))
          · omega
          · omega
          · have := hC4.out.size; omega
          intro A' c' w6 hown6 hc6 hA
          have oa := own_of HO4.out
          have HB6 := hid (HB4.out.chg hc6 (fun h => by have := oa _ h; omega))
          have hC6 := hid (hC4.out.then hc6 (fun i hi h => by have := oa _ h; omega))
          have hown7 := hid (show POwn w6 w.heap.size A' (n + 1) c' (xs ++ [(BitVec.twoPow 256 v0)]) from ⟨by rw [List.length_append, HO.out.1]; rfl, by rw [List.flatMap_append]; simpa using hown6⟩)
          clear hown6 hc6 hA oa
          go_wp2
          go_step3
          refine ⟨rfl, ⟨d, 0, xs ++ [(BitVec.twoPow 256 v0)], A', n + 1, c', _, _, _, _, _, _, _, _, _, _, _, _, _, _, _, _, _, _, _, _, _, _, _, _, _, _, _, _, _, _, _, _, _, _, _, _, _, _, _, _, _, _, _, _, _, _, _, _, _, _, _, _, _, _, _, _, _, _, _, _, _, _, _, _, _, _, _, _, _, _, _, _, _, _, _, _, _, _, _, _, _, _, _, _, _, rfl, ⟨HB6.out, .inl ⟨rfl, rr, by omega⟩, by omega, hown7.out, hbb, hC6.out⟩⟩, ?_⟩
          rw [hmu.out (by simp)]; unfold patMu; rw [show noW b _ = _ from SBox.noOf HB6.out, show placeW b _ = _ from SBox.place HB6.out, if_pos rfl]; omega
    · -- something is amiss
      have hne1 : (no == 0) = false := beq_eq_false_iff_ne.2 hne
      have hne2 : (no != 0) = true := by rw [bne_iff_ne]; exact hne
      go_wp2
      try simp only [jumps]
      go_ret
      exact ⟨none, 0, 0, rfl, (fun ys nx h => by cases h), HB.out, hchg⟩
  · -- ahead of the label
    intro run
    have hrun' := hid run
    clear run
    go_wp2
    go_step3
    refine (‹∀ (a : Act) (w : World), Code.wp _ _ _ a w → _›) _ _ (hrun'.out _ _ ⟨a, 0, [], none, 0, 0, _, _, _, _, _, _, _, _, _, _, _, _, _, _, _, _, _, _, _, _, _, _, _, _, _, _, _, _, _, _, _, _, _, _, _, _, _, _, _, _, _, _, _, _, _, _, _, _, _, _, _, _, _, _, _, _, _, _, _, _, _, _, _, _, _, _, _, _, _, _, _, _, _, _, _, _, _, _, _, _, _, _, _, _, _, rfl, ⟨HH.out, .inl ⟨rfl, hR.out, by omega⟩, ha, ⟨rfl, World.ownsRow_nil _ _ _ _⟩, hlt, Chg.refl _ _⟩⟩)
end Go.Proofs.Ytllblpiakijpaaa

/- Layer 13: the program's scanner: token. -/
namespace Go.Proofs.Ytllblpiakijpaaa
open Go.RowKit
set_option linter.unusedVariables false
attribute [local go_sem ↓] Go.wp_at_zero Go.wp_at_succ
theorem infoTT : (Try.prog.info? 76).map (·.size) = some 4 := by kernel_rfl
def TokAns (R : Rd Tok) (s : ByteArray) (b : Nat) (w : World) (e : Ending) (w' : World) : Prop :=
  ∃ (kd at_ n : Int) (A : Option Addr) (l c : Nat), e = .returned (.agg #[.int .i64 kd, .int .i64 at_, .int .i64 n, .slice A l c]) ∧ (∀ t nx, R = .ok t nx → kd = t.kind ∧ at_ = t.at_ ∧ n = t.n ∧ PRead (fun k => w.heap.size + 2 ≤ k) w' ⟨t, A, l, c⟩) ∧ SBox w' b s R.at_ R.no ∧ Chg (One b) w w'
theorem PRead.nil (F : Nat → Prop) (w : World) (t : Tok) (h : t.p = []) : PRead F w ⟨t, none, 0, 0⟩ := ⟨by show RowAt 4 F w none 0 0 (t.p.flatMap clsL); rw [h]; exact RowAt.none _ _ _, by show t.p.length = 0; rw [h]; rfl⟩
theorem kindV_bd' : ∀ b : Fin 256, -1 ≤ kindV b.val ∧ kindV b.val ≤ 7 := by decide +kernel
theorem kindV_bd (b : Nat) (h : b < 256) : -1 ≤ kindV b ∧ kindV b ≤ 7 := kindV_bd' ⟨b, h⟩
theorem sgn_any (b : Nat) (w : World) : Calls Try.prog 69 #[.string ⟨#[40, 41, 38, 124, 33, 62, 126]⟩, .int .u8 b] w fun e w' => e = .returned (.int .i64 (idxV signSet b)) ∧ w' = w := idx_any signSet b w
set_option maxHeartbeats 16000000 in
set_option maxRecDepth 100000 in
theorem token_any (b : Nat) (s : ByteArray) (a : Nat) (R : Rd Tok) (hR : TokRd s a R) (w : World) (H : SBox w b s a 0) (hs : s.size ≤ 9223372036854775000) (ha : a < s.size) :
    Calls Try.prog 49 #[.pointer (some ⟨b, 0, none⟩)] w (TokAns R s b w) := by
  obtain ⟨r0, r1, r2, f0, f1, f2, hlt⟩ := H.at_
  have HT0 := hid ((Blk.new w #[.int .i64 0, .int .i64 0, .int .i64 0, .slice none 0 0] 76).alloc (.cells #[.int .i64 0, .int .i64 a, .int .i64 0, .slice none 0 0] 76))
  have HU0 := hid (Blk.new2 w (.cells #[.int .i64 0, .int .i64 0, .int .i64 0, .slice none 0 0] 76) #[.int .i64 0, .int .i64 a, .int .i64 0, .slice none 0 0] 76)
  have HB0 := hid ((Blk.alloc (Blk.alloc H (.cells #[.int .i64 0, .int .i64 0, .int .i64 0, .slice none 0 0] 76)) (.cells #[.int .i64 0, .int .i64 a, .int .i64 0, .slice none 0 0] 76)))
  have hC0 := hid (((Chg.refl (One b) w).alloc (.cells #[.int .i64 0, .int .i64 0, .int .i64 0, .slice none 0 0] 76)).alloc (.cells #[.int .i64 0, .int .i64 a, .int .i64 0, .slice none 0 0] 76))
  clear H
  have hlt1 := byteAt_lt s a
  cases hR with
  | @pat R0 h k =>
    have h34 := hid (hasB_yes ha h)
    replace h := hid h
    go_enter Try.func49, Try.ntmps49
    go_wp2_with fail
    refine (has_any b s a 34 0 _ HB0.out (by omega) (by omega) (by decide)).mono ?_
    rintro e w1 ⟨rfl, hB, hc⟩
    rw [h34.out]
    rw [h34.out] at hB
    have hC1 := hid (hC0.out.trans hc)
    have HT1 := hid (HT0.out.chg hc (by unfold One; omega))
    have HU1 := hid (HU0.out.chg hc (by unfold One; omega))
    have hs1 := hc.size
    simp only [World.size_alloc] at hs1
    replace hB : SBox w1 b s (a + 1 : Nat) 0 := hB
    have HB1 := hid hB
    clear hB hc HT0 HU0 HB0 hC0 r0 r1 r2 f0 f1 f2
    go_wp2_with fail
    refine (pattern_any b s (a + 1) R0 k _ HB1.out hs (by omega)).mono ?_
    rintro e w2 ⟨A, l, c, rfl, hx, hB, hc⟩
    have HB2 := hid hB
    have hC2 := hid (hC1.out.trans hc)
    have HT2 := hid (HT1.out.chg hc (by unfold One; omega))
    have HU2 := hid (HU1.out.chg hc (by unfold One; omega))
    have hs2 := hc.size
    have hx2 := hid hx
    clear hB hc hx HT1 HU1 HB1
    obtain ⟨t0, t1, t2, t3, u0, u1, u2, u3, hlu⟩ := HU2.out.four
    have q0 : (⟨w.heap.size + 1, 0, none⟩ : Addr).block ≠ w.heap.size := by dsimp only; omega
    have q3 : (⟨w.heap.size + 1, 3, none⟩ : Addr).block ≠ w.heap.size := by dsimp only; omega
    have p0 : (⟨w.heap.size + 1, 0, none⟩ : Addr).block ≠ b := by dsimp only; omega
    have p3 : (⟨w.heap.size + 1, 3, none⟩ : Addr).block ≠ b := by dsimp only; omega
    have HT3 := hid (Blk.other (Blk.other HT2.out q0 (.int .i64 8)) q3 (.slice A l c))
    have HB3 := hid (Blk.other (Blk.other HB2.out p0 (.int .i64 8)) p3 (.slice A l c))
    have hC3 := hid ((hC2.out.setNew (Nat.le_succ _) 0 (.int .i64 8)).setNew (Nat.le_succ _) 3 (.slice A l c))
    have hch := hid (((Chg.refl (One (w.heap.size + 1)) w2).setOne 0 (.int .i64 8)).setOne 3 (.slice A l c))
    clear q0 q3 p0 p3 HT2 HB2 hC2
    go_wp2_with (with_reducible refine halt_op (.store 76 (.tmp 2) (.tmp 15)) ?_)
    unfold Halted
    refine store_blk rfl 76 (.tmp 2) (.tmp 15) (by rfl) _ (by rfl) _ (by rfl) HT3.out (by rfl) (by exact infoTT) (by rfl) ?_
    intro wz HR hr
    go_wp2
    exact bodyPost_ret (results_cell_row Try.results49 _ _ _ _ _ _ _ (by rfl) HR Try.underlying76 rfl (by exact infoTT)) rfl ⟨8, a, 0, A, l, c, rfl, (fun t nx h => by
      cases hR0 : R0 with
      | bad p e => rw [hR0] at h; cases h
      | ok ys n =>
        rw [hR0] at h; injection h with h1 h2; subst h1
        have HP := hx2.out ys n hR0
        refine ⟨rfl, rfl, rfl, ⟨?_, HP.1⟩⟩
        have r1 := (RowAt.of_own HP.2).mono (G := fun k => w.heap.size + 2 ≤ k) (fun k hk hF => by have := hF.2; omega)
        have r2 := r1.chg hch.out (fun k hk hF => by unfold One; omega)
        exact r2.chg hr (fun k hk hF => by unfold One; omega)), Blk.chg (by rw [Rd.map_at, Rd.map_no]; exact HB3.out) hr (by unfold One; omega), hC3.out.then hr (fun i hi hk => absurd hk (by unfold One; omega))⟩
  | none h h1 =>
    have h34 := hid (hasB_no (s := s) (k := a) h)
    have KB : Hid (-1 ≤ kindV (byteAt s a) ∧ kindV (byteAt s a) ≤ 7) := hid (kindV_bd _ (byteAt_lt s a))
    have hk1 : idxV signSet (byteAt s a) + 1 < 1 := h1
    replace h := hid h
    go_enter Try.func49, Try.ntmps49
    go_wp2_with fail
    refine (has_any b s a 34 0 _ HB0.out (by omega) (by omega) (by decide)).mono ?_
    rintro e w1 ⟨rfl, hB, hc⟩
    rw [h34.out]
    rw [h34.out] at hB
    have hC1 := hid (hC0.out.trans hc)
    have HT1 := hid (HT0.out.chg hc (by unfold One; omega))
    have HU1 := hid (HU0.out.chg hc (by unfold One; omega))
    have hs1 := hc.size
    simp only [World.size_alloc] at hs1
    replace hB : SBox w1 b s (a : Nat) 0 := hB
    have HB1 := hid hB
    clear hB hc HT0 HU0 HB0 hC0 r0 r1 r2 f0 f1 f2
    obtain ⟨r0, r1, r2, f0, f1, f2, hlb⟩ := SBox.at_ HB1.out
    obtain ⟨t0, t1, t2, t3, u0, u1, u2, u3, hlu⟩ := HU1.out.four
    have hg := byteAt_eq ha
    have hbu : b ≠ w.heap.size + 1 := by omega
    have hbu' : w.heap.size + 1 ≠ b := by omega
    have kz := IntWalk.i64_in (idxV signSet (byteAt s a) + 1) (by have := KB.out; unfold kindV at this; omega)
    go_wp2_with fail
    go_region_with (first | (go_at_call 69; (with_reducible refine (sgn_any _ _).mono ?_); rintro e w3 ⟨rfl, rfl⟩))
    all_goals
      have q0 : (⟨w.heap.size + 1, 0, none⟩ : Addr).block ≠ w.heap.size := by dsimp only; omega
      have p0 : (⟨w.heap.size + 1, 0, none⟩ : Addr).block ≠ b := by dsimp only; omega
      have HT3 := hid (Blk.drew (Blk.other HT1.out q0 (.int .i64 (idxV signSet (byteAt s a) + 1))))
      have HB3 := hid (show SBox (w1.setCell ⟨w.heap.size + 1, 0, none⟩ (.int .i64 (idxV signSet (byteAt s a) + 1))).drew b s (a : Nat) 0 from Blk.drew (Blk.other HB1.out p0 (.int .i64 (idxV signSet (byteAt s a) + 1))))
      have HU3 := hid (show Blk (w1.setCell ⟨w.heap.size + 1, 0, none⟩ (.int .i64 (idxV signSet (byteAt s a) + 1))).drew (w.heap.size + 1) #[.int .i64 (idxV signSet (byteAt s a) + 1), .int .i64 a, .int .i64 0, .slice none 0 0] 76 from Blk.drew (Blk.set HU1.out 0 (.int .i64 (idxV signSet (byteAt s a) + 1))))
      have hC3 := hid ((hC1.out.setNew (Nat.le_succ _) 0 (.int .i64 (idxV signSet (byteAt s a) + 1))).drew)
      clear q0 p0 HT1 HB1 HU1 hC1 t0 t1 t2 t3 u0 u1 u2 u3 r0 r1 r2 f0 f1 f2 hlb hlu
      go_wp2_with (with_reducible refine halt_op (.fieldAddr 76 (.tmp 3) 0) ?_)
      unfold Halted
      refine wpList_forget (fun W => SBox W b s (a : Nat) 0 ∧ Blk W w.heap.size #[.int .i64 0, .int .i64 0, .int .i64 0, .slice none 0 0] 76 ∧ Blk W (w.heap.size + 1) #[.int .i64 (idxV signSet (byteAt s a) + 1), .int .i64 a, .int .i64 0, .slice none 0 0] 76 ∧ Chg (One b) w W) ⟨HB3.out, HT3.out, HU3.out, hC3.out⟩ ?_
      clear HB3 HT3 HU3 hC3
      rintro W ⟨HB3, HT3, HU3, hC3⟩
      obtain ⟨r0, r1, r2, f0, f1, f2, hlb⟩ := SBox.at_ HB3
      obtain ⟨t0, t1, t2, t3, u0, u1, u2, u3, hlu⟩ := HU3.four
      replace HB3 := hid HB3
      replace HT3 := hid HT3
      replace HU3 := hid HU3
      replace hC3 := hid hC3
      go_wp2_with fail
      refine (fails_any b s a 0 a 130 _ HB3.out).mono ?_
      rintro e w7 ⟨rfl, hB, hc⟩
      have HB7 := hid hB
      have hC7 := hid (hC3.out.trans hc)
      have HT7 := hid (HT3.out.chg hc (by unfold One; omega))
      have HU7 := hid (HU3.out.chg hc (by unfold One; omega))
      have hs7 := hc.size
      clear hB hc HB3 HT3 HU3 hC3 r0 r1 r2 f0 f1 f2 hlb t0 t1 t2 t3 u0 u1 u2 u3 hlu
      obtain ⟨t0, t1, t2, t3, u0, u1, u2, u3, hlu⟩ := HU7.out.four
      go_wp2_with (with_reducible refine halt_op (.store 76 (.tmp 2) (.tmp 37)) ?_)
      unfold Halted
      refine store_blk rfl 76 (.tmp 2) (.tmp 37) (by rfl) _ (by rfl) _ (by rfl) HT7.out (by rfl) (by exact infoTT) (by rfl) ?_
      intro wz HR hr
      go_wp2
      exact bodyPost_ret (results_cell_row Try.results49 _ _ _ _ _ _ _ (by rfl) HR Try.underlying76 rfl (by exact infoTT)) rfl ⟨idxV signSet (byteAt s a) + 1, a, 0, none, 0, 0, rfl, (fun t nx h => by cases h), Blk.chg HB7.out hr (by unfold One; omega), hC7.out.then hr (fun i hi hk => absurd hk (by unfold One; omega))⟩
  | @sign k h h1 h2 h3 =>
    have h34 := hid (hasB_no (s := s) (k := a) h)
    have KB : Hid (-1 ≤ kindV (byteAt s a) ∧ kindV (byteAt s a) ≤ 7) := hid (kindV_bd _ (byteAt_lt s a))
    have hkk := hid (show idxV signSet (byteAt s a) + 1 = (k : Int) from h1)
    have hk1 : ¬ (idxV signSet (byteAt s a) + 1 < 1) := by have := hkk.out; omega
    have hk6 : ((idxV signSet (byteAt s a) + 1) == 6) = false := by rw [beq_eq_false_iff_ne]; have := hkk.out; omega
    have hk7 : ((idxV signSet (byteAt s a) + 1) == 7) = false := by rw [beq_eq_false_iff_ne]; have := hkk.out; omega
    replace h := hid h
    replace h1 := hid h1
    go_enter Try.func49, Try.ntmps49
    go_wp2_with fail
    refine (has_any b s a 34 0 _ HB0.out (by omega) (by omega) (by decide)).mono ?_
    rintro e w1 ⟨rfl, hB, hc⟩
    rw [h34.out]
    rw [h34.out] at hB
    have hC1 := hid (hC0.out.trans hc)
    have HT1 := hid (HT0.out.chg hc (by unfold One; omega))
    have HU1 := hid (HU0.out.chg hc (by unfold One; omega))
    have hs1 := hc.size
    simp only [World.size_alloc] at hs1
    replace hB : SBox w1 b s (a : Nat) 0 := hB
    have HB1 := hid hB
    clear hB hc HT0 HU0 HB0 hC0 r0 r1 r2 f0 f1 f2
    obtain ⟨r0, r1, r2, f0, f1, f2, hlb⟩ := SBox.at_ HB1.out
    obtain ⟨t0, t1, t2, t3, u0, u1, u2, u3, hlu⟩ := HU1.out.four
    have hg := byteAt_eq ha
    have hbu : b ≠ w.heap.size + 1 := by omega
    have hbu' : w.heap.size + 1 ≠ b := by omega
    have kz := IntWalk.i64_in (idxV signSet (byteAt s a) + 1) (by have := KB.out; unfold kindV at this; omega)
    go_wp2_with fail
    go_region_with (first | (go_at_call 69; (with_reducible refine (sgn_any _ _).mono ?_); rintro e w3 ⟨rfl, rfl⟩))
    all_goals
      have q0 : (⟨w.heap.size + 1, 0, none⟩ : Addr).block ≠ w.heap.size := by dsimp only; omega
      have p0 : (⟨w.heap.size + 1, 0, none⟩ : Addr).block ≠ b := by dsimp only; omega
      have HT3 := hid (Blk.drew (Blk.other HT1.out q0 (.int .i64 (idxV signSet (byteAt s a) + 1))))
      have HB3 := hid (show SBox (w1.setCell ⟨w.heap.size + 1, 0, none⟩ (.int .i64 (idxV signSet (byteAt s a) + 1))).drew b s (a : Nat) 0 from Blk.drew (Blk.other HB1.out p0 (.int .i64 (idxV signSet (byteAt s a) + 1))))
      have HU3 := hid (show Blk (w1.setCell ⟨w.heap.size + 1, 0, none⟩ (.int .i64 (idxV signSet (byteAt s a) + 1))).drew (w.heap.size + 1) #[.int .i64 (idxV signSet (byteAt s a) + 1), .int .i64 a, .int .i64 0, .slice none 0 0] 76 from Blk.drew (Blk.set HU1.out 0 (.int .i64 (idxV signSet (byteAt s a) + 1))))
      have hC3 := hid ((hC1.out.setNew (Nat.le_succ _) 0 (.int .i64 (idxV signSet (byteAt s a) + 1))).drew)
      clear q0 p0 HT1 HB1 HU1 hC1 t0 t1 t2 t3 u0 u1 u2 u3 r0 r1 r2 f0 f1 f2 hlb hlu
      go_wp2_with (with_reducible refine halt_op (.fieldAddr 76 (.tmp 3) 0) ?_)
      unfold Halted
      refine wpList_forget (fun W => SBox W b s (a : Nat) 0 ∧ Blk W w.heap.size #[.int .i64 0, .int .i64 0, .int .i64 0, .slice none 0 0] 76 ∧ Blk W (w.heap.size + 1) #[.int .i64 (idxV signSet (byteAt s a) + 1), .int .i64 a, .int .i64 0, .slice none 0 0] 76 ∧ Chg (One b) w W) ⟨HB3.out, HT3.out, HU3.out, hC3.out⟩ ?_
      clear HB3 HT3 HU3 hC3
      rintro W ⟨HB3, HT3, HU3, hC3⟩
      obtain ⟨r0, r1, r2, f0, f1, f2, hlb⟩ := SBox.at_ HB3
      obtain ⟨t0, t1, t2, t3, u0, u1, u2, u3, hlu⟩ := HU3.four
      replace HB3 := hid HB3
      replace HT3 := hid HT3
      replace HU3 := hid HU3
      replace hC3 := hid hC3
      have HB4 := hid (show SBox (W.setCell ⟨b, 1, none⟩ (.int .i64 ((a : Int) + 1))) b s (a + 1 : Nat) 0 from HB3.out.putAt _)
      have hbt : (⟨b, 1, none⟩ : Addr).block ≠ w.heap.size := by dsimp only; omega
      have hbv : (⟨b, 1, none⟩ : Addr).block ≠ w.heap.size + 1 := by dsimp only; omega
      have HT4 := hid (Blk.other HT3.out hbt (.int .i64 ((a : Int) + 1)))
      have HU4 := hid (Blk.other HU3.out hbv (.int .i64 ((a : Int) + 1)))
      have hC4 := hid (hC3.out.setOne 1 (.int .i64 ((a : Int) + 1)))
      clear hbt hbv
      go_wp2_with (with_reducible refine halt_op (.store 76 (.tmp 2) (.tmp 56)) ?_)
      unfold Halted
      refine store_blk rfl 76 (.tmp 2) (.tmp 56) (by rfl) _ (by rfl) _ (by rfl) HT4.out (by rfl) (by exact infoTT) (by rfl) ?_
      intro wz HR hr
      go_wp2
      exact bodyPost_ret (results_cell_row Try.results49 _ _ _ _ _ _ _ (by rfl) HR Try.underlying76 rfl (by exact infoTT)) rfl ⟨idxV signSet (byteAt s a) + 1, a, 0, none, 0, 0, rfl, (fun t nx h => by injection h with h1 h2; subst h1; exact ⟨hkk.out, rfl, rfl, PRead.nil _ _ _ rfl⟩), Blk.chg HB4.out hr (by unfold One; omega), hC4.out.then hr (fun i hi hk => absurd hk (by unfold One; omega))⟩
  | @num k m h h1 h2 h3 =>
    have h34 := hid (hasB_no (s := s) (k := a) h)
    have KB : Hid (-1 ≤ kindV (byteAt s a) ∧ kindV (byteAt s a) ≤ 7) := hid (kindV_bd _ (byteAt_lt s a))
    have hkk := hid (show idxV signSet (byteAt s a) + 1 = (k : Int) from h1)
    have hk1 : ¬ (idxV signSet (byteAt s a) + 1 < 1) := by have := hkk.out; omega
    have hk67 : k = 6 ∨ k = 7 := by have := KB.out; rw [h1] at this; omega
    replace h := hid h
    replace h1 := hid h1
    rcases hk67 with hk6' | hk6'
    · have hk6 : ((idxV signSet (byteAt s a) + 1) == 6) = true := beq_iff_eq.2 (by have := hkk.out; omega)
      replace hk6' := hid hk6'
      go_enter Try.func49, Try.ntmps49
      go_wp2_with fail
      refine (has_any b s a 34 0 _ HB0.out (by omega) (by omega) (by decide)).mono ?_
      rintro e w1 ⟨rfl, hB, hc⟩
      rw [h34.out]
      rw [h34.out] at hB
      have hC1 := hid (hC0.out.trans hc)
      have HT1 := hid (HT0.out.chg hc (by unfold One; omega))
      have HU1 := hid (HU0.out.chg hc (by unfold One; omega))
      have hs1 := hc.size
      simp only [World.size_alloc] at hs1
      replace hB : SBox w1 b s (a : Nat) 0 := hB
      have HB1 := hid hB
      clear hB hc HT0 HU0 HB0 hC0 r0 r1 r2 f0 f1 f2
      obtain ⟨r0, r1, r2, f0, f1, f2, hlb⟩ := SBox.at_ HB1.out
      obtain ⟨t0, t1, t2, t3, u0, u1, u2, u3, hlu⟩ := HU1.out.four
      have hg := byteAt_eq ha
      have hbu : b ≠ w.heap.size + 1 := by omega
      have hbu' : w.heap.size + 1 ≠ b := by omega
      have kz := IntWalk.i64_in (idxV signSet (byteAt s a) + 1) (by have := KB.out; unfold kindV at this; omega)
      go_wp2_with fail
      go_region_with (first | (go_at_call 69; (with_reducible refine (sgn_any _ _).mono ?_); rintro e w3 ⟨rfl, rfl⟩))
      all_goals
        have q0 : (⟨w.heap.size + 1, 0, none⟩ : Addr).block ≠ w.heap.size := by dsimp only; omega
        have p0 : (⟨w.heap.size + 1, 0, none⟩ : Addr).block ≠ b := by dsimp only; omega
        have HT3 := hid (Blk.drew (Blk.other HT1.out q0 (.int .i64 (idxV signSet (byteAt s a) + 1))))
        have HB3 := hid (show SBox (w1.setCell ⟨w.heap.size + 1, 0, none⟩ (.int .i64 (idxV signSet (byteAt s a) + 1))).drew b s (a : Nat) 0 from Blk.drew (Blk.other HB1.out p0 (.int .i64 (idxV signSet (byteAt s a) + 1))))
        have HU3 := hid (show Blk (w1.setCell ⟨w.heap.size + 1, 0, none⟩ (.int .i64 (idxV signSet (byteAt s a) + 1))).drew (w.heap.size + 1) #[.int .i64 (idxV signSet (byteAt s a) + 1), .int .i64 a, .int .i64 0, .slice none 0 0] 76 from Blk.drew (Blk.set HU1.out 0 (.int .i64 (idxV signSet (byteAt s a) + 1))))
        have hC3 := hid ((hC1.out.setNew (Nat.le_succ _) 0 (.int .i64 (idxV signSet (byteAt s a) + 1))).drew)
        clear q0 p0 HT1 HB1 HU1 hC1 t0 t1 t2 t3 u0 u1 u2 u3 r0 r1 r2 f0 f1 f2 hlb hlu
        go_wp2_with (with_reducible refine halt_op (.fieldAddr 76 (.tmp 3) 0) ?_)
        unfold Halted
        refine wpList_forget (fun W => SBox W b s (a : Nat) 0 ∧ Blk W w.heap.size #[.int .i64 0, .int .i64 0, .int .i64 0, .slice none 0 0] 76 ∧ Blk W (w.heap.size + 1) #[.int .i64 (idxV signSet (byteAt s a) + 1), .int .i64 a, .int .i64 0, .slice none 0 0] 76 ∧ Chg (One b) w W) ⟨HB3.out, HT3.out, HU3.out, hC3.out⟩ ?_
        clear HB3 HT3 HU3 hC3
        rintro W ⟨HB3, HT3, HU3, hC3⟩
        obtain ⟨r0, r1, r2, f0, f1, f2, hlb⟩ := SBox.at_ HB3
        obtain ⟨t0, t1, t2, t3, u0, u1, u2, u3, hlu⟩ := HU3.four
        replace HB3 := hid HB3
        replace HT3 := hid HT3
        replace HU3 := hid HU3
        replace hC3 := hid hC3
        have HB4 := hid (show SBox (W.setCell ⟨b, 1, none⟩ (.int .i64 ((a : Int) + 1))) b s (a + 1 : Nat) 0 from HB3.out.putAt _)
        have hbt : (⟨b, 1, none⟩ : Addr).block ≠ w.heap.size := by dsimp only; omega
        have hbv : (⟨b, 1, none⟩ : Addr).block ≠ w.heap.size + 1 := by dsimp only; omega
        have HT4 := hid (Blk.other HT3.out hbt (.int .i64 ((a : Int) + 1)))
        have HU4 := hid (Blk.other HU3.out hbv (.int .i64 ((a : Int) + 1)))
        have hC4 := hid (hC3.out.setOne 1 (.int .i64 ((a : Int) + 1)))
        clear hbt hbv
        go_wp2_with fail
        refine (number_any b s (a + 1) m _ HB4.out hs (by omega) h3).mono ?_
        rintro e w7 ⟨v, rfl, hv, hB, hc⟩
        have hv7 := hid hv
        have HB7 := hid hB
        have hC7 := hid (hC4.out.trans hc)
        have HT7 := hid (HT4.out.chg hc (by unfold One; omega))
        have HU7 := hid (HU4.out.chg hc (by unfold One; omega))
        have hs7 := hc.size
        clear hB hc hv HB3 HT3 HU3 hC3 HB4 HT4 HU4 hC4 r0 r1 r2 f0 f1 f2 hlb t0 t1 t2 t3 u0 u1 u2 u3 hlu
        obtain ⟨t0, t1, t2, t3, u0, u1, u2, u3, hlu⟩ := HU7.out.four
        have q2 : (⟨w.heap.size + 1, 2, none⟩ : Addr).block ≠ w.heap.size := by dsimp only; omega
        have p2 : (⟨w.heap.size + 1, 2, none⟩ : Addr).block ≠ b := by dsimp only; omega
        have HT8 := hid (Blk.other HT7.out q2 (.int .i64 v))
        have HB8 := hid (Blk.other HB7.out p2 (.int .i64 v))
        have hC8 := hid (hC7.out.setNew (Nat.le_succ _) 2 (.int .i64 v))
        clear q2 p2
        go_wp2_with (with_reducible refine halt_op (.store 76 (.tmp 2) (.tmp 56)) ?_)
        unfold Halted
        refine store_blk rfl 76 (.tmp 2) (.tmp 56) (by rfl) _ (by rfl) _ (by rfl) HT8.out (by rfl) (by exact infoTT) (by rfl) ?_
        intro wz HR hr
        go_wp2
        exact bodyPost_ret (results_cell_row Try.results49 _ _ _ _ _ _ _ (by rfl) HR Try.underlying76 rfl (by exact infoTT)) rfl ⟨idxV signSet (byteAt s a) + 1, a, v, none, 0, 0, rfl, (fun t nx h => by
          cases hR0 : numS s (a + 1) m with
          | bad p e => rw [hR0] at h; cases h
          | ok ys n => rw [hR0] at h; injection h with h1 h2; subst h1; exact ⟨hkk.out, rfl, hv7.out ys n hR0, PRead.nil _ _ _ rfl⟩), Blk.chg (by rw [Rd.map_at, Rd.map_no]; exact HB8.out) hr (by unfold One; omega), hC8.out.then hr (fun i hi hk => absurd hk (by unfold One; omega))⟩
    · have hk6 : ((idxV signSet (byteAt s a) + 1) == 6) = false := by rw [beq_eq_false_iff_ne]; have := hkk.out; omega
      have hk7 : ((idxV signSet (byteAt s a) + 1) == 7) = true := beq_iff_eq.2 (by have := hkk.out; omega)
      replace hk6' := hid hk6'
      go_enter Try.func49, Try.ntmps49
      go_wp2_with fail
      refine (has_any b s a 34 0 _ HB0.out (by omega) (by omega) (by decide)).mono ?_
      rintro e w1 ⟨rfl, hB, hc⟩
      rw [h34.out]
      rw [h34.out] at hB
      have hC1 := hid (hC0.out.trans hc)
      have HT1 := hid (HT0.out.chg hc (by unfold One; omega))
      have HU1 := hid (HU0.out.chg hc (by unfold One; omega))
      have hs1 := hc.size
      simp only [World.size_alloc] at hs1
      replace hB : SBox w1 b s (a : Nat) 0 := hB
      have HB1 := hid hB
      clear hB hc HT0 HU0 HB0 hC0 r0 r1 r2 f0 f1 f2
      obtain ⟨r0, r1, r2, f0, f1, f2, hlb⟩ := SBox.at_ HB1.out
      obtain ⟨t0, t1, t2, t3, u0, u1, u2, u3, hlu⟩ := HU1.out.four
      have hg := byteAt_eq ha
      have hbu : b ≠ w.heap.size + 1 := by omega
      have hbu' : w.heap.size + 1 ≠ b := by omega
      have kz := IntWalk.i64_in (idxV signSet (byteAt s a) + 1) (by have := KB.out; unfold kindV at this; omega)
      go_wp2_with fail
      go_region_with (first | (go_at_call 69; (with_reducible refine (sgn_any _ _).mono ?_); rintro e w3 ⟨rfl, rfl⟩))
      all_goals
        have q0 : (⟨w.heap.size + 1, 0, none⟩ : Addr).block ≠ w.heap.size := by dsimp only; omega
        have p0 : (⟨w.heap.size + 1, 0, none⟩ : Addr).block ≠ b := by dsimp only; omega
        have HT3 := hid (Blk.drew (Blk.other HT1.out q0 (.int .i64 (idxV signSet (byteAt s a) + 1))))
        have HB3 := hid (show SBox (w1.setCell ⟨w.heap.size + 1, 0, none⟩ (.int .i64 (idxV signSet (byteAt s a) + 1))).drew b s (a : Nat) 0 from Blk.drew (Blk.other HB1.out p0 (.int .i64 (idxV signSet (byteAt s a) + 1))))
        have HU3 := hid (show Blk (w1.setCell ⟨w.heap.size + 1, 0, none⟩ (.int .i64 (idxV signSet (byteAt s a) + 1))).drew (w.heap.size + 1) #[.int .i64 (idxV signSet (byteAt s a) + 1), .int .i64 a, .int .i64 0, .slice none 0 0] 76 from Blk.drew (Blk.set HU1.out 0 (.int .i64 (idxV signSet (byteAt s a) + 1))))
        have hC3 := hid ((hC1.out.setNew (Nat.le_succ _) 0 (.int .i64 (idxV signSet (byteAt s a) + 1))).drew)
        clear q0 p0 HT1 HB1 HU1 hC1 t0 t1 t2 t3 u0 u1 u2 u3 r0 r1 r2 f0 f1 f2 hlb hlu
        go_wp2_with (with_reducible refine halt_op (.fieldAddr 76 (.tmp 3) 0) ?_)
        unfold Halted
        refine wpList_forget (fun W => SBox W b s (a : Nat) 0 ∧ Blk W w.heap.size #[.int .i64 0, .int .i64 0, .int .i64 0, .slice none 0 0] 76 ∧ Blk W (w.heap.size + 1) #[.int .i64 (idxV signSet (byteAt s a) + 1), .int .i64 a, .int .i64 0, .slice none 0 0] 76 ∧ Chg (One b) w W) ⟨HB3.out, HT3.out, HU3.out, hC3.out⟩ ?_
        clear HB3 HT3 HU3 hC3
        rintro W ⟨HB3, HT3, HU3, hC3⟩
        obtain ⟨r0, r1, r2, f0, f1, f2, hlb⟩ := SBox.at_ HB3
        obtain ⟨t0, t1, t2, t3, u0, u1, u2, u3, hlu⟩ := HU3.four
        replace HB3 := hid HB3
        replace HT3 := hid HT3
        replace HU3 := hid HU3
        replace hC3 := hid hC3
        have HB4 := hid (show SBox (W.setCell ⟨b, 1, none⟩ (.int .i64 ((a : Int) + 1))) b s (a + 1 : Nat) 0 from HB3.out.putAt _)
        have hbt : (⟨b, 1, none⟩ : Addr).block ≠ w.heap.size := by dsimp only; omega
        have hbv : (⟨b, 1, none⟩ : Addr).block ≠ w.heap.size + 1 := by dsimp only; omega
        have HT4 := hid (Blk.other HT3.out hbt (.int .i64 ((a : Int) + 1)))
        have HU4 := hid (Blk.other HU3.out hbv (.int .i64 ((a : Int) + 1)))
        have hC4 := hid (hC3.out.setOne 1 (.int .i64 ((a : Int) + 1)))
        clear hbt hbv
        go_wp2_with fail
        refine (number_any b s (a + 1) m _ HB4.out hs (by omega) h3).mono ?_
        rintro e w7 ⟨v, rfl, hv, hB, hc⟩
        have hv7 := hid hv
        have HB7 := hid hB
        have hC7 := hid (hC4.out.trans hc)
        have HT7 := hid (HT4.out.chg hc (by unfold One; omega))
        have HU7 := hid (HU4.out.chg hc (by unfold One; omega))
        have hs7 := hc.size
        clear hB hc hv HB3 HT3 HU3 hC3 HB4 HT4 HU4 hC4 r0 r1 r2 f0 f1 f2 hlb t0 t1 t2 t3 u0 u1 u2 u3 hlu
        obtain ⟨t0, t1, t2, t3, u0, u1, u2, u3, hlu⟩ := HU7.out.four
        have q2 : (⟨w.heap.size + 1, 2, none⟩ : Addr).block ≠ w.heap.size := by dsimp only; omega
        have p2 : (⟨w.heap.size + 1, 2, none⟩ : Addr).block ≠ b := by dsimp only; omega
        have HT8 := hid (Blk.other HT7.out q2 (.int .i64 v))
        have HB8 := hid (Blk.other HB7.out p2 (.int .i64 v))
        have hC8 := hid (hC7.out.setNew (Nat.le_succ _) 2 (.int .i64 v))
        clear q2 p2
        go_wp2_with (with_reducible refine halt_op (.store 76 (.tmp 2) (.tmp 56)) ?_)
        unfold Halted
        refine store_blk rfl 76 (.tmp 2) (.tmp 56) (by rfl) _ (by rfl) _ (by rfl) HT8.out (by rfl) (by exact infoTT) (by rfl) ?_
        intro wz HR hr
        go_wp2
        exact bodyPost_ret (results_cell_row Try.results49 _ _ _ _ _ _ _ (by rfl) HR Try.underlying76 rfl (by exact infoTT)) rfl ⟨idxV signSet (byteAt s a) + 1, a, v, none, 0, 0, rfl, (fun t nx h => by
          cases hR0 : numS s (a + 1) m with
          | bad p e => rw [hR0] at h; cases h
          | ok ys n => rw [hR0] at h; injection h with h1 h2; subst h1; exact ⟨hkk.out, rfl, hv7.out ys n hR0, PRead.nil _ _ _ rfl⟩), Blk.chg (by rw [Rd.map_at, Rd.map_no]; exact HB8.out) hr (by unfold One; omega), hC8.out.then hr (fun i hi hk => absurd hk (by unfold One; omega))⟩
end Go.Proofs.Ytllblpiakijpaaa

/- Layer 13: the program's Lex. -/
namespace Go.Proofs.Ytllblpiakijpaaa
open Go.RowKit
set_option linter.unusedVariables false
attribute [local go_sem ↓] Go.wp_at_zero Go.wp_at_succ
theorem infoTz : (Try.prog.info? 76).map (fun i => (i.zero, i.size, i.bytes)) = some (some (.agg #[.int .i64 0, .int .i64 0, .int .i64 0, .slice none 0 0]), 4, 48) := by kernel_rfl
/-- One more token, its elements in blocks that came behind the row's own. -/
theorem TRow.snoc2 {w w2 : World} {base : Nat} {T : TypeId} {A A' : Option Addr} {n c c' : Nat} {ps : List TP} (h : TRow w base T A n c ps) (p : TP) (b1 : Nat)
    (hbase : base ≤ b1) (hoa : ∀ k, Of A k → k < b1) (hp : PRead (fun k => b1 ≤ k) w p)
    (hown : w2.ownsRow base T 4 (.slice A' (n + 1) c') (n + 1) (ps.flatMap tpL ++ tpL p)) (hc2 : Chg (Of A) w w2) (hA : ∀ k, Of A' k → Of A k ∨ w.heap.size ≤ k) :
    TRow w2 base T A' (n + 1) c' (ps ++ [p]) := by
  refine ⟨by rw [List.length_append, h.len]; rfl, by rw [List.flatMap_append]; simpa using hown, fun q hq => ?_⟩
  rw [List.mem_append] at hq
  rcases hq with hq | hq
  · have e := h.els q hq
    refine ⟨?_, e.len⟩
    have r2 := e.row.mono (G := fun k => base ≤ k ∧ ¬ Of A k ∧ k < w.heap.size) (fun k hk hF => ⟨hF.1, hF.2, hk⟩)
    have r3 := r2.chg hc2 (fun k hk hF => hF.2.1)
    exact r3.mono (fun k hk hF => ⟨hF.1, fun hA' => by rcases hA k hA' with h1 | h1; exact hF.2.1 h1; have := hF.2.2; omega⟩)
  · simp at hq; subst hq
    refine ⟨?_, hp.len⟩
    have r2 := hp.row.mono (G := fun k => b1 ≤ k ∧ k < w.heap.size) (fun k hk hF => ⟨hF, hk⟩)
    have r3 := r2.chg hc2 (fun k hk hF hOf => by have := hoa k hOf; omega)
    exact r3.mono (fun k hk hF => ⟨by omega, fun hA' => by rcases hA k hA' with h1 | h1; have := hoa k h1; omega; omega⟩)
def PlInv (s : ByteArray) (w : World) (R : Rd (List Tok)) (ov : Value) (wr : World) : Prop :=
  ∃ (k : Nat) (no : Int) (ps : List TP) (A : Option Addr) (n c : Nat), ov = .slice A n c ∧ k ≤ s.size ∧ SBox wr w.heap.size s k no ∧ Chg Nothing w wr ∧ ((no = 0 ∧ n ≤ k ∧ LexRun s k (ps.map TP.t) R ∧ Hid (TRow wr (w.heap.size + 1) 76 A n c ps)) ∨ (no ≠ 0 ∧ R = .bad k no))
set_option maxHeartbeats 8000000 in
set_option maxRecDepth 100000 in
theorem lex_any (s : ByteArray) (R : Rd (List Tok)) (hR : lexS s R) (w : World) (hs : s.size ≤ 9223372036854775000) :
    Calls Try.prog 28 #[.string s] w (LexAns 76 R w) := by
  unfold lexS at hR
  by_cases hbig : 1000 < s.size
  · rw [if_pos hbig] at hR
    subst hR
    have hbi : (1000 : Int) < (s.size : Int) := by omega
    go_enter Try.func28, Try.ntmps28
    go_wp2
    go_ret3
    exact ⟨none, 0, 0, [], rfl, TRow.nil _ _ _, (fun l nx h => by cases h), (fun _ => rfl), Chg.refl _ _⟩
  · rw [if_neg hbig] at hR
    have hbi : ¬ (1000 : Int) < (s.size : Int) := by omega
    have hR := hid hR
    go_enter Try.func28, Try.ntmps28
    go_wp2_with fail
    go_loopw [6] (fun ov wr => PlInv s w R ov wr) (fun _ wr => patMu s w.heap.size wr)
    case atStart => exact ⟨0, 0, [], none, 0, 0, rfl, Nat.zero_le _, Blk.new w _ _, (Chg.refl _ _).alloc _, .inl ⟨rfl, Nat.le_refl _, hR.out, hid (TRow.nil _ _ _)⟩⟩
    case round =>
      clear hR
      obtain ⟨k, no, ps, A, n, c, rfl, hk, hbox, hchg, hst⟩ := hrel
      have HB := hid hbox
      have hmu := hid (show no = 0 → patMu s w.heap.size wr = s.size + 2 - k from fun h => by unfold patMu; rw [hbox.noOf, hbox.place, if_pos h])
      obtain ⟨r0, r1, r2, f0, f1, f2, hlb⟩ := SBox.at_ hbox
      clear hbox
      rcases hst with ⟨rfl, hn, hrun, HT⟩ | ⟨hne, rfl⟩
      · cases hrun with
        | stop h =>
          have he : decide ((s.size : Int) ≤ (k : Int)) = true := decide_eq_true (by omega)
          go_wp2_with fail
          refine (end_quiet w.heap.size s k 0 _ HB.out (by omega)).mono ?_
          rintro e w' ⟨rfl, m, rfl⟩
          rw [he]
          go_wp2
          go_ret3
          exact ⟨A, n, c, ps, rfl, ⟨HT.out.len, own_base_less (own_chg HT.out.own ((Chg.refl Nothing wr).drewN _) (fun _ _ h => h)) (Nat.le_succ _), fun p hp => ⟨((HT.out.els p hp).row.chg ((Chg.refl Nothing wr).drewN _) (fun _ _ _ h => h)).mono (fun k hk hF => ⟨by omega, hF.2⟩), (HT.out.els p hp).len⟩⟩, (fun l nx h => by injection h), (fun h => absurd rfl h), hchg.drewN _⟩
        | blank h hb r =>
          have he : decide ((s.size : Int) ≤ (k : Int)) = false := decide_eq_false (by omega)
          have h32 := hid (hasB_yes h hb)
          replace hb := hid hb
          go_wp2_with fail
          refine (end_quiet w.heap.size s k 0 _ HB.out (by omega)).mono ?_
          rintro e w' ⟨rfl, m, rfl⟩
          rw [he]
          go_wp2_with fail
          refine (has_any w.heap.size s k 32 0 _ (Blk.drewN HB.out _) (by omega) (by omega) (by decide)).mono ?_
          rintro e w1 ⟨rfl, hB, hc⟩
          rw [h32.out]
          rw [h32.out] at hB
          have hB1 := hid (show SBox w1 w.heap.size s (k + 1 : Nat) 0 from hB)
          have hT1 := hid (HT.out.chg (((Chg.refl (One w.heap.size) wr).drewN _).trans hc) (fun j hj _ => by unfold One; omega))
          have hC1 := hid ((hchg.drewN _).then hc (fun i hi hk => absurd hk (by unfold One; omega)))
          clear hB hc
          go_wp2
          go_roundw
          case rel => exact ⟨k + 1, 0, ps, A, n, c, rfl, by omega, hB1.out, hC1.out, .inl ⟨rfl, by omega, r, hT1⟩⟩
          case measure => rw [hmu.out (by simp)]; unfold patMu; rw [hB1.out.noOf, hB1.out.place, if_pos rfl]; omega
        | @bad _ _ p e0 h hb r =>
          have he : decide ((s.size : Int) ≤ (k : Int)) = false := decide_eq_false (by omega)
          have h32 := hid (hasB_no (s := s) (k := k) hb)
          have hpl := r.placed h
          have hne := hpl.ok (fun v nx h => by cases h)
          have hle := hpl.le
          simp only [Rd.no] at hne
          simp only [Rd.at_] at hle
          clear hpl
          replace hb := hid hb
          go_wp2_with fail
          refine (end_quiet w.heap.size s k 0 _ HB.out (by omega)).mono ?_
          rintro e w' ⟨rfl, m, rfl⟩
          rw [he]
          go_wp2_with fail
          refine (has_any w.heap.size s k 32 0 _ (Blk.drewN HB.out _) (by omega) (by omega) (by decide)).mono ?_
          rintro e w1 ⟨rfl, hB, hc⟩
          rw [h32.out]
          rw [h32.out] at hB
          have hB1 := hid (show SBox w1 w.heap.size s (k : Nat) 0 from hB)
          have hT1 := hid (HT.out.chg (((Chg.refl (One w.heap.size) wr).drewN _).trans hc) (fun j hj _ => by unfold One; omega))
          have hC1 := hid ((hchg.drewN _).then hc (fun i hi hk => absurd hk (by unfold One; omega)))
          clear hB hc
          go_wp2_with fail
          refine (token_any w.heap.size s k _ r _ hB1.out hs h).mono ?_
          rintro e w2 ⟨kd, at_, nn, A1, l1, c1, rfl, hx, hB, hc⟩
          have hB2 := hid hB
          have hO2 := hid (own_chg hT1.out.own hc (fun j hj => by have := own_of hT1.out.own j hj; unfold One; omega))
          have hC2 := hid (hC1.out.then hc (fun i hi hk => absurd hk (by unfold One; omega)))
          have hs2 := hc.size
          have hl1 := hB1.out.lt
          clear hx hB hc
          go_wp2_with (at_builtin; (refine append_cells (w := w2) rfl _ _ 43 rfl (w.heap.size + 1) 76 (.agg #[.int .i64 0, .int .i64 0, .int .i64 0, .slice none 0 0]) 4 48 Try.underlying43 infoTz rfl (by decide) A c n _ rfl hO2.out [.int .i64 kd, .int .i64 at_, .int .i64 nn, .slice A1 l1 c1] rfl rfl (by intro u hu; simp at hu; rcases hu with rfl | rfl | rfl | rfl <;> rfl) ?_ ?_ ?_ ?_))
          · omega
          · omega
          · omega
          intro A' c' w6 hown6 hc6 hA
          have oa := own_of hO2.out
          have hB6 := hid (hB2.out.chg hc6 (fun h => by have := oa _ h; omega))
          have hC6 := hid (hC2.out.then hc6 (fun i hi h => by have := oa _ h; omega))
          clear hown6 hc6 hA oa
          go_wp2
          go_roundw
          case rel => exact ⟨p, e0, ps, A', n + 1, c', rfl, hle, hB6.out, hC6.out, .inr ⟨hne, rfl⟩⟩
          case measure => rw [hmu.out (by simp)]; unfold patMu; rw [show noW _ _ = e0 from SBox.noOf hB6.out, if_neg hne]; omega
        | @step _ _ t d _ h hb r rr =>
          have he : decide ((s.size : Int) ≤ (k : Int)) = false := decide_eq_false (by omega)
          have h32 := hid (hasB_no (s := s) (k := k) hb)
          have hpl := r.placed h
          have hlt2 := hpl.lt rfl
          have hle := hpl.le
          simp only [Rd.at_] at hle hlt2
          clear hpl
          replace hb := hid hb
          go_wp2_with fail
          refine (end_quiet w.heap.size s k 0 _ HB.out (by omega)).mono ?_
          rintro e w' ⟨rfl, m, rfl⟩
          rw [he]
          go_wp2_with fail
          refine (has_any w.heap.size s k 32 0 _ (Blk.drewN HB.out _) (by omega) (by omega) (by decide)).mono ?_
          rintro e w1 ⟨rfl, hB, hc⟩
          rw [h32.out]
          rw [h32.out] at hB
          have hB1 := hid (show SBox w1 w.heap.size s (k : Nat) 0 from hB)
          have hT1 := hid (HT.out.chg (((Chg.refl (One w.heap.size) wr).drewN _).trans hc) (fun j hj _ => by unfold One; omega))
          have hC1 := hid ((hchg.drewN _).then hc (fun i hi hk => absurd hk (by unfold One; omega)))
          have hw1 := hid hC1.out.size
          clear hB hc
          go_wp2_with fail
          refine (token_any w.heap.size s k _ r _ hB1.out hs h).mono ?_
          rintro e w2 ⟨kd, at_, nn, A1, l1, c1, rfl, hx, hB, hc⟩
          obtain ⟨rfl, rfl, rfl, hP⟩ := hx t d rfl
          have hP2 := hid hP
          have hB2 := hid hB
          have hT2 := hid (hT1.out.chg hc (fun j hj _ => by unfold One; omega))
          have hC2 := hid (hC1.out.then hc (fun i hi hk => absurd hk (by unfold One; omega)))
          have hs2 := hc.size
          have hl1 := hB1.out.lt
          clear hx hB hc hP
          go_wp2_with (at_builtin; (refine append_cells (w := w2) rfl _ _ 43 rfl (w.heap.size + 1) 76 (.agg #[.int .i64 0, .int .i64 0, .int .i64 0, .slice none 0 0]) 4 48 Try.underlying43 infoTz rfl (by decide) A c n _ rfl hT2.out.own (tpL ⟨t, A1, l1, c1⟩) rfl rfl (tpL_one _) ?_ ?_ ?_ ?_))
          · omega
          · omega
          · omega
          intro A' c' w6 hown6 hc6 hA
          have oa := own_of hT2.out.own
          have oa1 := hid (own_of hT1.out.own)
          have hB6 := hid (hB2.out.chg hc6 (fun h => by have := oa _ h; omega))
          have hC6 := hid (hC2.out.then hc6 (fun i hi h => by have := oa _ h; omega))
          have hT6 := hid (TRow.snoc2 hT2.out ⟨t, A1, l1, c1⟩ (w1.heap.size + 2) (by omega) (fun k hk => by have := oa1.out k hk; omega) hP2.out hown6 hc6 hA)
          clear hown6 hc6 hA oa
          go_wp2
          go_roundw
          case rel => exact ⟨d, 0, ps ++ [⟨t, A1, l1, c1⟩], A', n + 1, c', rfl, hle, hB6.out, hC6.out, .inl ⟨rfl, by omega, by rw [List.map_append]; exact rr, hT6⟩⟩
          case measure => rw [hmu.out (by simp)]; unfold patMu; rw [show noW _ _ = (0 : Int) from SBox.noOf hB6.out, show placeW _ _ = d from SBox.place hB6.out, if_pos rfl]; omega
      · have hne1 : (no == 0) = false := beq_eq_false_iff_ne.2 hne
        have hne2 : (no != 0) = true := by rw [bne_iff_ne]; exact hne
        by_cases hks : s.size ≤ k
        · have he : decide ((s.size : Int) ≤ (k : Int)) = true := decide_eq_true (by omega)
          go_wp2_with fail
          refine (end_quiet w.heap.size s k no _ HB.out (by omega)).mono ?_
          rintro e w' ⟨rfl, m, rfl⟩
          rw [he]
          go_wp2_with fail
          go_quiet (fail)
          go_wp2
          go_ret3
          exact ⟨none, 0, 0, [], rfl, TRow.nil _ _ _, (fun l nx h => by cases h), (fun _ => rfl), (hchg.drewN _).drewN _⟩
        · have he : decide ((s.size : Int) ≤ (k : Int)) = false := decide_eq_false (by omega)
          go_wp2_with fail
          refine (end_quiet w.heap.size s k no _ HB.out (by omega)).mono ?_
          rintro e w' ⟨rfl, m, rfl⟩
          rw [he]
          go_wp2_with fail
          go_quiet (fail)
          go_wp2
          go_ret3
          exact ⟨none, 0, 0, [], rfl, TRow.nil _ _ _, (fun l nx h => by cases h), (fun _ => rfl), (hchg.drewN _).drewN _⟩
end Go.Proofs.Ytllblpiakijpaaa
