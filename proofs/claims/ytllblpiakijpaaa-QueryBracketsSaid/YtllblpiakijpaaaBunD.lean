/- Joined texts: TokR TokN TokO TokS. -/
import Derived.Test.YtllblpiakijpaaaBunC
import Derived.Test.YtllblpiakijpaaaBunA
import Derived.Deep.DeepCutAuto
import Derived.Deep.DrawnRows
import Derived.WalkMore
/- Layer 13: the document's class. -/
namespace Go.Proofs.Ytllblpiakijpaaa
open Go.RowKit
set_option linter.unusedVariables false
attribute [local go_sem ↓] Go.wp_at_zero Go.wp_at_succ
/-- A Got in a box of its own. -/
structure NineAt (w : World) (b : Nat) (v0 v1 v2 v3 v4 v5 v6 v7 v8 : Value) : Prop where
  r0 : w.cell? ⟨b, 0, none⟩ = some v0
  r1 : w.cell? ⟨b, 1, none⟩ = some v1
  r2 : w.cell? ⟨b, 2, none⟩ = some v2
  r3 : w.cell? ⟨b, 3, none⟩ = some v3
  r4 : w.cell? ⟨b, 4, none⟩ = some v4
  r5 : w.cell? ⟨b, 5, none⟩ = some v5
  r6 : w.cell? ⟨b, 6, none⟩ = some v6
  r7 : w.cell? ⟨b, 7, none⟩ = some v7
  r8 : w.cell? ⟨b, 8, none⟩ = some v8
  f0 : w.frozen? ⟨b, 0, none⟩ = false
  f1 : w.frozen? ⟨b, 1, none⟩ = false
  f2 : w.frozen? ⟨b, 2, none⟩ = false
  f3 : w.frozen? ⟨b, 3, none⟩ = false
  f4 : w.frozen? ⟨b, 4, none⟩ = false
  f5 : w.frozen? ⟨b, 5, none⟩ = false
  f6 : w.frozen? ⟨b, 6, none⟩ = false
  f7 : w.frozen? ⟨b, 7, none⟩ = false
  f8 : w.frozen? ⟨b, 8, none⟩ = false
  lt : b < w.heap.size
theorem Blk.nine {w : World} {b : Nat} {v0 v1 v2 v3 v4 v5 v6 v7 v8 : Value} {T : TypeId} (h : Blk w b #[v0, v1, v2, v3, v4, v5, v6, v7, v8] T) : NineAt w b v0 v1 v2 v3 v4 v5 v6 v7 v8 :=
  ⟨h.cell 0 rfl, h.cell 1 rfl, h.cell 2 rfl, h.cell 3 rfl, h.cell 4 rfl, h.cell 5 rfl, h.cell 6 rfl, h.cell 7 rfl, h.cell 8 rfl, h.free 0, h.free 1, h.free 2, h.free 3, h.free 4, h.free 5, h.free 6, h.free 7, h.free 8, h.lt⟩
def gotC : Rd Cls → Value
  | .ok x nx => .agg #[.int .u8 0, .int .u64 (wd x 0), .int .u64 (wd x 1), .int .u64 (wd x 2), .int .u64 (wd x 3), .slice none 0 0, .int .i64 0, .int .i64 nx, .int .i64 0]
  | .bad p e => gotB 0 p e
theorem sizeC_zero {x : Cls} : sizeC x = 0 ↔ x = 0 := by
  constructor
  · intro h
    refine cls_ext fun i hi => ?_
    have : ∀ k, k ≤ 256 → sizeTo x k = 0 := fun k hk => by
      have hm : ∀ a b, a ≤ b → sizeTo x a ≤ sizeTo x b := fun a b hab => by
        induction b with
        | zero => have : a = 0 := by omega
                  subst this; exact Nat.le_refl _
        | succ b ih =>
          by_cases e : a = b + 1
          · subst e; exact Nat.le_refl _
          · have := ih (by omega); rw [sizeTo_succ]; omega
      have := hm k 256 hk
      unfold sizeC at h; omega
    have h1 := this (i + 1) (by omega)
    rw [sizeTo_succ] at h1
    by_cases hb : x.getLsbD i = true
    · rw [if_pos hb] at h1; omega
    · simp at hb ⊢; exact hb
  · rintro rfl; decide +kernel
theorem infoG : (Try.prog.info? 80).map (·.size) = some 9 := by kernel_rfl
theorem infoC4 : (Try.prog.info? 70).map (·.size) = some 4 := by kernel_rfl
/-- The loop of the document's class. -/
def RcInv (s : ByteArray) (w : World) (R : Rd (Cls × Nat)) (pt it : Value) (wr : World) : Prop :=
  ∃ (k n : Nat) (x : Cls), k ≤ s.size ∧ n ≤ k ∧ pt = .int .i64 k ∧ it = .int .i64 n ∧ ClassRun s k x n R ∧ CBox wr (w.heap.size + 1) x ∧
    Blk wr w.heap.size #[.int .u8 0, .int .u64 0, .int .u64 0, .int .u64 0, .int .u64 0, .slice none 0 0, .int .i64 0, .int .i64 0, .int .i64 0] 80 ∧ Chg Nothing w wr
set_option maxHeartbeats 1000000 in
set_option maxRecDepth 100000 in
theorem refClass_any (s : ByteArray) (op : Nat) (R : Rd (Cls × Nat)) (hR : ClassRun s (beginS s op) 0 0 R) (w : World) (hs : s.size ≤ 9223372036854775000) (ha : op < s.size) :
    Calls Try.prog 109 #[.string s, .int .i64 op] w fun e w' => e = .returned (gotC (finC (negS s op) op R)) ∧ Chg Nothing w w' := by
  have hR := hid hR
  have hng : ∃ ng, ng = negS s op := ⟨_, rfl⟩
  obtain ⟨ng, hng⟩ := hng
  rw [← hng]
  have hb : Hid (beginS s op = if ng = true then op + 2 else op + 1) := hid (by unfold beginS; rw [hng])
  have hop : (ng = true ∧ op + 1 < s.size ∧ byteAt s (op + 1) = 94) ∨ (ng = false ∧ op + 1 < s.size ∧ byteAt s (op + 1) ≠ 94) ∨ (ng = false ∧ op + 1 = s.size) := by
    rw [hng]; unfold negS
    by_cases h1 : op + 1 < s.size
    · by_cases h2 : byteAt s (op + 1) = 94
      · left; exact ⟨by simp [h1, h2], h1, h2⟩
      · right; left; exact ⟨by simp [h2], h1, h2⟩
    · right; right; exact ⟨by simp [h1], by omega⟩
  clear hng
  go_enter Try.func109, Try.ntmps109
  go_upto_region 2 with fail
  go_cut [6] (fun q wx => q = .bool ng ∧ wx = w.alloc (.cells #[.int .u8 0, .int .u64 0, .int .u64 0, .int .u64 0, .int .u64 0, .slice none 0 0, .int .i64 0, .int .i64 0, .int .i64 0] 80))
  case first =>
    rcases hop with ⟨rfl, h1, h2⟩ | ⟨rfl, h1, h2⟩ | ⟨rfl, h1⟩
    · have hd : (((byteAt s (op + 1) : Nat) : Int) == 94) = true := beq_iff_eq.2 (by omega)
      have hg := byteAt_eq h1
      have hd1 : decide ((op : Int) + 1 < (s.size : Int)) = true := decide_eq_true (by omega)
      have h2' := hid h2
      clear h2
      go_wp2_with fail
      go_meet
      exact ⟨rfl, rfl⟩
    · have hd : (((byteAt s (op + 1) : Nat) : Int) == 94) = false := by rw [beq_eq_false_iff_ne]; omega
      have hg := byteAt_eq h1
      have hd1 : decide ((op : Int) + 1 < (s.size : Int)) = true := decide_eq_true (by omega)
      have h2' := hid h2
      clear h2
      go_wp2_with fail
      go_meet
      exact ⟨rfl, rfl⟩
    · have hd1 : decide ((op : Int) + 1 < (s.size : Int)) = false := decide_eq_false (by omega)
      go_wp2_with fail
      go_meet
      exact ⟨rfl, rfl⟩
  case rest =>
    obtain ⟨rfl, rfl⟩ := hcut
    go_upto_if 23 with fail
    go_cut [5] (fun p wx => p = .int .i64 (beginS s op) ∧ wx = w.alloc (.cells #[.int .u8 0, .int .u64 0, .int .u64 0, .int .u64 0, .int .u64 0, .slice none 0 0, .int .i64 0, .int .i64 0, .int .i64 0] 80))
    case first =>
      cases ng
      · go_wp2_with fail
        go_meet
        exact ⟨by rw [hb.out]; rfl, rfl⟩
      · go_wp2_with fail
        go_meet
        exact ⟨by rw [hb.out]; rfl, rfl⟩
    case rest =>
      obtain ⟨rfl, rfl⟩ := hcut
      go_wp2_with fail
      go_loopw [5, 7] (fun pt it wr => RcInv s w R pt it wr) (fun pt _ _ => s.size + 1 - (intOf pt).toNat)
      case atStart =>
        refine ⟨beginS s op, 0, 0, ?_, by omega, rfl, rfl, hR.out, ?_, (Blk.new w _ _).alloc _, ((Chg.refl Nothing w).alloc _).alloc _⟩
        · rw [hb.out]; rcases hop with ⟨rfl, h1, h2⟩ | ⟨rfl, h1, h2⟩ | ⟨rfl, h1⟩ <;> simp <;> omega
        · have := CBox.zero (w.alloc (.cells #[.int .u8 0, .int .u64 0, .int .u64 0, .int .u64 0, .int .u64 0, .slice none 0 0, .int .i64 0, .int .i64 0, .int .i64 0] 80))
          rw [World.size_alloc] at this; exact this
      case round =>
        obtain ⟨k, n, x, hk, hn, rfl, rfl, hrun, HO, HG, hcr⟩ := hrel
        clear hop hb hR
        have HO' := hid HO
        have HG' := hid HG
        obtain ⟨o0, o1, o2, o3, p0, p1, p2, p3, hlo⟩ := CBox.at_ HO
        clear HO HG
        cases hrun with
        | stop h hb93 =>
          have hd1 : decide ((s.size : Int) ≤ (k : Int)) = false := decide_eq_false (by omega)
          have hd2 : (((byteAt s k : Nat) : Int) != 93) = false := by rw [hb93]; rfl
          have hg := byteAt_eq h
          have hb93' := hid hb93
          clear hb93
          cases ng with
          | true =>
            have hF := hid (show finC true op (.ok (x, n) (k + 1)) = if n = 0 ∨ (~~~ x) = 0 then .bad op 132 else .ok (~~~ x) (k + 1) from rfl)
            go_wp2_with fail
            refine (refNotL x _).mono ?_
            rintro e w1 ⟨rfl, hc⟩
            have HO1 := hid (Blk.chg HO'.out hc id)
            have HG1 := hid (Blk.chg HG'.out hc id)
            have hC := hcr.trans hc
            clear hcr hc o0 o1 o2 o3 p0 p1 p2 p3 hlo HO' HG'
            go_wp2_with (with_reducible refine halt_op (.store 70 (.tmp 8) (.tmp 84)) ?_)
            unfold Halted
            refine store_blk rfl 70 (.tmp 8) (.tmp 84) (by rfl) _ (by rfl) _ (by rfl) HO1.out (by rfl) (by exact infoC4) (by rfl) ?_
            intro w2 HO2 hc2
            replace HO2 := hid (show CBox w2 (w.heap.size + 1) (~~~ x) from HO2)
            have HG2 := hid (Blk.chg HG1.out hc2 (by unfold One; omega))
            replace hC := hC.then hc2 (fun i hi hk => absurd hk (by unfold One; omega))
            clear hc2 HO1 HG1
            obtain ⟨o0, o1, o2, o3, p0, p1, p2, p3, hlo⟩ := CBox.at_ HO2.out
            by_cases hn0 : n = 0
            · subst hn0
              have hE := hid (show finC true op (.ok (x, 0) (k + 1)) = .bad op 132 from by rw [hF.out, if_pos (Or.inl rfl)])
              go_wp2_with (with_reducible refine halt_op (.store 80 (.tmp 4) (.tmp 93)) ?_)
              unfold Halted
              refine store_blk rfl 80 (.tmp 4) (.tmp 93) (by rfl) _ (by rfl) _ (by rfl) HG2.out (by rfl) (by exact infoG) (by rfl) ?_
              intro wr HR hr
              go_wp2
              exact bodyPost_ret (results_cell_row Try.results109 _ _ _ _ _ _ _ (by rfl) HR Try.underlying80 rfl (by exact infoG)) rfl ⟨by rw [hE.out]; rfl, hC.then hr (fun i hi hk => absurd hk (by unfold One; omega))⟩
            · have hnd : ((n : Int) == 0) = false := by rw [beq_eq_false_iff_ne]; omega
              by_cases hy : (~~~ x) = 0
              · have hE := hid (show finC true op (.ok (x, n) (k + 1)) = .bad op 132 from by rw [hF.out, if_pos (Or.inr hy)])
                have hsz : ((sizeC (~~~ x) : Int) == 0) = true := by rw [sizeC_zero.2 hy]; rfl
                replace hy := hid hy
                go_wp2_with fail
                refine (refSizeL (~~~ x) _).mono ?_
                rintro e w3 ⟨rfl, hc3⟩
                have HG3 := hid (Blk.chg HG2.out hc3 id)
                replace HO2 := hid (Blk.chg HO2.out hc3 id)
                replace hC := hC.trans hc3
                clear hc3 HG2 o0 o1 o2 o3 p0 p1 p2 p3 hlo
                go_wp2_with (with_reducible refine halt_op (.store 80 (.tmp 4) (.tmp 93)) ?_)
                unfold Halted
                refine store_blk rfl 80 (.tmp 4) (.tmp 93) (by rfl) _ (by rfl) _ (by rfl) HG3.out (by rfl) (by exact infoG) (by rfl) ?_
                intro wr HR hr
                go_wp2
                exact bodyPost_ret (results_cell_row Try.results109 _ _ _ _ _ _ _ (by rfl) HR Try.underlying80 rfl (by exact infoG)) rfl ⟨by rw [hE.out]; rfl, hC.then hr (fun i hi hk => absurd hk (by unfold One; omega))⟩
              · have hE := hid (show finC true op (.ok (x, n) (k + 1)) = .ok (~~~ x) (k + 1) from by rw [hF.out, if_neg (by intro h; rcases h with h | h; exact hn0 h; exact hy h)])
                have hsz : ((sizeC (~~~ x) : Int) == 0) = false := by rw [beq_eq_false_iff_ne]; intro e; exact hy (sizeC_zero.1 (by omega))
                replace hy := hid hy
                go_wp2_with fail
                refine (refSizeL (~~~ x) _).mono ?_
                rintro e w3 ⟨rfl, hc3⟩
                have HG3 := hid (Blk.chg HG2.out hc3 id)
                replace HO2 := hid (Blk.chg HO2.out hc3 id)
                replace hC := hC.trans hc3
                clear hc3 HG2 o0 o1 o2 o3 p0 p1 p2 p3 hlo
                obtain ⟨o0, o1, o2, o3, p0, p1, p2, p3, hlo⟩ := CBox.at_ HO2.out
                go_wp2_with (with_reducible refine halt_op (.store 80 (.tmp 4) (.tmp 97)) ?_)
                unfold Halted
                refine store_blk rfl 80 (.tmp 4) (.tmp 97) (by rfl) _ (by rfl) _ (by rfl) HG3.out (by rfl) (by exact infoG) (by rfl) ?_
                intro wr HR hr
                go_wp2
                exact bodyPost_ret (results_cell_row Try.results109 _ _ _ _ _ _ _ (by rfl) HR Try.underlying80 rfl (by exact infoG)) rfl ⟨by rw [hE.out]; rfl, hC.then hr (fun i hi hk => absurd hk (by unfold One; omega))⟩
          | false =>
            have hF := hid (show finC false op (.ok (x, n) (k + 1)) = if n = 0 ∨ x = 0 then .bad op 132 else .ok x (k + 1) from rfl)
            have hC := hcr
            have HO2 := HO'
            have HG2 := HG'
            clear hcr HO' HG'
            by_cases hn0 : n = 0
            · subst hn0
              have hE := hid (show finC false op (.ok (x, 0) (k + 1)) = .bad op 132 from by rw [hF.out, if_pos (Or.inl rfl)])
              go_wp2_with (with_reducible refine halt_op (.store 80 (.tmp 4) (.tmp 93)) ?_)
              unfold Halted
              refine store_blk rfl 80 (.tmp 4) (.tmp 93) (by rfl) _ (by rfl) _ (by rfl) HG2.out (by rfl) (by exact infoG) (by rfl) ?_
              intro wr HR hr
              go_wp2
              exact bodyPost_ret (results_cell_row Try.results109 _ _ _ _ _ _ _ (by rfl) HR Try.underlying80 rfl (by exact infoG)) rfl ⟨by rw [hE.out]; rfl, hC.then hr (fun i hi hk => absurd hk (by unfold One; omega))⟩
            · have hnd : ((n : Int) == 0) = false := by rw [beq_eq_false_iff_ne]; omega
              by_cases hy : x = 0
              · have hE := hid (show finC false op (.ok (x, n) (k + 1)) = .bad op 132 from by rw [hF.out, if_pos (Or.inr hy)])
                have hsz : ((sizeC x : Int) == 0) = true := by rw [sizeC_zero.2 hy]; rfl
                replace hy := hid hy
                go_wp2_with fail
                refine (refSizeL x _).mono ?_
                rintro e w3 ⟨rfl, hc3⟩
                have HG3 := hid (Blk.chg HG2.out hc3 id)
                replace HO2 := hid (Blk.chg HO2.out hc3 id)
                replace hC := hC.trans hc3
                clear hc3 HG2 o0 o1 o2 o3 p0 p1 p2 p3 hlo
                go_wp2_with (with_reducible refine halt_op (.store 80 (.tmp 4) (.tmp 93)) ?_)
                unfold Halted
                refine store_blk rfl 80 (.tmp 4) (.tmp 93) (by rfl) _ (by rfl) _ (by rfl) HG3.out (by rfl) (by exact infoG) (by rfl) ?_
                intro wr HR hr
                go_wp2
                exact bodyPost_ret (results_cell_row Try.results109 _ _ _ _ _ _ _ (by rfl) HR Try.underlying80 rfl (by exact infoG)) rfl ⟨by rw [hE.out]; rfl, hC.then hr (fun i hi hk => absurd hk (by unfold One; omega))⟩
              · have hE := hid (show finC false op (.ok (x, n) (k + 1)) = .ok x (k + 1) from by rw [hF.out, if_neg (by intro h; rcases h with h | h; exact hn0 h; exact hy h)])
                have hsz : ((sizeC x : Int) == 0) = false := by rw [beq_eq_false_iff_ne]; intro e; exact hy (sizeC_zero.1 (by omega))
                replace hy := hid hy
                go_wp2_with fail
                refine (refSizeL x _).mono ?_
                rintro e w3 ⟨rfl, hc3⟩
                have HG3 := hid (Blk.chg HG2.out hc3 id)
                replace HO2 := hid (Blk.chg HO2.out hc3 id)
                replace hC := hC.trans hc3
                clear hc3 HG2 o0 o1 o2 o3 p0 p1 p2 p3 hlo
                obtain ⟨o0, o1, o2, o3, p0, p1, p2, p3, hlo⟩ := CBox.at_ HO2.out
                go_wp2_with (with_reducible refine halt_op (.store 80 (.tmp 4) (.tmp 97)) ?_)
                unfold Halted
                refine store_blk rfl 80 (.tmp 4) (.tmp 97) (by rfl) _ (by rfl) _ (by rfl) HG3.out (by rfl) (by exact infoG) (by rfl) ?_
                intro wr HR hr
                go_wp2
                exact bodyPost_ret (results_cell_row Try.results109 _ _ _ _ _ _ _ (by rfl) HR Try.underlying80 rfl (by exact infoG)) rfl ⟨by rw [hE.out]; rfl, hC.then hr (fun i hi hk => absurd hk (by unfold One; omega))⟩
        | @bad1 _ _ _ p e h h1 =>
          by_cases hks : k < s.size
          · have hd1 : decide ((s.size : Int) ≤ (k : Int)) = false := decide_eq_false (by omega)
            have hb93 : byteAt s k ≠ 93 := fun e => h ⟨hks, e⟩
            have hd2 : (((byteAt s k : Nat) : Int) != 93) = true := by rw [bne_iff_ne]; omega
            have hg := byteAt_eq hks
            have hb93' := hid hb93
            clear hb93 h
            have hE := hid (show finC ng op (.bad p e) = .bad p e from rfl)
            have hne := (itemS_bad h1 hk).2
            have hne1 : (e == 0) = false := beq_eq_false_iff_ne.2 hne
            have hne2 : (e != 0) = true := by rw [bne_iff_ne]; exact hne
            have h1' := hid h1
            clear h1
            go_wp2_with fail
            refine (refItem_bad h1'.out _ hs hk).mono ?_
            rintro e' w1 ⟨rfl, hc⟩
            have HG1 := hid (Blk.chg HG'.out hc id)
            have hC := hcr.trans hc
            clear hcr hc o0 o1 o2 o3 p0 p1 p2 p3 hlo HO' HG'
            go_wp2_with (with_reducible refine halt_op (.store 80 (.tmp 4) (.tmp 42)) ?_)
            unfold Halted
            refine store_blk rfl 80 (.tmp 4) (.tmp 42) (by rfl) _ (by rfl) _ (by rfl) (Blk.alloc HG1.out _) (by rfl) (by exact infoG) (by rfl) ?_
            intro wr HR hr
            go_wp2
            exact bodyPost_ret (results_cell_row Try.results109 _ _ _ _ _ _ _ (by rfl) HR Try.underlying80 rfl (by exact infoG)) rfl ⟨by rw [hE.out]; rfl, (hC.alloc _).then hr (fun i hi hk => absurd hk (by unfold One; omega))⟩
          · have hd1 : decide ((s.size : Int) ≤ (k : Int)) = true := decide_eq_true (by omega)
            clear h
            have hE := hid (show finC ng op (.bad p e) = .bad p e from rfl)
            have hne := (itemS_bad h1 hk).2
            have hne1 : (e == 0) = false := beq_eq_false_iff_ne.2 hne
            have hne2 : (e != 0) = true := by rw [bne_iff_ne]; exact hne
            have h1' := hid h1
            clear h1
            go_wp2_with fail
            refine (refItem_bad h1'.out _ hs hk).mono ?_
            rintro e' w1 ⟨rfl, hc⟩
            have HG1 := hid (Blk.chg HG'.out hc id)
            have hC := hcr.trans hc
            clear hcr hc o0 o1 o2 o3 p0 p1 p2 p3 hlo HO' HG'
            go_wp2_with (with_reducible refine halt_op (.store 80 (.tmp 4) (.tmp 42)) ?_)
            unfold Halted
            refine store_blk rfl 80 (.tmp 4) (.tmp 42) (by rfl) _ (by rfl) _ (by rfl) (Blk.alloc HG1.out _) (by rfl) (by exact infoG) (by rfl) ?_
            intro wr HR hr
            go_wp2
            exact bodyPost_ret (results_cell_row Try.results109 _ _ _ _ _ _ _ (by rfl) HR Try.underlying80 rfl (by exact infoG)) rfl ⟨by rw [hE.out]; rfl, (hC.alloc _).then hr (fun i hi hk => absurd hk (by unfold One; omega))⟩
        | @one _ _ _ v b _ h h1 h2 r =>
          have hks : k < s.size := by
            apply Classical.byContradiction; intro hks
            unfold itemS at h1; rw [if_neg hks] at h1; cases h1
          by_cases hbs : b < s.size
          · have hd1 : decide ((s.size : Int) ≤ (k : Int)) = false := decide_eq_false (by omega)
            have hb93 : byteAt s k ≠ 93 := fun e => h ⟨hks, e⟩
            have hd2 : (((byteAt s k : Nat) : Int) != 93) = true := by rw [bne_iff_ne]; omega
            have hg := byteAt_eq hks
            have hb93' := hid hb93
            clear hb93 h
            have hvb := itemS_ok h1
            have h1' := hid h1
            clear h1
            go_wp2_with fail
            refine (refItem_ok h1'.out _ hs hk).mono ?_
            rintro e' w1 ⟨rfl, hc⟩
            have HG1 := hid (Blk.chg HG'.out hc id)
            have HO1 := hid (Blk.chg HO'.out hc id)
            have hC := hcr.trans hc
            have hz := hc.size
            clear hcr hc o0 o1 o2 o3 p0 p1 p2 p3 HO' HG'
            have hd3 : decide ((b : Int) < (s.size : Int)) = true := decide_eq_true (by omega)
            have hd4 : (((byteAt s b : Nat) : Int) == 45) = false := by rw [beq_eq_false_iff_ne]; intro e; exact h2 ⟨hbs, by omega⟩
            have hgb := byteAt_eq hbs
            clear h2
            go_wp2_with fail
            refine wp_forget (fun W => CBox W (w.heap.size + 1) x ∧ Blk W w.heap.size #[.int .u8 0, .int .u64 0, .int .u64 0, .int .u64 0, .int .u64 0, .slice none 0 0, .int .i64 0, .int .i64 0, .int .i64 0] 80 ∧ Blk W w1.heap.size #[.int .u8 v, .int .u64 0, .int .u64 0, .int .u64 0, .int .u64 0, .slice none 0 0, .int .i64 0, .int .i64 b, .int .i64 0] 80 ∧ Blk W (w1.heap.size + 1) #[.int .u8 v, .int .u64 0, .int .u64 0, .int .u64 0, .int .u64 0, .slice none 0 0, .int .i64 0, .int .i64 b, .int .i64 0] 80 ∧ Chg Nothing w W) ⟨HO1.out.alloc _ |>.alloc _, HG1.out.alloc _ |>.alloc _, Blk.alloc (Blk.new w1 _ _) _, by have := Blk.new (w1.alloc (.cells #[.int .u8 v, .int .u64 0, .int .u64 0, .int .u64 0, .int .u64 0, .slice none 0 0, .int .i64 0, .int .i64 b, .int .i64 0] 80)) #[.int .u8 v, .int .u64 0, .int .u64 0, .int .u64 0, .int .u64 0, .slice none 0 0, .int .i64 0, .int .i64 b, .int .i64 0] 80; rw [World.size_alloc] at this; exact this, (hC.alloc _).alloc _⟩ ?_
            rintro W ⟨HOW, HGW, HAW, HBW, hCW⟩
            clear hC HG1 HO1
            have HG' := hid HGW
            have HO' := hid HOW
            obtain ⟨o0, o1, o2, o3, p0, p1, p2, p3, hlo⟩ := CBox.at_ HOW
            have a0 := Blk.cell HAW 0 rfl
            have b0 := Blk.cell HBW 0 rfl
            have hla := Blk.lt HAW
            have hlb := Blk.lt HBW
            clear HGW HOW HAW HBW
            go_region_with (first | (go_at_call 112;  (with_reducible refine (refRangeL v v _ (by omega) (by omega)).mono ?_); rintro e w4 ⟨rfl, hcx⟩; have HO4 := hid (Blk.chg (Blk.drew HO'.out) hcx id); obtain ⟨y0, y1, y2, y3, z0, z1, z2, z3, hl4⟩ := CBox.at_ HO4.out; have hcy := hid hcx; clear hcx) | (go_at_call 119;  (with_reducible refine (refOrL x (rangeC v v) _).mono ?_);  rintro e w5 ⟨rfl, hcx⟩;  have HO5 := hid (Blk.chg HO4.out hcx id); clear o0 o1 o2 o3 p0 p1 p2 p3 y0 y1 y2 y3 z0 z1 z2 z3 a0 b0; obtain ⟨y0, y1, y2, y3, z0, z1, z2, z3, hl5⟩ := CBox.at_ HO5.out; have hcz := hid hcx; clear hcx))
            all_goals
              go_wp2
              go_roundw
              case rel =>
                have hP : Chg (One (w.heap.size + 1)) w5 (putC w5 (w.heap.size + 1) (x ||| rangeC v v)) := (Chg.refl _ _).putOne _
                exact ⟨ b, n + 1, x ||| rangeC v v, by omega, by omega, rfl, by go_num, r, CBox.put HO5.out _, Blk.chg (Blk.chg (Blk.chg (Blk.drew HG'.out) hcy.out id) hcz.out id) hP (by unfold One; omega), Chg.putNew ((hCW.drew.trans hcy.out).trans hcz.out) (Nat.le_succ _) _⟩
              case measure => simp [intOf]; omega
          · have hd1 : decide ((s.size : Int) ≤ (k : Int)) = false := decide_eq_false (by omega)
            have hb93 : byteAt s k ≠ 93 := fun e => h ⟨hks, e⟩
            have hd2 : (((byteAt s k : Nat) : Int) != 93) = true := by rw [bne_iff_ne]; omega
            have hg := byteAt_eq hks
            have hb93' := hid hb93
            clear hb93 h
            have hvb := itemS_ok h1
            have h1' := hid h1
            clear h1
            go_wp2_with fail
            refine (refItem_ok h1'.out _ hs hk).mono ?_
            rintro e' w1 ⟨rfl, hc⟩
            have HG1 := hid (Blk.chg HG'.out hc id)
            have HO1 := hid (Blk.chg HO'.out hc id)
            have hC := hcr.trans hc
            have hz := hc.size
            clear hcr hc o0 o1 o2 o3 p0 p1 p2 p3 HO' HG'
            have hd3 : decide ((b : Int) < (s.size : Int)) = false := decide_eq_false (by omega)
            clear h2
            go_wp2_with fail
            refine wp_forget (fun W => CBox W (w.heap.size + 1) x ∧ Blk W w.heap.size #[.int .u8 0, .int .u64 0, .int .u64 0, .int .u64 0, .int .u64 0, .slice none 0 0, .int .i64 0, .int .i64 0, .int .i64 0] 80 ∧ Blk W w1.heap.size #[.int .u8 v, .int .u64 0, .int .u64 0, .int .u64 0, .int .u64 0, .slice none 0 0, .int .i64 0, .int .i64 b, .int .i64 0] 80 ∧ Blk W (w1.heap.size + 1) #[.int .u8 v, .int .u64 0, .int .u64 0, .int .u64 0, .int .u64 0, .slice none 0 0, .int .i64 0, .int .i64 b, .int .i64 0] 80 ∧ Chg Nothing w W) ⟨HO1.out.alloc _ |>.alloc _, HG1.out.alloc _ |>.alloc _, Blk.alloc (Blk.new w1 _ _) _, by have := Blk.new (w1.alloc (.cells #[.int .u8 v, .int .u64 0, .int .u64 0, .int .u64 0, .int .u64 0, .slice none 0 0, .int .i64 0, .int .i64 b, .int .i64 0] 80)) #[.int .u8 v, .int .u64 0, .int .u64 0, .int .u64 0, .int .u64 0, .slice none 0 0, .int .i64 0, .int .i64 b, .int .i64 0] 80; rw [World.size_alloc] at this; exact this, (hC.alloc _).alloc _⟩ ?_
            rintro W ⟨HOW, HGW, HAW, HBW, hCW⟩
            clear hC HG1 HO1
            have HG' := hid HGW
            have HO' := hid HOW
            obtain ⟨o0, o1, o2, o3, p0, p1, p2, p3, hlo⟩ := CBox.at_ HOW
            have a0 := Blk.cell HAW 0 rfl
            have b0 := Blk.cell HBW 0 rfl
            have hla := Blk.lt HAW
            have hlb := Blk.lt HBW
            clear HGW HOW HAW HBW
            go_region_with (first | (go_at_call 112;  (with_reducible refine (refRangeL v v _ (by omega) (by omega)).mono ?_); rintro e w4 ⟨rfl, hcx⟩; have HO4 := hid (Blk.chg (Blk.drew HO'.out) hcx id); obtain ⟨y0, y1, y2, y3, z0, z1, z2, z3, hl4⟩ := CBox.at_ HO4.out; have hcy := hid hcx; clear hcx) | (go_at_call 119;  (with_reducible refine (refOrL x (rangeC v v) _).mono ?_);  rintro e w5 ⟨rfl, hcx⟩;  have HO5 := hid (Blk.chg HO4.out hcx id); clear o0 o1 o2 o3 p0 p1 p2 p3 y0 y1 y2 y3 z0 z1 z2 z3 a0 b0; obtain ⟨y0, y1, y2, y3, z0, z1, z2, z3, hl5⟩ := CBox.at_ HO5.out; have hcz := hid hcx; clear hcx))
            all_goals
              go_wp2
              go_roundw
              case rel =>
                have hP : Chg (One (w.heap.size + 1)) w5 (putC w5 (w.heap.size + 1) (x ||| rangeC v v)) := (Chg.refl _ _).putOne _
                exact ⟨ b, n + 1, x ||| rangeC v v, by omega, by omega, rfl, by go_num, r, CBox.put HO5.out _, Blk.chg (Blk.chg (Blk.chg (Blk.drew HG'.out) hcy.out id) hcz.out id) hP (by unfold One; omega), Chg.putNew ((hCW.drew.trans hcy.out).trans hcz.out) (Nat.le_succ _) _⟩
              case measure => simp [intOf]; omega
        | @bad2 _ _ _ v b p e h h1 h2 h3 =>
          have hks : k < s.size := by
            apply Classical.byContradiction; intro hks
            unfold itemS at h1; rw [if_neg hks] at h1; cases h1
          have hd1 : decide ((s.size : Int) ≤ (k : Int)) = false := decide_eq_false (by omega)
          have hb93 : byteAt s k ≠ 93 := fun e => h ⟨hks, e⟩
          have hd2 : (((byteAt s k : Nat) : Int) != 93) = true := by rw [bne_iff_ne]; omega
          have hg := byteAt_eq hks
          have hb93' := hid hb93
          clear hb93 h
          have hvb := itemS_ok h1
          have h1' := hid h1
          clear h1
          go_wp2_with fail
          refine (refItem_ok h1'.out _ hs hk).mono ?_
          rintro e' w1 ⟨rfl, hc⟩
          have HG1 := hid (Blk.chg HG'.out hc id)
          have HO1 := hid (Blk.chg HO'.out hc id)
          have hC := hcr.trans hc
          have hz := hc.size
          clear hcr hc o0 o1 o2 o3 p0 p1 p2 p3 HO' HG'
          obtain ⟨hb1, hb45⟩ := h2
          have hd3 : decide ((b : Int) < (s.size : Int)) = true := decide_eq_true (by omega)
          have hd4 : (((byteAt s b : Nat) : Int) == 45) = true := beq_iff_eq.2 (by omega)
          have hgb := byteAt_eq hb1
          have hb45' := hid hb45
          have hne := (itemS_bad h3 (by omega)).2
          have hne1 : (e == 0) = false := beq_eq_false_iff_ne.2 hne
          have hne2 : (e != 0) = true := by rw [bne_iff_ne]; exact hne
          have hE := hid (show finC ng op (.bad p e) = .bad p e from rfl)
          have h3' := hid h3
          clear hb45 h3
          go_wp2_with fail
          rw [show ((b : Int) + 1) = ((b + 1 : Nat) : Int) from by omega]
          refine (refItem_bad h3'.out _ hs (by omega)).mono ?_
          rintro e' w2 ⟨rfl, hc⟩
          have hb2 := Blk.chg (Blk.new (w1.alloc (.cells #[.int .u8 v, .int .u64 0, .int .u64 0, .int .u64 0, .int .u64 0, .slice none 0 0, .int .i64 0, .int .i64 b, .int .i64 0] 80)) #[.int .u8 v, .int .u64 0, .int .u64 0, .int .u64 0, .int .u64 0, .slice none 0 0, .int .i64 0, .int .i64 b, .int .i64 0] 80) hc id
          rw [World.size_alloc] at hb2
          have HB2 := hid hb2
          have HA2 := hid (Blk.chg (Blk.alloc (Blk.new w1 #[.int .u8 v, .int .u64 0, .int .u64 0, .int .u64 0, .int .u64 0, .slice none 0 0, .int .i64 0, .int .i64 b, .int .i64 0] 80) _) hc id)
          have HG2 := hid (Blk.chg ((Blk.alloc (Blk.alloc HG1.out _) _)) hc id)
          have HO2 := hid (Blk.chg ((Blk.alloc (Blk.alloc HO1.out _) _)) hc id)
          replace hC := ((hC.alloc _).alloc _).trans hc
          clear hc hb2 HG1 HO1
          go_wp2_with (with_reducible refine halt_op (.store 80 (.tmp 10) (.tmp 59)) ?_)
          unfold Halted
          refine store_blk rfl 80 (.tmp 10) (.tmp 59) (by rfl) _ (by rfl) _ (by rfl) HB2.out (by rfl) (by exact infoG) (by rfl) ?_
          intro w3 HB3 hc
          have HA3 := hid (Blk.chg HA2.out hc (by unfold One; omega))
          have HG3 := hid (Blk.chg HG2.out hc (by unfold One; omega))
          have HO3 := hid (Blk.chg HO2.out hc (by unfold One; omega))
          replace hC := hC.then hc (fun i hi hk => absurd hk (by unfold One; omega))
          clear hc HA2 HG2 HO2 HB2
          replace HB3 : Blk w3 (w1.heap.size + 1) #[.int .u8 0, .int .u64 0, .int .u64 0, .int .u64 0, .int .u64 0, .slice none 0 0, .int .i64 0, .int .i64 p, .int .i64 e] 80 := HB3
          have HB3' := hid HB3
          obtain ⟨g0, g1, g2, g3, g4, g5, g6, g7, g8, e0, e1, e2, e3, e4, e5, e6, e7, e8, hlg⟩ := Blk.nine HB3
          clear HB3
          go_wp2_with (with_reducible refine halt_op (.store 80 (.tmp 4) (.tmp 63)) ?_)
          unfold Halted
          refine store_blk rfl 80 (.tmp 4) (.tmp 63) (by rfl) _ (by rfl) _ (by rfl) HG3.out (by rfl) (by exact infoG) (by rfl) ?_
          intro wr HR hr
          go_wp2
          exact bodyPost_ret (results_cell_row Try.results109 _ _ _ _ _ _ _ (by rfl) HR Try.underlying80 rfl (by exact infoG)) rfl ⟨by rw [hE.out]; rfl, hC.then hr (fun i hi hk => absurd hk (by unfold One; omega))⟩
        | @less _ _ _ v b u d h h1 h2 h3 h4 =>
          have hks : k < s.size := by
            apply Classical.byContradiction; intro hks
            unfold itemS at h1; rw [if_neg hks] at h1; cases h1
          have hd1 : decide ((s.size : Int) ≤ (k : Int)) = false := decide_eq_false (by omega)
          have hb93 : byteAt s k ≠ 93 := fun e => h ⟨hks, e⟩
          have hd2 : (((byteAt s k : Nat) : Int) != 93) = true := by rw [bne_iff_ne]; omega
          have hg := byteAt_eq hks
          have hb93' := hid hb93
          clear hb93 h
          have hvb := itemS_ok h1
          have h1' := hid h1
          clear h1
          go_wp2_with fail
          refine (refItem_ok h1'.out _ hs hk).mono ?_
          rintro e' w1 ⟨rfl, hc⟩
          have HG1 := hid (Blk.chg HG'.out hc id)
          have HO1 := hid (Blk.chg HO'.out hc id)
          have hC := hcr.trans hc
          have hz := hc.size
          clear hcr hc o0 o1 o2 o3 p0 p1 p2 p3 HO' HG'
          obtain ⟨hb1, hb45⟩ := h2
          have hd3 : decide ((b : Int) < (s.size : Int)) = true := decide_eq_true (by omega)
          have hd4 : (((byteAt s b : Nat) : Int) == 45) = true := beq_iff_eq.2 (by omega)
          have hgb := byteAt_eq hb1
          have hb45' := hid hb45
          have hvd := itemS_ok h3
          have hE := hid (show finC ng op (.bad b 132) = .bad b 132 from rfl)
          have hlt : ((u : Int) < (v : Int)) := by omega
          have h3' := hid h3
          clear hb45 h3
          go_wp2_with fail
          rw [show ((b : Int) + 1) = ((b + 1 : Nat) : Int) from by omega]
          refine (refItem_ok h3'.out _ hs (by omega)).mono ?_
          rintro e' w2 ⟨rfl, hc⟩
          have hb2 := Blk.chg (Blk.new (w1.alloc (.cells #[.int .u8 v, .int .u64 0, .int .u64 0, .int .u64 0, .int .u64 0, .slice none 0 0, .int .i64 0, .int .i64 b, .int .i64 0] 80)) #[.int .u8 v, .int .u64 0, .int .u64 0, .int .u64 0, .int .u64 0, .slice none 0 0, .int .i64 0, .int .i64 b, .int .i64 0] 80) hc id
          rw [World.size_alloc] at hb2
          have HB2 := hid hb2
          have HA2 := hid (Blk.chg (Blk.alloc (Blk.new w1 #[.int .u8 v, .int .u64 0, .int .u64 0, .int .u64 0, .int .u64 0, .slice none 0 0, .int .i64 0, .int .i64 b, .int .i64 0] 80) _) hc id)
          have HG2 := hid (Blk.chg ((Blk.alloc (Blk.alloc HG1.out _) _)) hc id)
          have HO2 := hid (Blk.chg ((Blk.alloc (Blk.alloc HO1.out _) _)) hc id)
          replace hC := ((hC.alloc _).alloc _).trans hc
          clear hc hb2 HG1 HO1
          go_wp2_with (with_reducible refine halt_op (.store 80 (.tmp 10) (.tmp 59)) ?_)
          unfold Halted
          refine store_blk rfl 80 (.tmp 10) (.tmp 59) (by rfl) _ (by rfl) _ (by rfl) HB2.out (by rfl) (by exact infoG) (by rfl) ?_
          intro w3 HB3 hc
          have HA3 := hid (Blk.chg HA2.out hc (by unfold One; omega))
          have HG3 := hid (Blk.chg HG2.out hc (by unfold One; omega))
          have HO3 := hid (Blk.chg HO2.out hc (by unfold One; omega))
          replace hC := hC.then hc (fun i hi hk => absurd hk (by unfold One; omega))
          clear hc HA2 HG2 HO2 HB2
          replace HB3 : Blk w3 (w1.heap.size + 1) #[.int .u8 u, .int .u64 0, .int .u64 0, .int .u64 0, .int .u64 0, .slice none 0 0, .int .i64 0, .int .i64 d, .int .i64 0] 80 := HB3
          have HB3' := hid HB3
          obtain ⟨g0, g1, g2, g3, g4, g5, g6, g7, g8, e0, e1, e2, e3, e4, e5, e6, e7, e8, hlg⟩ := Blk.nine HB3
          clear HB3
          have HA3' := HA3
          obtain ⟨a0, -, -, -, -, -, -, -, -, -, -, -, -, -, -, -, -, -, hla⟩ := Blk.nine HA3.out
          go_wp2_with (with_reducible refine halt_op (.store 80 (.tmp 4) (.tmp 70)) ?_)
          unfold Halted
          refine store_blk rfl 80 (.tmp 4) (.tmp 70) (by rfl) _ (by rfl) _ (by rfl) HG3.out (by rfl) (by exact infoG) (by rfl) ?_
          intro wr HR hr
          go_wp2
          exact bodyPost_ret (results_cell_row Try.results109 _ _ _ _ _ _ _ (by rfl) HR Try.underlying80 rfl (by exact infoG)) rfl ⟨by rw [hE.out]; rfl, hC.then hr (fun i hi hk => absurd hk (by unfold One; omega))⟩
        | @two _ _ _ v b u d _ h h1 h2 h3 h4 r =>
          have hks : k < s.size := by
            apply Classical.byContradiction; intro hks
            unfold itemS at h1; rw [if_neg hks] at h1; cases h1
          have hd1 : decide ((s.size : Int) ≤ (k : Int)) = false := decide_eq_false (by omega)
          have hb93 : byteAt s k ≠ 93 := fun e => h ⟨hks, e⟩
          have hd2 : (((byteAt s k : Nat) : Int) != 93) = true := by rw [bne_iff_ne]; omega
          have hg := byteAt_eq hks
          have hb93' := hid hb93
          clear hb93 h
          have hvb := itemS_ok h1
          have h1' := hid h1
          clear h1
          go_wp2_with fail
          refine (refItem_ok h1'.out _ hs hk).mono ?_
          rintro e' w1 ⟨rfl, hc⟩
          have HG1 := hid (Blk.chg HG'.out hc id)
          have HO1 := hid (Blk.chg HO'.out hc id)
          have hC := hcr.trans hc
          have hz := hc.size
          clear hcr hc o0 o1 o2 o3 p0 p1 p2 p3 HO' HG'
          obtain ⟨hb1, hb45⟩ := h2
          have hd3 : decide ((b : Int) < (s.size : Int)) = true := decide_eq_true (by omega)
          have hd4 : (((byteAt s b : Nat) : Int) == 45) = true := beq_iff_eq.2 (by omega)
          have hgb := byteAt_eq hb1
          have hb45' := hid hb45
          have hvd := itemS_ok h3
          have hlt : ¬ ((u : Int) < (v : Int)) := by omega
          have h3' := hid h3
          clear hb45 h3
          go_wp2_with fail
          rw [show ((b : Int) + 1) = ((b + 1 : Nat) : Int) from by omega]
          refine (refItem_ok h3'.out _ hs (by omega)).mono ?_
          rintro e' w2 ⟨rfl, hc⟩
          have hb2 := Blk.chg (Blk.new (w1.alloc (.cells #[.int .u8 v, .int .u64 0, .int .u64 0, .int .u64 0, .int .u64 0, .slice none 0 0, .int .i64 0, .int .i64 b, .int .i64 0] 80)) #[.int .u8 v, .int .u64 0, .int .u64 0, .int .u64 0, .int .u64 0, .slice none 0 0, .int .i64 0, .int .i64 b, .int .i64 0] 80) hc id
          rw [World.size_alloc] at hb2
          have HB2 := hid hb2
          have HA2 := hid (Blk.chg (Blk.alloc (Blk.new w1 #[.int .u8 v, .int .u64 0, .int .u64 0, .int .u64 0, .int .u64 0, .slice none 0 0, .int .i64 0, .int .i64 b, .int .i64 0] 80) _) hc id)
          have HG2 := hid (Blk.chg ((Blk.alloc (Blk.alloc HG1.out _) _)) hc id)
          have HO2 := hid (Blk.chg ((Blk.alloc (Blk.alloc HO1.out _) _)) hc id)
          replace hC := ((hC.alloc _).alloc _).trans hc
          clear hc hb2 HG1 HO1
          go_wp2_with (with_reducible refine halt_op (.store 80 (.tmp 10) (.tmp 59)) ?_)
          unfold Halted
          refine store_blk rfl 80 (.tmp 10) (.tmp 59) (by rfl) _ (by rfl) _ (by rfl) HB2.out (by rfl) (by exact infoG) (by rfl) ?_
          intro w3 HB3 hc
          have HA3 := hid (Blk.chg HA2.out hc (by unfold One; omega))
          have HG3 := hid (Blk.chg HG2.out hc (by unfold One; omega))
          have HO3 := hid (Blk.chg HO2.out hc (by unfold One; omega))
          replace hC := hC.then hc (fun i hi hk => absurd hk (by unfold One; omega))
          clear hc HA2 HG2 HO2 HB2
          replace HB3 : Blk w3 (w1.heap.size + 1) #[.int .u8 u, .int .u64 0, .int .u64 0, .int .u64 0, .int .u64 0, .slice none 0 0, .int .i64 0, .int .i64 d, .int .i64 0] 80 := HB3
          have HB3' := hid HB3
          obtain ⟨g0, g1, g2, g3, g4, g5, g6, g7, g8, e0, e1, e2, e3, e4, e5, e6, e7, e8, hlg⟩ := Blk.nine HB3
          clear HB3
          have HA3' := HA3
          obtain ⟨a0, -, -, -, -, -, -, -, -, -, -, -, -, -, -, -, -, -, hla⟩ := Blk.nine HA3.out
          go_wp2_with fail
          refine wp_forget (fun W => CBox W (w.heap.size + 1) x ∧ Blk W w.heap.size #[.int .u8 0, .int .u64 0, .int .u64 0, .int .u64 0, .int .u64 0, .slice none 0 0, .int .i64 0, .int .i64 0, .int .i64 0] 80 ∧ Blk W w1.heap.size #[.int .u8 v, .int .u64 0, .int .u64 0, .int .u64 0, .int .u64 0, .slice none 0 0, .int .i64 0, .int .i64 b, .int .i64 0] 80 ∧ Blk W (w1.heap.size + 1) #[.int .u8 u, .int .u64 0, .int .u64 0, .int .u64 0, .int .u64 0, .slice none 0 0, .int .i64 0, .int .i64 d, .int .i64 0] 80 ∧ Chg Nothing w W) ⟨HO3.out, HG3.out, HA3'.out, HB3'.out, hC⟩ ?_
          rintro W ⟨HOW, HGW, HAW, HBW, hCW⟩
          clear hC HG3 HO3 HA3 HA3' HB3' a0 hla g0 g1 g2 g3 g4 g5 g6 g7 g8 e0 e1 e2 e3 e4 e5 e6 e7 e8 hlg
          have HG' := hid HGW
          have HO' := hid HOW
          obtain ⟨o0, o1, o2, o3, p0, p1, p2, p3, hlo⟩ := CBox.at_ HOW
          have a0 := Blk.cell HAW 0 rfl
          have b0 := Blk.cell HBW 0 rfl
          have hla := Blk.lt HAW
          have hlb := Blk.lt HBW
          clear HGW HOW HAW HBW
          go_region_with (first | (go_at_call 112;  (with_reducible refine (refRangeL v u _ (by omega) (by omega)).mono ?_); rintro e w4 ⟨rfl, hcx⟩; have HO4 := hid (Blk.chg (Blk.drew HO'.out) hcx id); obtain ⟨y0, y1, y2, y3, z0, z1, z2, z3, hl4⟩ := CBox.at_ HO4.out; have hcy := hid hcx; clear hcx) | (go_at_call 119;  (with_reducible refine (refOrL x (rangeC v u) _).mono ?_);  rintro e w5 ⟨rfl, hcx⟩;  have HO5 := hid (Blk.chg HO4.out hcx id); clear o0 o1 o2 o3 p0 p1 p2 p3 y0 y1 y2 y3 z0 z1 z2 z3 a0 b0; obtain ⟨y0, y1, y2, y3, z0, z1, z2, z3, hl5⟩ := CBox.at_ HO5.out; have hcz := hid hcx; clear hcx))
          all_goals
            go_wp2
            go_roundw
            case rel =>
              have hP : Chg (One (w.heap.size + 1)) w5 (putC w5 (w.heap.size + 1) (x ||| rangeC v u)) := (Chg.refl _ _).putOne _
              exact ⟨ d, n + 1, x ||| rangeC v u, by omega, by omega, rfl, by go_num, r, CBox.put HO5.out _, Blk.chg (Blk.chg (Blk.chg (Blk.drew HG'.out) hcy.out id) hcz.out id) hP (by unfold One; omega), Chg.putNew ((hCW.drew.trans hcy.out).trans hcz.out) (Nat.le_succ _) _⟩
            case measure => simp [intOf]; omega
end Go.Proofs.Ytllblpiakijpaaa

/- Layer 13: number, the program's and the document's. -/
namespace Go.Proofs.Ytllblpiakijpaaa
open Go.RowKit
set_option linter.unusedVariables false
attribute [local go_sem ↓] Go.wp_at_zero Go.wp_at_succ
/-- Where the scanner stands. -/
def placeW (b : Nat) (w : World) : Nat := match w.cell? ⟨b, 1, none⟩ with
  | some (.int _ q) => q.toNat
  | _ => 0
theorem SBox.place {w : World} {b : Nat} {s : ByteArray} {a : Nat} {no : Int} (h : SBox w b s a no) : placeW b w = a := by
  unfold placeW; rw [h.at_.r1]; simp
theorem SBox.of {w : World} {b : Nat} {s : ByteArray} {a a' no no' : Int} (h : SBox w b s a no) (ha : a = a') (hn : no = no') : SBox w b s a' no' := by subst ha hn; exact h
theorem SBox.place_put {w : World} {b : Nat} {s : ByteArray} {a : Nat} {no : Int} (h : SBox w b s a no) {n : Nat} : placeW b ((w.drewN n).setCell ⟨b, 1, none⟩ (.int .i64 ((a : Int) + 1))) = a + 1 :=
  SBox.place (SBox.of (SBox.putAt (Blk.drewN h n) ((a : Int) + 1)) (by omega) rfl)
def ScN (F : Rd Nat) (s : ByteArray) (b : Nat) (w : World) (e : Ending) (w' : World) : Prop :=
  ∃ v : Int, e = .returned (.int .i64 v) ∧ (∀ y nx, F = .ok y nx → v = y) ∧ SBox w' b s F.at_ F.no ∧ Chg (One b) w w'
def capD (s : ByteArray) (a j : Nat) : Nat := min (valD s a j) 1000001
theorem capD_le (s : ByteArray) (a j : Nat) : capD s a j ≤ 1000001 := by unfold capD; omega
theorem capD_succ (s : ByteArray) (a j : Nat) : capD s a (j + 1) = min (10 * capD s a j + (byteAt s (a + j) - 48)) 1000001 := by
  unfold capD; rw [valD]; omega
theorem capD_few (s : ByteArray) (a j : Nat) (h : valD s a j ≤ 1000000) : capD s a j = valD s a j := by unfold capD; omega
theorem capD_many (s : ByteArray) (a j : Nat) (h : 1000000 < valD s a j) : capD s a j = 1000001 := by unfold capD; omega
def NmInv (s : ByteArray) (b a m : Nat) (w : World) (nv : Value) (wr : World) : Prop :=
  ∃ j : Nat, j ≤ m ∧ a + j ≤ s.size ∧ nv = .int .i64 (capD s a j) ∧ SBox wr b s (a + j : Nat) 0 ∧ b < w.heap.size ∧ Chg (One b) w wr
theorem min_int (x y : Nat) : (min (x : Int) (y : Int)) = ((min x y : Nat) : Int) := by omega
set_option maxHeartbeats 4000000 in
set_option maxRecDepth 100000 in
theorem number_any (b : Nat) (s : ByteArray) (a m : Nat) (w : World) (H : SBox w b s a 0) (hs : s.size ≤ 9223372036854775000) (ha : a ≤ s.size) (hd : DigRun s a m) :
    Calls Try.prog 71 #[.pointer (some ⟨b, 0, none⟩)] w (ScN (numS s a m) s b w) := by
  obtain ⟨r0, r1, r2, f0, f1, f2, hlt⟩ := H.at_
  have HH := hid H
  have hD := hid hd
  clear H hd
  go_enter Try.func71, Try.ntmps71
  go_wp2_with fail
  go_loopw [4] (fun nv wr => NmInv s b a m w nv wr) (fun _ wr => s.size - placeW b wr)
  case atStart => exact ⟨0, Nat.zero_le _, by omega, rfl, HH.out, hlt, Chg.refl _ _⟩
  case round =>
    obtain ⟨j, hj, hk, rfl, hbox, hbb, hchg⟩ := hrel
    clear r0 r1 r2 f0 f1 f2 hlt HH
    have HB := hid hbox
    have hpl := hid hbox.place
    obtain ⟨r0, r1, r2, f0, f1, f2, hlb⟩ := SBox.at_ hbox
    clear hbox
    obtain ⟨k, hkk⟩ : ∃ k, k = a + j := ⟨_, rfl⟩
    rw [← hkk] at hk HB hpl r1
    have hka := hid hkk
    have hkl : a ≤ k := by omega
    have hE := hid (fun n => end_quiet b s k 0 (wr.drewN n) (Blk.drewN HB.out n) (by omega))
    have hcl := capD_le s a j
    obtain ⟨q, hq⟩ : ∃ q, q = capD s a j := ⟨_, rfl⟩
    rw [← hq] at hcl ⊢
    replace hq := hid hq
    rcases Nat.lt_or_ge j m with hjm | hjm
    · have hdig := hD.out.yes j hjm
      rw [← hka.out] at hdig
      obtain ⟨hks, hd48, hd57⟩ := hdig
      clear hkk
      have hend : decide ((s.size : Int) ≤ (k : Int)) = false := decide_eq_false (by omega)
      rw [hend] at hE
      have hg := byteAt_eq hks
      have hc1 : decide ((48 : Int) ≤ ((byteAt s k : Nat) : Int)) = true := decide_eq_true (by omega)
      have hc2 : decide (((byteAt s k : Nat) : Int) ≤ 57) = true := decide_eq_true (by omega)
      go_wp2_with fail
      go_quiet ((go_at_call 47; exact Calls.quiet_of (hE.out _)))
      go_wp2_with fail
      have k1 := IntWalk.i64_in (10 * (q : Int)) (by omega)
      have k2 := IntWalk.u8_in (((byteAt s k : Nat) : Int) - 48) (by omega)
      have k3 := IntWalk.i64_in (10 * (q : Int) + (((byteAt s k : Nat) : Int) - 48)) (by omega)
      go_quiet (fail)
      go_wp2
      go_roundw
      case rel =>
        refine ⟨j + 1, hjm, by have := hka.out; omega, ?_, SBox.of (SBox.putAt (Blk.drewN HB.out _) _) (by have := hka.out; omega) rfl, hbb, (hchg.drewN _).setOne _ _⟩
        have e := capD_succ s a j
        rw [← hka.out, ← hq.out] at e
        rw [e]
        exact congrArg (Value.int .i64) (by omega)
      case measure =>
        rw [SBox.place_put HB.out, hpl.out]; omega
    · have hjm' : j = m := by omega
      subst hjm'
      have hnd := hD.out.no
      rw [← hka.out] at hnd
      clear hkk
      have hout : s.size ≤ k ∨ (k < s.size ∧ byteAt s k < 48) ∨ (k < s.size ∧ 57 < byteAt s k ∧ 48 ≤ byteAt s k) := by
        unfold isDig at hnd; omega
      clear hnd hjm hj
      have hfin : (j = 0) ∨ (0 < j ∧ byteAt s a = 48 ∧ 1 < j) ∨ (0 < j ∧ byteAt s a = 48 ∧ j = 1) ∨ (0 < j ∧ byteAt s a ≠ 48 ∧ 1000000 < valD s a j) ∨ (0 < j ∧ byteAt s a ≠ 48 ∧ valD s a j ≤ 1000000) := by omega
      have hone : j = 1 → byteAt s a = 48 → valD s a j = 0 := by intro e1 e2; subst e1; simp [valD, e2]
      have hnu := hid (show numS s a j = if j = 0 ∨ (byteAt s a = 48 ∧ 1 < j) ∨ 1000000 < valD s a j then .bad a 134 else .ok (valD s a j) (a + j) from rfl)
      have hqv : Hid (valD s a j ≤ 1000000 → q = valD s a j) := hid fun h => by rw [hq.out]; exact capD_few s a j h
      have hqm : Hid (1000000 < valD s a j → q = 1000001) := hid fun h => by rw [hq.out]; exact capD_many s a j h
      have hjs : 0 < j → a < s.size := fun h => by have := hD.out.yes 0 h; unfold isDig at this; omega
      rcases hout with h1 | ⟨h1, h2⟩ | ⟨h1, h2, h3⟩
      · rcases hfin with e0 | ⟨e0, e1, e2⟩ | ⟨e0, e1, e2⟩ | ⟨e0, e1, e2⟩ | ⟨e0, e1, e2⟩
        · have e1 : k = a := by have := hka.out; omega
          have hF := hid (show numS s a j = .bad a 134 from by rw [hnu.out, if_pos (Or.inl e0)])
          have ht : (((k : Nat) : Int) == (a : Int)) = true := beq_iff_eq.2 (by omega)
          replace e0 := hid e0
          replace e1 := hid e1
          clear hone
          clear hjs
          have hend : decide ((s.size : Int) ≤ (k : Int)) = true := decide_eq_true (by omega)
          rw [hend] at hE
          go_wp2_with fail
          go_quiet ((go_at_call 47; exact Calls.quiet_of (hE.out _)))
          go_wp2_with fail
          refine (fails_any b s k 0 a 134 _ (Blk.drewN HB.out _)).mono ?_
          rintro e w' ⟨rfl, hB, hc⟩
          go_wp2
          go_ret
          exact ⟨_, rfl, (by rw [hF.out]; intro y nx h; cases h), (by rw [hF.out]; exact hB), (hchg.drewN _).trans hc⟩
        · have hF := hid (show numS s a j = .bad a 134 from by rw [hnu.out, if_pos (Or.inr (Or.inl ⟨e1, e2⟩))])
          have ht : (((k : Nat) : Int) == (a : Int)) = false := by rw [beq_eq_false_iff_ne]; have := hka.out; omega
          have has := hjs e0
          have hga := byteAt_eq has
          have ht2 : (((byteAt s a : Nat) : Int) == 48) = true := beq_iff_eq.2 (by omega)
          have ht3 : ((a : Int) + 1 < (k : Int)) := by have := hka.out; omega
          replace e1 := hid e1
          clear hone
          clear hjs
          have hend : decide ((s.size : Int) ≤ (k : Int)) = true := decide_eq_true (by omega)
          rw [hend] at hE
          go_wp2_with fail
          go_quiet ((go_at_call 47; exact Calls.quiet_of (hE.out _)))
          go_wp2_with fail
          refine (fails_any b s k 0 a 134 _ (Blk.drewN HB.out _)).mono ?_
          rintro e w' ⟨rfl, hB, hc⟩
          go_wp2
          go_ret
          exact ⟨_, rfl, (by rw [hF.out]; intro y nx h; cases h), (by rw [hF.out]; exact hB), (hchg.drewN _).trans hc⟩
        · have hz := hone e2 e1
          have hF := hid (show numS s a j = .ok (valD s a j) (a + j) from by rw [hnu.out, if_neg (by omega)])
          have ht : (((k : Nat) : Int) == (a : Int)) = false := by rw [beq_eq_false_iff_ne]; have := hka.out; omega
          have has := hjs e0
          have hga := byteAt_eq has
          have ht2 : (((byteAt s a : Nat) : Int) == 48) = true := beq_iff_eq.2 (by omega)
          have ht3 : ¬ ((a : Int) + 1 < (k : Int)) := by have := hka.out; omega
          have ht4 : ¬ ((1000000 : Int) < (q : Int)) := by have := hqv.out (by omega); omega
          replace e1 := hid e1
          replace e2 := hid e2
          replace hz := hid hz
          clear hone
          clear hjs
          have hend : decide ((s.size : Int) ≤ (k : Int)) = true := decide_eq_true (by omega)
          rw [hend] at hE
          go_wp2_with fail
          go_quiet ((go_at_call 47; exact Calls.quiet_of (hE.out _)))
          go_wp2
          go_ret
          exact ⟨_, rfl, (by rw [hF.out]; intro y nx h; injection h with h1 h2; rw [← h1]; have := hqv.out (by have := hz.out; omega); omega), (by rw [hF.out]; exact SBox.of (Blk.drewN HB.out _) (by show (k : Int) = ((a + j : Nat) : Int); have := hka.out; omega) rfl), hchg.drewN _⟩
        · have hF := hid (show numS s a j = .bad a 134 from by rw [hnu.out, if_pos (Or.inr (Or.inr e2))])
          have ht : (((k : Nat) : Int) == (a : Int)) = false := by rw [beq_eq_false_iff_ne]; have := hka.out; omega
          have has := hjs e0
          have hga := byteAt_eq has
          have ht2 : (((byteAt s a : Nat) : Int) == 48) = false := by rw [beq_eq_false_iff_ne]; omega
          have ht4 : ((1000000 : Int) < (q : Int)) := by have := hqm.out e2; omega
          replace e1 := hid e1
          clear hone
          clear hjs
          have hend : decide ((s.size : Int) ≤ (k : Int)) = true := decide_eq_true (by omega)
          rw [hend] at hE
          go_wp2_with fail
          go_quiet ((go_at_call 47; exact Calls.quiet_of (hE.out _)))
          go_wp2_with fail
          refine (fails_any b s k 0 a 134 _ (Blk.drewN HB.out _)).mono ?_
          rintro e w' ⟨rfl, hB, hc⟩
          go_wp2
          go_ret
          exact ⟨_, rfl, (by rw [hF.out]; intro y nx h; cases h), (by rw [hF.out]; exact hB), (hchg.drewN _).trans hc⟩
        · have hF := hid (show numS s a j = .ok (valD s a j) (a + j) from by rw [hnu.out, if_neg (by omega)])
          have ht : (((k : Nat) : Int) == (a : Int)) = false := by rw [beq_eq_false_iff_ne]; have := hka.out; omega
          have has := hjs e0
          have hga := byteAt_eq has
          have ht2 : (((byteAt s a : Nat) : Int) == 48) = false := by rw [beq_eq_false_iff_ne]; omega
          have ht4 : ¬ ((1000000 : Int) < (q : Int)) := by have := hqv.out e2; omega
          replace e1 := hid e1
          clear hone
          clear hjs
          have hend : decide ((s.size : Int) ≤ (k : Int)) = true := decide_eq_true (by omega)
          rw [hend] at hE
          go_wp2_with fail
          go_quiet ((go_at_call 47; exact Calls.quiet_of (hE.out _)))
          go_wp2
          go_ret
          exact ⟨_, rfl, (by rw [hF.out]; intro y nx h; injection h with h1 h2; rw [← h1]; have := hqv.out e2; omega), (by rw [hF.out]; exact SBox.of (Blk.drewN HB.out _) (by show (k : Int) = ((a + j : Nat) : Int); have := hka.out; omega) rfl), hchg.drewN _⟩
      · rcases hfin with e0 | ⟨e0, e1, e2⟩ | ⟨e0, e1, e2⟩ | ⟨e0, e1, e2⟩ | ⟨e0, e1, e2⟩
        · have e1 : k = a := by have := hka.out; omega
          have hF := hid (show numS s a j = .bad a 134 from by rw [hnu.out, if_pos (Or.inl e0)])
          have ht : (((k : Nat) : Int) == (a : Int)) = true := beq_iff_eq.2 (by omega)
          replace e0 := hid e0
          replace e1 := hid e1
          clear hone
          clear hjs
          have hend : decide ((s.size : Int) ≤ (k : Int)) = false := decide_eq_false (by omega)
          rw [hend] at hE
          have hg := byteAt_eq h1
          have hc1 : decide ((48 : Int) ≤ ((byteAt s k : Nat) : Int)) = false := decide_eq_false (by omega)
          go_wp2_with fail
          go_quiet ((go_at_call 47; exact Calls.quiet_of (hE.out _)))
          go_wp2_with fail
          refine (fails_any b s k 0 a 134 _ (Blk.drewN HB.out _)).mono ?_
          rintro e w' ⟨rfl, hB, hc⟩
          go_wp2
          go_ret
          exact ⟨_, rfl, (by rw [hF.out]; intro y nx h; cases h), (by rw [hF.out]; exact hB), (hchg.drewN _).trans hc⟩
        · have hF := hid (show numS s a j = .bad a 134 from by rw [hnu.out, if_pos (Or.inr (Or.inl ⟨e1, e2⟩))])
          have ht : (((k : Nat) : Int) == (a : Int)) = false := by rw [beq_eq_false_iff_ne]; have := hka.out; omega
          have has := hjs e0
          have hga := byteAt_eq has
          have ht2 : (((byteAt s a : Nat) : Int) == 48) = true := beq_iff_eq.2 (by omega)
          have ht3 : ((a : Int) + 1 < (k : Int)) := by have := hka.out; omega
          replace e1 := hid e1
          clear hone
          clear hjs
          have hend : decide ((s.size : Int) ≤ (k : Int)) = false := decide_eq_false (by omega)
          rw [hend] at hE
          have hg := byteAt_eq h1
          have hc1 : decide ((48 : Int) ≤ ((byteAt s k : Nat) : Int)) = false := decide_eq_false (by omega)
          go_wp2_with fail
          go_quiet ((go_at_call 47; exact Calls.quiet_of (hE.out _)))
          go_wp2_with fail
          refine (fails_any b s k 0 a 134 _ (Blk.drewN HB.out _)).mono ?_
          rintro e w' ⟨rfl, hB, hc⟩
          go_wp2
          go_ret
          exact ⟨_, rfl, (by rw [hF.out]; intro y nx h; cases h), (by rw [hF.out]; exact hB), (hchg.drewN _).trans hc⟩
        · have hz := hone e2 e1
          have hF := hid (show numS s a j = .ok (valD s a j) (a + j) from by rw [hnu.out, if_neg (by omega)])
          have ht : (((k : Nat) : Int) == (a : Int)) = false := by rw [beq_eq_false_iff_ne]; have := hka.out; omega
          have has := hjs e0
          have hga := byteAt_eq has
          have ht2 : (((byteAt s a : Nat) : Int) == 48) = true := beq_iff_eq.2 (by omega)
          have ht3 : ¬ ((a : Int) + 1 < (k : Int)) := by have := hka.out; omega
          have ht4 : ¬ ((1000000 : Int) < (q : Int)) := by have := hqv.out (by omega); omega
          replace e1 := hid e1
          replace e2 := hid e2
          replace hz := hid hz
          clear hone
          clear hjs
          have hend : decide ((s.size : Int) ≤ (k : Int)) = false := decide_eq_false (by omega)
          rw [hend] at hE
          have hg := byteAt_eq h1
          have hc1 : decide ((48 : Int) ≤ ((byteAt s k : Nat) : Int)) = false := decide_eq_false (by omega)
          go_wp2_with fail
          go_quiet ((go_at_call 47; exact Calls.quiet_of (hE.out _)))
          go_wp2
          go_ret
          exact ⟨_, rfl, (by rw [hF.out]; intro y nx h; injection h with h1 h2; rw [← h1]; have := hqv.out (by have := hz.out; omega); omega), (by rw [hF.out]; exact SBox.of (Blk.drewN HB.out _) (by show (k : Int) = ((a + j : Nat) : Int); have := hka.out; omega) rfl), hchg.drewN _⟩
        · have hF := hid (show numS s a j = .bad a 134 from by rw [hnu.out, if_pos (Or.inr (Or.inr e2))])
          have ht : (((k : Nat) : Int) == (a : Int)) = false := by rw [beq_eq_false_iff_ne]; have := hka.out; omega
          have has := hjs e0
          have hga := byteAt_eq has
          have ht2 : (((byteAt s a : Nat) : Int) == 48) = false := by rw [beq_eq_false_iff_ne]; omega
          have ht4 : ((1000000 : Int) < (q : Int)) := by have := hqm.out e2; omega
          replace e1 := hid e1
          clear hone
          clear hjs
          have hend : decide ((s.size : Int) ≤ (k : Int)) = false := decide_eq_false (by omega)
          rw [hend] at hE
          have hg := byteAt_eq h1
          have hc1 : decide ((48 : Int) ≤ ((byteAt s k : Nat) : Int)) = false := decide_eq_false (by omega)
          go_wp2_with fail
          go_quiet ((go_at_call 47; exact Calls.quiet_of (hE.out _)))
          go_wp2_with fail
          refine (fails_any b s k 0 a 134 _ (Blk.drewN HB.out _)).mono ?_
          rintro e w' ⟨rfl, hB, hc⟩
          go_wp2
          go_ret
          exact ⟨_, rfl, (by rw [hF.out]; intro y nx h; cases h), (by rw [hF.out]; exact hB), (hchg.drewN _).trans hc⟩
        · have hF := hid (show numS s a j = .ok (valD s a j) (a + j) from by rw [hnu.out, if_neg (by omega)])
          have ht : (((k : Nat) : Int) == (a : Int)) = false := by rw [beq_eq_false_iff_ne]; have := hka.out; omega
          have has := hjs e0
          have hga := byteAt_eq has
          have ht2 : (((byteAt s a : Nat) : Int) == 48) = false := by rw [beq_eq_false_iff_ne]; omega
          have ht4 : ¬ ((1000000 : Int) < (q : Int)) := by have := hqv.out e2; omega
          replace e1 := hid e1
          clear hone
          clear hjs
          have hend : decide ((s.size : Int) ≤ (k : Int)) = false := decide_eq_false (by omega)
          rw [hend] at hE
          have hg := byteAt_eq h1
          have hc1 : decide ((48 : Int) ≤ ((byteAt s k : Nat) : Int)) = false := decide_eq_false (by omega)
          go_wp2_with fail
          go_quiet ((go_at_call 47; exact Calls.quiet_of (hE.out _)))
          go_wp2
          go_ret
          exact ⟨_, rfl, (by rw [hF.out]; intro y nx h; injection h with h1 h2; rw [← h1]; have := hqv.out e2; omega), (by rw [hF.out]; exact SBox.of (Blk.drewN HB.out _) (by show (k : Int) = ((a + j : Nat) : Int); have := hka.out; omega) rfl), hchg.drewN _⟩
      · rcases hfin with e0 | ⟨e0, e1, e2⟩ | ⟨e0, e1, e2⟩ | ⟨e0, e1, e2⟩ | ⟨e0, e1, e2⟩
        · have e1 : k = a := by have := hka.out; omega
          have hF := hid (show numS s a j = .bad a 134 from by rw [hnu.out, if_pos (Or.inl e0)])
          have ht : (((k : Nat) : Int) == (a : Int)) = true := beq_iff_eq.2 (by omega)
          replace e0 := hid e0
          replace e1 := hid e1
          clear hone
          clear hjs
          have hend : decide ((s.size : Int) ≤ (k : Int)) = false := decide_eq_false (by omega)
          rw [hend] at hE
          have hg := byteAt_eq h1
          have hc1 : decide ((48 : Int) ≤ ((byteAt s k : Nat) : Int)) = true := decide_eq_true (by omega)
          have hc2 : decide (((byteAt s k : Nat) : Int) ≤ 57) = false := decide_eq_false (by omega)
          go_wp2_with fail
          go_quiet ((go_at_call 47; exact Calls.quiet_of (hE.out _)))
          go_wp2_with fail
          refine (fails_any b s k 0 a 134 _ (Blk.drewN HB.out _)).mono ?_
          rintro e w' ⟨rfl, hB, hc⟩
          go_wp2
          go_ret
          exact ⟨_, rfl, (by rw [hF.out]; intro y nx h; cases h), (by rw [hF.out]; exact hB), (hchg.drewN _).trans hc⟩
        · have hF := hid (show numS s a j = .bad a 134 from by rw [hnu.out, if_pos (Or.inr (Or.inl ⟨e1, e2⟩))])
          have ht : (((k : Nat) : Int) == (a : Int)) = false := by rw [beq_eq_false_iff_ne]; have := hka.out; omega
          have has := hjs e0
          have hga := byteAt_eq has
          have ht2 : (((byteAt s a : Nat) : Int) == 48) = true := beq_iff_eq.2 (by omega)
          have ht3 : ((a : Int) + 1 < (k : Int)) := by have := hka.out; omega
          replace e1 := hid e1
          clear hone
          clear hjs
          have hend : decide ((s.size : Int) ≤ (k : Int)) = false := decide_eq_false (by omega)
          rw [hend] at hE
          have hg := byteAt_eq h1
          have hc1 : decide ((48 : Int) ≤ ((byteAt s k : Nat) : Int)) = true := decide_eq_true (by omega)
          have hc2 : decide (((byteAt s k : Nat) : Int) ≤ 57) = false := decide_eq_false (by omega)
          go_wp2_with fail
          go_quiet ((go_at_call 47; exact Calls.quiet_of (hE.out _)))
          go_wp2_with fail
          refine (fails_any b s k 0 a 134 _ (Blk.drewN HB.out _)).mono ?_
          rintro e w' ⟨rfl, hB, hc⟩
          go_wp2
          go_ret
          exact ⟨_, rfl, (by rw [hF.out]; intro y nx h; cases h), (by rw [hF.out]; exact hB), (hchg.drewN _).trans hc⟩
        · have hz := hone e2 e1
          have hF := hid (show numS s a j = .ok (valD s a j) (a + j) from by rw [hnu.out, if_neg (by omega)])
          have ht : (((k : Nat) : Int) == (a : Int)) = false := by rw [beq_eq_false_iff_ne]; have := hka.out; omega
          have has := hjs e0
          have hga := byteAt_eq has
          have ht2 : (((byteAt s a : Nat) : Int) == 48) = true := beq_iff_eq.2 (by omega)
          have ht3 : ¬ ((a : Int) + 1 < (k : Int)) := by have := hka.out; omega
          have ht4 : ¬ ((1000000 : Int) < (q : Int)) := by have := hqv.out (by omega); omega
          replace e1 := hid e1
          replace e2 := hid e2
          replace hz := hid hz
          clear hone
          clear hjs
          have hend : decide ((s.size : Int) ≤ (k : Int)) = false := decide_eq_false (by omega)
          rw [hend] at hE
          have hg := byteAt_eq h1
          have hc1 : decide ((48 : Int) ≤ ((byteAt s k : Nat) : Int)) = true := decide_eq_true (by omega)
          have hc2 : decide (((byteAt s k : Nat) : Int) ≤ 57) = false := decide_eq_false (by omega)
          go_wp2_with fail
          go_quiet ((go_at_call 47; exact Calls.quiet_of (hE.out _)))
          go_wp2
          go_ret
          exact ⟨_, rfl, (by rw [hF.out]; intro y nx h; injection h with h1 h2; rw [← h1]; have := hqv.out (by have := hz.out; omega); omega), (by rw [hF.out]; exact SBox.of (Blk.drewN HB.out _) (by show (k : Int) = ((a + j : Nat) : Int); have := hka.out; omega) rfl), hchg.drewN _⟩
        · have hF := hid (show numS s a j = .bad a 134 from by rw [hnu.out, if_pos (Or.inr (Or.inr e2))])
          have ht : (((k : Nat) : Int) == (a : Int)) = false := by rw [beq_eq_false_iff_ne]; have := hka.out; omega
          have has := hjs e0
          have hga := byteAt_eq has
          have ht2 : (((byteAt s a : Nat) : Int) == 48) = false := by rw [beq_eq_false_iff_ne]; omega
          have ht4 : ((1000000 : Int) < (q : Int)) := by have := hqm.out e2; omega
          replace e1 := hid e1
          clear hone
          clear hjs
          have hend : decide ((s.size : Int) ≤ (k : Int)) = false := decide_eq_false (by omega)
          rw [hend] at hE
          have hg := byteAt_eq h1
          have hc1 : decide ((48 : Int) ≤ ((byteAt s k : Nat) : Int)) = true := decide_eq_true (by omega)
          have hc2 : decide (((byteAt s k : Nat) : Int) ≤ 57) = false := decide_eq_false (by omega)
          go_wp2_with fail
          go_quiet ((go_at_call 47; exact Calls.quiet_of (hE.out _)))
          go_wp2_with fail
          refine (fails_any b s k 0 a 134 _ (Blk.drewN HB.out _)).mono ?_
          rintro e w' ⟨rfl, hB, hc⟩
          go_wp2
          go_ret
          exact ⟨_, rfl, (by rw [hF.out]; intro y nx h; cases h), (by rw [hF.out]; exact hB), (hchg.drewN _).trans hc⟩
        · have hF := hid (show numS s a j = .ok (valD s a j) (a + j) from by rw [hnu.out, if_neg (by omega)])
          have ht : (((k : Nat) : Int) == (a : Int)) = false := by rw [beq_eq_false_iff_ne]; have := hka.out; omega
          have has := hjs e0
          have hga := byteAt_eq has
          have ht2 : (((byteAt s a : Nat) : Int) == 48) = false := by rw [beq_eq_false_iff_ne]; omega
          have ht4 : ¬ ((1000000 : Int) < (q : Int)) := by have := hqv.out e2; omega
          replace e1 := hid e1
          clear hone
          clear hjs
          have hend : decide ((s.size : Int) ≤ (k : Int)) = false := decide_eq_false (by omega)
          rw [hend] at hE
          have hg := byteAt_eq h1
          have hc1 : decide ((48 : Int) ≤ ((byteAt s k : Nat) : Int)) = true := decide_eq_true (by omega)
          have hc2 : decide (((byteAt s k : Nat) : Int) ≤ 57) = false := decide_eq_false (by omega)
          go_wp2_with fail
          go_quiet ((go_at_call 47; exact Calls.quiet_of (hE.out _)))
          go_wp2
          go_ret
          exact ⟨_, rfl, (by rw [hF.out]; intro y nx h; injection h with h1 h2; rw [← h1]; have := hqv.out e2; omega), (by rw [hF.out]; exact SBox.of (Blk.drewN HB.out _) (by show (k : Int) = ((a + j : Nat) : Int); have := hka.out; omega) rfl), hchg.drewN _⟩
end Go.Proofs.Ytllblpiakijpaaa

/- Layer 13: the document's number, kind. -/
namespace Go.Proofs.Ytllblpiakijpaaa
open Go.RowKit
set_option linter.unusedVariables false
def gotN (F : Rd Nat) : Value := .agg #[.int .u8 0, .int .u64 0, .int .u64 0, .int .u64 0, .int .u64 0, .slice none 0 0, .int .i64 (F.val 0 : Nat), .int .i64 (F.at_ : Nat), .int .i64 F.no]
def RnmInv (s : ByteArray) (a m : Nat) (w : World) (tv nv : Value) (wr : World) : Prop :=
  ∃ (j : Nat) (q : Nat), j ≤ m ∧ a + j ≤ s.size ∧ tv = .int .i64 (a + j : Nat) ∧ nv = .int .i64 q ∧ q ≤ 10000009 ∧ Hid (valD s a j ≤ 1000000 → q = valD s a j) ∧ Hid (1000000 < valD s a j → 1000000 < q) ∧ Blk wr w.heap.size #[.int .u8 0, .int .u64 0, .int .u64 0, .int .u64 0, .int .u64 0, .slice none 0 0, .int .i64 0, .int .i64 0, .int .i64 0] 80 ∧ Chg Nothing w wr
theorem infoG' : (Try.prog.info? 80).map (·.size) = some 9 := by kernel_rfl
set_option maxHeartbeats 4000000 in
set_option maxRecDepth 100000 in
theorem refNumber_any (s : ByteArray) (a m : Nat) (w : World) (hs : s.size ≤ 9223372036854775000) (ha : a ≤ s.size) (hd : DigRun s a m) :
    Calls Try.prog 77 #[.string s, .int .i64 a] w fun e w' => e = .returned (gotN (numS s a m)) ∧ Chg Nothing w w' := by
  have hD := hid hd
  clear hd
  go_enter Try.func77, Try.ntmps77
  go_wp2_with fail
  go_loopw [5, 6] (fun tv nv wr => RnmInv s a m w tv nv wr) (fun tv _ _ => s.size - (intOf tv).toNat)
  case atStart => exact ⟨0, 0, Nat.zero_le _, by omega, rfl, rfl, by omega, hid (fun _ => rfl), hid (fun h => by simp [valD] at h), Blk.new w _ _, (Chg.refl _ _).alloc _⟩
  case round =>
    obtain ⟨j, q, hj, hk, rfl, rfl, hq9, hqv, hqm, hG, hchg⟩ := hrel
    have HG := hid hG
    have hgl := hG.lt
    clear hG
    obtain ⟨k, hkk⟩ : ∃ k, k = a + j := ⟨_, rfl⟩
    rw [← hkk] at hk ⊢
    have hka := hid hkk
    have hkl : a ≤ k := by omega
    rcases Nat.lt_or_ge j m with hjm | hjm
    · have hdig := hD.out.yes j hjm
      rw [← hka.out] at hdig
      obtain ⟨hks, hd48, hd57⟩ := hdig
      have hsu := hid (show valD s a (j + 1) = 10 * valD s a j + (byteAt s k - 48) from by rw [hka.out]; rfl)
      clear hkk
      have hg := byteAt_eq hks
      have hc0 : decide ((k : Int) < (s.size : Int)) = true := decide_eq_true (by omega)
      have hc1 : decide ((48 : Int) ≤ ((byteAt s k : Nat) : Int)) = true := decide_eq_true (by omega)
      have hc2 : decide (((byteAt s k : Nat) : Int) ≤ 57) = true := decide_eq_true (by omega)
      by_cases hq : q ≤ 1000000
      · go_wp2
        go_roundw
        case rel =>
          refine ⟨j + 1, 10 * q + (byteAt s k - 48), hjm, by have := hka.out; omega, congrArg (Value.int .i64) (by have := hka.out; omega), congrArg (Value.int .i64) (by omega), by omega, hid (fun h => ?_), hid (fun h => ?_), HG.out, hchg⟩
          · have := hsu.out; have := hqv.out (by omega); omega
          · have h1 := hsu.out
            rcases Nat.lt_or_ge 1000000 (valD s a j) with h2 | h2
            · have := hqm.out h2; omega
            · have := hqv.out h2; omega
        case measure => simp [intOf]; omega
      · go_wp2
        go_roundw
        case rel =>
          refine ⟨j + 1, q, hjm, by have := hka.out; omega, congrArg (Value.int .i64) (by have := hka.out; omega), rfl, by omega, hid (fun h => ?_), hid (fun h => by omega), HG.out, hchg⟩
          have h1 := hsu.out
          rcases Nat.lt_or_ge 1000000 (valD s a j) with h2 | h2
          · omega
          · have := hqv.out h2; omega
        case measure => simp [intOf]; omega
    · have hjm' : j = m := by omega
      subst hjm'
      have hnd := hD.out.no
      rw [← hka.out] at hnd
      clear hkk
      have hout : s.size ≤ k ∨ (k < s.size ∧ byteAt s k < 48) ∨ (k < s.size ∧ 57 < byteAt s k ∧ 48 ≤ byteAt s k) := by
        unfold isDig at hnd; omega
      clear hnd hjm hj
      have hfin : (j = 0) ∨ (0 < j ∧ byteAt s a = 48 ∧ 1 < j) ∨ (0 < j ∧ byteAt s a = 48 ∧ j = 1) ∨ (0 < j ∧ byteAt s a ≠ 48 ∧ 1000000 < valD s a j) ∨ (0 < j ∧ byteAt s a ≠ 48 ∧ valD s a j ≤ 1000000) := by omega
      have hone : j = 1 → byteAt s a = 48 → valD s a j = 0 := by intro e1 e2; subst e1; simp [valD, e2]
      have hnu := hid (show numS s a j = if j = 0 ∨ (byteAt s a = 48 ∧ 1 < j) ∨ 1000000 < valD s a j then .bad a 134 else .ok (valD s a j) (a + j) from rfl)
      have hjs : 0 < j → a < s.size := fun h => by have := hD.out.yes 0 h; unfold isDig at this; omega
      rcases hout with h1 | ⟨h1, h2⟩ | ⟨h1, h2, h3⟩
      · rcases hfin with e0 | ⟨e0, e1, e2⟩ | ⟨e0, e1, e2⟩ | ⟨e0, e1, e2⟩ | ⟨e0, e1, e2⟩
        · have e1 : k = a := by have := hka.out; omega
          have hF := hid (show numS s a j = .bad a 134 from by rw [hnu.out, if_pos (Or.inl e0)])
          have ht : (((k : Nat) : Int) == (a : Int)) = true := beq_iff_eq.2 (by omega)
          replace e0 := hid e0
          replace e1 := hid e1
          clear hone
          clear hjs
          have hc0 : decide ((k : Int) < (s.size : Int)) = false := decide_eq_false (by omega)
          go_wp2_with (with_reducible refine halt_op (.store 80 (.tmp 4) (.tmp 56)) ?_)
          unfold Halted
          refine store_blk rfl 80 (.tmp 4) (.tmp 56) (by rfl) _ (by rfl) _ (by rfl) HG.out (by rfl) (by exact infoG') (by rfl) ?_
          intro wz HR hr
          go_wp2
          exact bodyPost_ret (results_cell_row Try.results77 _ _ _ _ _ _ _ (by rfl) HR Try.underlying80 rfl (by exact infoG')) rfl ⟨by rw [hF.out]; rfl, hchg.then hr (fun i hi hk => absurd hk (by unfold One; omega))⟩
        · have hF := hid (show numS s a j = .bad a 134 from by rw [hnu.out, if_pos (Or.inr (Or.inl ⟨e1, e2⟩))])
          have ht : (((k : Nat) : Int) == (a : Int)) = false := by rw [beq_eq_false_iff_ne]; have := hka.out; omega
          have has := hjs e0
          have hga := byteAt_eq has
          have ht2 : (((byteAt s a : Nat) : Int) == 48) = true := beq_iff_eq.2 (by omega)
          have ht3 : ((a : Int) + 1 < (k : Int)) := by have := hka.out; omega
          replace e1 := hid e1
          clear hone
          clear hjs
          have hc0 : decide ((k : Int) < (s.size : Int)) = false := decide_eq_false (by omega)
          go_wp2_with (with_reducible refine halt_op (.store 80 (.tmp 4) (.tmp 56)) ?_)
          unfold Halted
          refine store_blk rfl 80 (.tmp 4) (.tmp 56) (by rfl) _ (by rfl) _ (by rfl) HG.out (by rfl) (by exact infoG') (by rfl) ?_
          intro wz HR hr
          go_wp2
          exact bodyPost_ret (results_cell_row Try.results77 _ _ _ _ _ _ _ (by rfl) HR Try.underlying80 rfl (by exact infoG')) rfl ⟨by rw [hF.out]; rfl, hchg.then hr (fun i hi hk => absurd hk (by unfold One; omega))⟩
        · have hz := hone e2 e1
          have hF := hid (show numS s a j = .ok (valD s a j) (a + j) from by rw [hnu.out, if_neg (by omega)])
          have ht : (((k : Nat) : Int) == (a : Int)) = false := by rw [beq_eq_false_iff_ne]; have := hka.out; omega
          have has := hjs e0
          have hga := byteAt_eq has
          have ht2 : (((byteAt s a : Nat) : Int) == 48) = true := beq_iff_eq.2 (by omega)
          have ht3 : ¬ ((a : Int) + 1 < (k : Int)) := by have := hka.out; omega
          have ht4 : ¬ ((1000000 : Int) < (q : Int)) := by have := hqv.out (by omega); omega
          replace e1 := hid e1
          replace e2 := hid e2
          replace hz := hid hz
          clear hone
          clear hjs
          have hc0 : decide ((k : Int) < (s.size : Int)) = false := decide_eq_false (by omega)
          go_wp2_with (with_reducible refine halt_op (.store 80 (.tmp 4) (.tmp 59)) ?_)
          unfold Halted
          refine store_blk rfl 80 (.tmp 4) (.tmp 59) (by rfl) _ (by rfl) _ (by rfl) HG.out (by rfl) (by exact infoG') (by rfl) ?_
          intro wz HR hr
          go_wp2
          exact bodyPost_ret (results_cell_row Try.results77 _ _ _ _ _ _ _ (by rfl) HR Try.underlying80 rfl (by exact infoG')) rfl ⟨by rw [hF.out]; unfold gotN; simp only [Rd.val, Rd.at_, Rd.no]; rw [← hqv.out (by have := hz.out; omega), ← hka.out], hchg.then hr (fun i hi hk => absurd hk (by unfold One; omega))⟩
        · have hF := hid (show numS s a j = .bad a 134 from by rw [hnu.out, if_pos (Or.inr (Or.inr e2))])
          have ht : (((k : Nat) : Int) == (a : Int)) = false := by rw [beq_eq_false_iff_ne]; have := hka.out; omega
          have has := hjs e0
          have hga := byteAt_eq has
          have ht2 : (((byteAt s a : Nat) : Int) == 48) = false := by rw [beq_eq_false_iff_ne]; omega
          have ht4 : ((1000000 : Int) < (q : Int)) := by have := hqm.out e2; omega
          replace e1 := hid e1
          clear hone
          clear hjs
          have hc0 : decide ((k : Int) < (s.size : Int)) = false := decide_eq_false (by omega)
          go_wp2_with (with_reducible refine halt_op (.store 80 (.tmp 4) (.tmp 56)) ?_)
          unfold Halted
          refine store_blk rfl 80 (.tmp 4) (.tmp 56) (by rfl) _ (by rfl) _ (by rfl) HG.out (by rfl) (by exact infoG') (by rfl) ?_
          intro wz HR hr
          go_wp2
          exact bodyPost_ret (results_cell_row Try.results77 _ _ _ _ _ _ _ (by rfl) HR Try.underlying80 rfl (by exact infoG')) rfl ⟨by rw [hF.out]; rfl, hchg.then hr (fun i hi hk => absurd hk (by unfold One; omega))⟩
        · have hF := hid (show numS s a j = .ok (valD s a j) (a + j) from by rw [hnu.out, if_neg (by omega)])
          have ht : (((k : Nat) : Int) == (a : Int)) = false := by rw [beq_eq_false_iff_ne]; have := hka.out; omega
          have has := hjs e0
          have hga := byteAt_eq has
          have ht2 : (((byteAt s a : Nat) : Int) == 48) = false := by rw [beq_eq_false_iff_ne]; omega
          have ht4 : ¬ ((1000000 : Int) < (q : Int)) := by have := hqv.out e2; omega
          replace e1 := hid e1
          clear hone
          clear hjs
          have hc0 : decide ((k : Int) < (s.size : Int)) = false := decide_eq_false (by omega)
          go_wp2_with (with_reducible refine halt_op (.store 80 (.tmp 4) (.tmp 59)) ?_)
          unfold Halted
          refine store_blk rfl 80 (.tmp 4) (.tmp 59) (by rfl) _ (by rfl) _ (by rfl) HG.out (by rfl) (by exact infoG') (by rfl) ?_
          intro wz HR hr
          go_wp2
          exact bodyPost_ret (results_cell_row Try.results77 _ _ _ _ _ _ _ (by rfl) HR Try.underlying80 rfl (by exact infoG')) rfl ⟨by rw [hF.out]; unfold gotN; simp only [Rd.val, Rd.at_, Rd.no]; rw [← hqv.out e2, ← hka.out], hchg.then hr (fun i hi hk => absurd hk (by unfold One; omega))⟩
      · rcases hfin with e0 | ⟨e0, e1, e2⟩ | ⟨e0, e1, e2⟩ | ⟨e0, e1, e2⟩ | ⟨e0, e1, e2⟩
        · have e1 : k = a := by have := hka.out; omega
          have hF := hid (show numS s a j = .bad a 134 from by rw [hnu.out, if_pos (Or.inl e0)])
          have ht : (((k : Nat) : Int) == (a : Int)) = true := beq_iff_eq.2 (by omega)
          replace e0 := hid e0
          replace e1 := hid e1
          clear hone
          clear hjs
          have hc0 : decide ((k : Int) < (s.size : Int)) = true := decide_eq_true (by omega)
          have hg := byteAt_eq h1
          have hc1 : decide ((48 : Int) ≤ ((byteAt s k : Nat) : Int)) = false := decide_eq_false (by omega)
          go_wp2_with (with_reducible refine halt_op (.store 80 (.tmp 4) (.tmp 56)) ?_)
          unfold Halted
          refine store_blk rfl 80 (.tmp 4) (.tmp 56) (by rfl) _ (by rfl) _ (by rfl) HG.out (by rfl) (by exact infoG') (by rfl) ?_
          intro wz HR hr
          go_wp2
          exact bodyPost_ret (results_cell_row Try.results77 _ _ _ _ _ _ _ (by rfl) HR Try.underlying80 rfl (by exact infoG')) rfl ⟨by rw [hF.out]; rfl, hchg.then hr (fun i hi hk => absurd hk (by unfold One; omega))⟩
        · have hF := hid (show numS s a j = .bad a 134 from by rw [hnu.out, if_pos (Or.inr (Or.inl ⟨e1, e2⟩))])
          have ht : (((k : Nat) : Int) == (a : Int)) = false := by rw [beq_eq_false_iff_ne]; have := hka.out; omega
          have has := hjs e0
          have hga := byteAt_eq has
          have ht2 : (((byteAt s a : Nat) : Int) == 48) = true := beq_iff_eq.2 (by omega)
          have ht3 : ((a : Int) + 1 < (k : Int)) := by have := hka.out; omega
          replace e1 := hid e1
          clear hone
          clear hjs
          have hc0 : decide ((k : Int) < (s.size : Int)) = true := decide_eq_true (by omega)
          have hg := byteAt_eq h1
          have hc1 : decide ((48 : Int) ≤ ((byteAt s k : Nat) : Int)) = false := decide_eq_false (by omega)
          go_wp2_with (with_reducible refine halt_op (.store 80 (.tmp 4) (.tmp 56)) ?_)
          unfold Halted
          refine store_blk rfl 80 (.tmp 4) (.tmp 56) (by rfl) _ (by rfl) _ (by rfl) HG.out (by rfl) (by exact infoG') (by rfl) ?_
          intro wz HR hr
          go_wp2
          exact bodyPost_ret (results_cell_row Try.results77 _ _ _ _ _ _ _ (by rfl) HR Try.underlying80 rfl (by exact infoG')) rfl ⟨by rw [hF.out]; rfl, hchg.then hr (fun i hi hk => absurd hk (by unfold One; omega))⟩
        · have hz := hone e2 e1
          have hF := hid (show numS s a j = .ok (valD s a j) (a + j) from by rw [hnu.out, if_neg (by omega)])
          have ht : (((k : Nat) : Int) == (a : Int)) = false := by rw [beq_eq_false_iff_ne]; have := hka.out; omega
          have has := hjs e0
          have hga := byteAt_eq has
          have ht2 : (((byteAt s a : Nat) : Int) == 48) = true := beq_iff_eq.2 (by omega)
          have ht3 : ¬ ((a : Int) + 1 < (k : Int)) := by have := hka.out; omega
          have ht4 : ¬ ((1000000 : Int) < (q : Int)) := by have := hqv.out (by omega); omega
          replace e1 := hid e1
          replace e2 := hid e2
          replace hz := hid hz
          clear hone
          clear hjs
          have hc0 : decide ((k : Int) < (s.size : Int)) = true := decide_eq_true (by omega)
          have hg := byteAt_eq h1
          have hc1 : decide ((48 : Int) ≤ ((byteAt s k : Nat) : Int)) = false := decide_eq_false (by omega)
          go_wp2_with (with_reducible refine halt_op (.store 80 (.tmp 4) (.tmp 59)) ?_)
          unfold Halted
          refine store_blk rfl 80 (.tmp 4) (.tmp 59) (by rfl) _ (by rfl) _ (by rfl) HG.out (by rfl) (by exact infoG') (by rfl) ?_
          intro wz HR hr
          go_wp2
          exact bodyPost_ret (results_cell_row Try.results77 _ _ _ _ _ _ _ (by rfl) HR Try.underlying80 rfl (by exact infoG')) rfl ⟨by rw [hF.out]; unfold gotN; simp only [Rd.val, Rd.at_, Rd.no]; rw [← hqv.out (by have := hz.out; omega), ← hka.out], hchg.then hr (fun i hi hk => absurd hk (by unfold One; omega))⟩
        · have hF := hid (show numS s a j = .bad a 134 from by rw [hnu.out, if_pos (Or.inr (Or.inr e2))])
          have ht : (((k : Nat) : Int) == (a : Int)) = false := by rw [beq_eq_false_iff_ne]; have := hka.out; omega
          have has := hjs e0
          have hga := byteAt_eq has
          have ht2 : (((byteAt s a : Nat) : Int) == 48) = false := by rw [beq_eq_false_iff_ne]; omega
          have ht4 : ((1000000 : Int) < (q : Int)) := by have := hqm.out e2; omega
          replace e1 := hid e1
          clear hone
          clear hjs
          have hc0 : decide ((k : Int) < (s.size : Int)) = true := decide_eq_true (by omega)
          have hg := byteAt_eq h1
          have hc1 : decide ((48 : Int) ≤ ((byteAt s k : Nat) : Int)) = false := decide_eq_false (by omega)
          go_wp2_with (with_reducible refine halt_op (.store 80 (.tmp 4) (.tmp 56)) ?_)
          unfold Halted
          refine store_blk rfl 80 (.tmp 4) (.tmp 56) (by rfl) _ (by rfl) _ (by rfl) HG.out (by rfl) (by exact infoG') (by rfl) ?_
          intro wz HR hr
          go_wp2
          exact bodyPost_ret (results_cell_row Try.results77 _ _ _ _ _ _ _ (by rfl) HR Try.underlying80 rfl (by exact infoG')) rfl ⟨by rw [hF.out]; rfl, hchg.then hr (fun i hi hk => absurd hk (by unfold One; omega))⟩
        · have hF := hid (show numS s a j = .ok (valD s a j) (a + j) from by rw [hnu.out, if_neg (by omega)])
          have ht : (((k : Nat) : Int) == (a : Int)) = false := by rw [beq_eq_false_iff_ne]; have := hka.out; omega
          have has := hjs e0
          have hga := byteAt_eq has
          have ht2 : (((byteAt s a : Nat) : Int) == 48) = false := by rw [beq_eq_false_iff_ne]; omega
          have ht4 : ¬ ((1000000 : Int) < (q : Int)) := by have := hqv.out e2; omega
          replace e1 := hid e1
          clear hone
          clear hjs
          have hc0 : decide ((k : Int) < (s.size : Int)) = true := decide_eq_true (by omega)
          have hg := byteAt_eq h1
          have hc1 : decide ((48 : Int) ≤ ((byteAt s k : Nat) : Int)) = false := decide_eq_false (by omega)
          go_wp2_with (with_reducible refine halt_op (.store 80 (.tmp 4) (.tmp 59)) ?_)
          unfold Halted
          refine store_blk rfl 80 (.tmp 4) (.tmp 59) (by rfl) _ (by rfl) _ (by rfl) HG.out (by rfl) (by exact infoG') (by rfl) ?_
          intro wz HR hr
          go_wp2
          exact bodyPost_ret (results_cell_row Try.results77 _ _ _ _ _ _ _ (by rfl) HR Try.underlying80 rfl (by exact infoG')) rfl ⟨by rw [hF.out]; unfold gotN; simp only [Rd.val, Rd.at_, Rd.no]; rw [← hqv.out e2, ← hka.out], hchg.then hr (fun i hi hk => absurd hk (by unfold One; omega))⟩
      · rcases hfin with e0 | ⟨e0, e1, e2⟩ | ⟨e0, e1, e2⟩ | ⟨e0, e1, e2⟩ | ⟨e0, e1, e2⟩
        · have e1 : k = a := by have := hka.out; omega
          have hF := hid (show numS s a j = .bad a 134 from by rw [hnu.out, if_pos (Or.inl e0)])
          have ht : (((k : Nat) : Int) == (a : Int)) = true := beq_iff_eq.2 (by omega)
          replace e0 := hid e0
          replace e1 := hid e1
          clear hone
          clear hjs
          have hc0 : decide ((k : Int) < (s.size : Int)) = true := decide_eq_true (by omega)
          have hg := byteAt_eq h1
          have hc1 : decide ((48 : Int) ≤ ((byteAt s k : Nat) : Int)) = true := decide_eq_true (by omega)
          have hc2 : decide (((byteAt s k : Nat) : Int) ≤ 57) = false := decide_eq_false (by omega)
          go_wp2_with (with_reducible refine halt_op (.store 80 (.tmp 4) (.tmp 56)) ?_)
          unfold Halted
          refine store_blk rfl 80 (.tmp 4) (.tmp 56) (by rfl) _ (by rfl) _ (by rfl) HG.out (by rfl) (by exact infoG') (by rfl) ?_
          intro wz HR hr
          go_wp2
          exact bodyPost_ret (results_cell_row Try.results77 _ _ _ _ _ _ _ (by rfl) HR Try.underlying80 rfl (by exact infoG')) rfl ⟨by rw [hF.out]; rfl, hchg.then hr (fun i hi hk => absurd hk (by unfold One; omega))⟩
        · have hF := hid (show numS s a j = .bad a 134 from by rw [hnu.out, if_pos (Or.inr (Or.inl ⟨e1, e2⟩))])
          have ht : (((k : Nat) : Int) == (a : Int)) = false := by rw [beq_eq_false_iff_ne]; have := hka.out; omega
          have has := hjs e0
          have hga := byteAt_eq has
          have ht2 : (((byteAt s a : Nat) : Int) == 48) = true := beq_iff_eq.2 (by omega)
          have ht3 : ((a : Int) + 1 < (k : Int)) := by have := hka.out; omega
          replace e1 := hid e1
          clear hone
          clear hjs
          have hc0 : decide ((k : Int) < (s.size : Int)) = true := decide_eq_true (by omega)
          have hg := byteAt_eq h1
          have hc1 : decide ((48 : Int) ≤ ((byteAt s k : Nat) : Int)) = true := decide_eq_true (by omega)
          have hc2 : decide (((byteAt s k : Nat) : Int) ≤ 57) = false := decide_eq_false (by omega)
          go_wp2_with (with_reducible refine halt_op (.store 80 (.tmp 4) (.tmp 56)) ?_)
          unfold Halted
          refine store_blk rfl 80 (.tmp 4) (.tmp 56) (by rfl) _ (by rfl) _ (by rfl) HG.out (by rfl) (by exact infoG') (by rfl) ?_
          intro wz HR hr
          go_wp2
          exact bodyPost_ret (results_cell_row Try.results77 _ _ _ _ _ _ _ (by rfl) HR Try.underlying80 rfl (by exact infoG')) rfl ⟨by rw [hF.out]; rfl, hchg.then hr (fun i hi hk => absurd hk (by unfold One; omega))⟩
        · have hz := hone e2 e1
          have hF := hid (show numS s a j = .ok (valD s a j) (a + j) from by rw [hnu.out, if_neg (by omega)])
          have ht : (((k : Nat) : Int) == (a : Int)) = false := by rw [beq_eq_false_iff_ne]; have := hka.out; omega
          have has := hjs e0
          have hga := byteAt_eq has
          have ht2 : (((byteAt s a : Nat) : Int) == 48) = true := beq_iff_eq.2 (by omega)
          have ht3 : ¬ ((a : Int) + 1 < (k : Int)) := by have := hka.out; omega
          have ht4 : ¬ ((1000000 : Int) < (q : Int)) := by have := hqv.out (by omega); omega
          replace e1 := hid e1
          replace e2 := hid e2
          replace hz := hid hz
          clear hone
          clear hjs
          have hc0 : decide ((k : Int) < (s.size : Int)) = true := decide_eq_true (by omega)
          have hg := byteAt_eq h1
          have hc1 : decide ((48 : Int) ≤ ((byteAt s k : Nat) : Int)) = true := decide_eq_true (by omega)
          have hc2 : decide (((byteAt s k : Nat) : Int) ≤ 57) = false := decide_eq_false (by omega)
          go_wp2_with (with_reducible refine halt_op (.store 80 (.tmp 4) (.tmp 59)) ?_)
          unfold Halted
          refine store_blk rfl 80 (.tmp 4) (.tmp 59) (by rfl) _ (by rfl) _ (by rfl) HG.out (by rfl) (by exact infoG') (by rfl) ?_
          intro wz HR hr
          go_wp2
          exact bodyPost_ret (results_cell_row Try.results77 _ _ _ _ _ _ _ (by rfl) HR Try.underlying80 rfl (by exact infoG')) rfl ⟨by rw [hF.out]; unfold gotN; simp only [Rd.val, Rd.at_, Rd.no]; rw [← hqv.out (by have := hz.out; omega), ← hka.out], hchg.then hr (fun i hi hk => absurd hk (by unfold One; omega))⟩
        · have hF := hid (show numS s a j = .bad a 134 from by rw [hnu.out, if_pos (Or.inr (Or.inr e2))])
          have ht : (((k : Nat) : Int) == (a : Int)) = false := by rw [beq_eq_false_iff_ne]; have := hka.out; omega
          have has := hjs e0
          have hga := byteAt_eq has
          have ht2 : (((byteAt s a : Nat) : Int) == 48) = false := by rw [beq_eq_false_iff_ne]; omega
          have ht4 : ((1000000 : Int) < (q : Int)) := by have := hqm.out e2; omega
          replace e1 := hid e1
          clear hone
          clear hjs
          have hc0 : decide ((k : Int) < (s.size : Int)) = true := decide_eq_true (by omega)
          have hg := byteAt_eq h1
          have hc1 : decide ((48 : Int) ≤ ((byteAt s k : Nat) : Int)) = true := decide_eq_true (by omega)
          have hc2 : decide (((byteAt s k : Nat) : Int) ≤ 57) = false := decide_eq_false (by omega)
          go_wp2_with (with_reducible refine halt_op (.store 80 (.tmp 4) (.tmp 56)) ?_)
          unfold Halted
          refine store_blk rfl 80 (.tmp 4) (.tmp 56) (by rfl) _ (by rfl) _ (by rfl) HG.out (by rfl) (by exact infoG') (by rfl) ?_
          intro wz HR hr
          go_wp2
          exact bodyPost_ret (results_cell_row Try.results77 _ _ _ _ _ _ _ (by rfl) HR Try.underlying80 rfl (by exact infoG')) rfl ⟨by rw [hF.out]; rfl, hchg.then hr (fun i hi hk => absurd hk (by unfold One; omega))⟩
        · have hF := hid (show numS s a j = .ok (valD s a j) (a + j) from by rw [hnu.out, if_neg (by omega)])
          have ht : (((k : Nat) : Int) == (a : Int)) = false := by rw [beq_eq_false_iff_ne]; have := hka.out; omega
          have has := hjs e0
          have hga := byteAt_eq has
          have ht2 : (((byteAt s a : Nat) : Int) == 48) = false := by rw [beq_eq_false_iff_ne]; omega
          have ht4 : ¬ ((1000000 : Int) < (q : Int)) := by have := hqv.out e2; omega
          replace e1 := hid e1
          clear hone
          clear hjs
          have hc0 : decide ((k : Int) < (s.size : Int)) = true := decide_eq_true (by omega)
          have hg := byteAt_eq h1
          have hc1 : decide ((48 : Int) ≤ ((byteAt s k : Nat) : Int)) = true := decide_eq_true (by omega)
          have hc2 : decide (((byteAt s k : Nat) : Int) ≤ 57) = false := decide_eq_false (by omega)
          go_wp2_with (with_reducible refine halt_op (.store 80 (.tmp 4) (.tmp 59)) ?_)
          unfold Halted
          refine store_blk rfl 80 (.tmp 4) (.tmp 59) (by rfl) _ (by rfl) _ (by rfl) HG.out (by rfl) (by exact infoG') (by rfl) ?_
          intro wz HR hr
          go_wp2
          exact bodyPost_ret (results_cell_row Try.results77 _ _ _ _ _ _ _ (by rfl) HR Try.underlying80 rfl (by exact infoG')) rfl ⟨by rw [hF.out]; unfold gotN; simp only [Rd.val, Rd.at_, Rd.no]; rw [← hqv.out e2, ← hka.out], hchg.then hr (fun i hi hk => absurd hk (by unfold One; omega))⟩
end Go.Proofs.Ytllblpiakijpaaa

/- Layer 13: the program's scanner: class. -/
namespace Go.Proofs.Ytllblpiakijpaaa
open Go.RowKit
set_option linter.unusedVariables false
attribute [local go_sem ↓] Go.wp_at_zero Go.wp_at_succ
theorem hasB_eq (s : ByteArray) (a x : Nat) : hasB s a x = decide (a < s.size ∧ byteAt s a = x) := by
  unfold hasB
  by_cases h : a < s.size
  · rw [dif_pos h, byteAt_eq h, Bool.eq_iff_iff]; simp [h]
  · rw [dif_neg h]; simp [h]
theorem classRangeL0 (a : Nat) (w : World) (ha : a < 256) : Calls Try.prog 104 #[.int .u8 a, .int .u8 0] w fun e w' => e = .returned (.agg #[.int .u64 (wd (rangeC a 0) 0), .int .u64 (wd (rangeC a 0) 1), .int .u64 (wd (rangeC a 0) 2), .int .u64 (wd (rangeC a 0) 3)]) ∧ Chg Nothing w w' := classRangeL a 0 w ha (by decide)
/-- What the loop of class keeps: the scanner's place, the items so far, the class so far. -/
structure ClsW (s : ByteArray) (b op : Nat) (R : Rd (Cls × Nat)) (w wr : World) (k n : Nat) (x : Cls) (o : Nat) : Prop where
  box : SBox wr b s k 0
  run : ClassRun s k x n R
  le : k ≤ s.size
  nle : n ≤ k
  out : CBox wr o x
  res : CBox wr w.heap.size 0
  ob : w.heap.size < o
  bb : b < w.heap.size
  chg : Chg (One b) w wr
def ClsJ (s : ByteArray) (b op : Nat) (ng : Bool) (R : Rd (Cls × Nat)) (w : World) (a' : Act) (wr : World) : Prop :=
  ∃ (k n : Nat) (x : Cls) (o : Nat) (u7 u8 u9 u10 u11 u12 u13 u14 u15 u16 u17 u18 u19 u20 u21 u22 u23 u24 u25 u26 u27 u28 u29 u30 u31 u32 u33 u34 u35 u36 u37 u38 u39 u40 u41 u42 u43 u44 u45 u46 u47 u48 u49 u50 u51 u52 u53 u54 u55 u56 u57 u58 u59 u60 u61 u62 u63 u64 u65 u66 u67 u68 u69 u70 u71 u72 u73 u74 u75 u76 u77 u78 u79 u80 u81 : Value), a' = { tmps := #[.pointer (some ⟨b, 0, none⟩), undef, .pointer (some ⟨w.heap.size, 0, none⟩), .int .i64 op, .bool ng, .pointer (some ⟨o, 0, none⟩), .int .i64 n, u7, u8, u9, u10, u11, u12, u13, u14, u15, u16, u17, u18, u19, u20, u21, u22, u23, u24, u25, u26, u27, u28, u29, u30, u31, u32, u33, u34, u35, u36, u37, u38, u39, u40, u41, u42, u43, u44, u45, u46, u47, u48, u49, u50, u51, u52, u53, u54, u55, u56, u57, u58, u59, u60, u61, u62, u63, u64, u65, u66, u67, u68, u69, u70, u71, u72, u73, u74, u75, u76, u77, u78, u79, u80, u81], defers := [] } ∧ ClsW s b op R w wr k n x o
def ClsD (s : ByteArray) (b op : Nat) (ng : Bool) (R : Rd (Cls × Nat)) (w : World) (a' : Act) (wr : World) : Prop :=
  ∃ (k n : Nat) (x : Cls) (o : Nat) (u7 u8 u9 u10 u11 u12 u13 u14 u15 u16 u17 u18 u19 u20 u21 u22 u23 u24 u25 u26 u27 u28 u29 u30 u31 u32 u33 u34 u35 u36 u37 u38 u39 u40 u41 u42 u43 u44 u45 u46 u47 u48 u49 u50 u51 u52 u53 u54 u55 u56 u57 u58 u59 u60 u61 u62 u63 u64 u65 u66 u67 u68 u69 u70 u71 u72 u73 u74 u75 u76 u77 u78 u79 u80 u81 : Value), a' = { tmps := #[.pointer (some ⟨b, 0, none⟩), undef, .pointer (some ⟨w.heap.size, 0, none⟩), .int .i64 op, .bool ng, .pointer (some ⟨o, 0, none⟩), .int .i64 n, u7, u8, u9, u10, u11, u12, u13, u14, u15, u16, u17, u18, u19, u20, u21, u22, u23, u24, u25, u26, u27, u28, u29, u30, u31, u32, u33, u34, u35, u36, u37, u38, u39, u40, u41, u42, u43, u44, u45, u46, u47, u48, u49, u50, u51, u52, u53, u54, u55, u56, u57, u58, u59, u60, u61, u62, u63, u64, u65, u66, u67, u68, u69, u70, u71, u72, u73, u74, u75, u76, u77, u78, u79, u80, u81], defers := [] } ∧ R = .ok (x, n) (k + 1) ∧ SBox wr b s (k + 1 : Nat) 0 ∧ CBox wr o x ∧ CBox wr w.heap.size 0 ∧ w.heap.size < o ∧ b < w.heap.size ∧ Chg (One b) w wr
/-- What class answers. -/
def ScC (F : Rd Cls) (s : ByteArray) (b : Nat) (w : World) (e : Ending) (w' : World) : Prop :=
  ∃ x, e = .returned (.agg #[.int .u64 (wd x 0), .int .u64 (wd x 1), .int .u64 (wd x 2), .int .u64 (wd x 3)]) ∧ (∀ y nx, F = .ok y nx → x = y) ∧ SBox w' b s F.at_ F.no ∧ Chg (One b) w w'
set_option maxHeartbeats 16000000 in
set_option maxRecDepth 100000 in
theorem class_any (b : Nat) (s : ByteArray) (op : Nat) (R : Rd (Cls × Nat)) (hR : ClassRun s (beginS s op) 0 0 R) (w : World) (H : SBox w b s (op + 1 : Nat) 0) (hs : s.size ≤ 9223372036854775000) (ha : op < s.size) :
    Calls Try.prog 86 #[.pointer (some ⟨b, 0, none⟩)] w (ScC (finC (negS s op) op R) s b w) := by
  have hlt := H.lt
  have HH := hid H
  have hR := hid hR
  clear H
  have hng : ∃ ng, ng = negS s op := ⟨_, rfl⟩
  obtain ⟨ng, hng⟩ := hng
  have hb : Hid (beginS s op = if ng = true then op + 2 else op + 1) := hid (by unfold beginS; rw [hng])
  have hng' : Hid (hasB s (op + 1) 94 = ng) := hid (by rw [hng, hasB_eq]; rfl)
  have hle : Hid (beginS s op ≤ s.size) := hid (by
    rw [hb.out, hng]; unfold negS
    by_cases h1 : op + 1 < s.size ∧ byteAt s (op + 1) = 94
    · rw [if_pos (by simpa using h1)]; omega
    · rw [if_neg (by simpa using h1)]; omega)
  rw [← hng]
  clear hng
  go_enter Try.func86, Try.ntmps86
  go_wp2_with fail
  refine wp_scope_two 1 0 (ClsJ s b op ng R w) (ClsD s b op ng R w) (fun _ wr => s.size + 1 - placeW b wr) rfl rfl (by decide) ?_ ?_ ?_
  · -- the loop
    rintro a' wr ⟨k, n, x, o, u7, u8, u9, u10, u11, u12, u13, u14, u15, u16, u17, u18, u19, u20, u21, u22, u23, u24, u25, u26, u27, u28, u29, u30, u31, u32, u33, u34, u35, u36, u37, u38, u39, u40, u41, u42, u43, u44, u45, u46, u47, u48, u49, u50, u51, u52, u53, u54, u55, u56, u57, u58, u59, u60, u61, u62, u63, u64, u65, u66, u67, u68, u69, u70, u71, u72, u73, u74, u75, u76, u77, u78, u79, u80, u81, rfl, ⟨hbox, hrun, hk, hn, hout, hres, hob, hbb, hchg⟩⟩
    have hpl := hid hbox.place
    have HB := hid hbox
    have HO := hid hout
    have HG := hid hres
    have hol := hout.lt
    have hgl := hres.lt
    clear hbox hout hres
    obtain ⟨r0, r1, r2, f0, f1, f2, hlb⟩ := SBox.at_ HB.out
    cases hrun with
    | stop h hb93 =>
      have hh := hid (show hasB s k 93 = true from by rw [hasB_eq]; simpa using ⟨h, hb93⟩)
      clear hb93
      go_wp2_with fail
      refine (has_any b s k 93 0 _ HB.out (by omega) (by omega) (by decide)).mono ?_
      rintro e w1 ⟨rfl, hB, hc⟩
      rw [hh.out]
      rw [hh.out] at hB
      have HO1 := hid (HO.out.chg hc (by unfold One; omega))
      have HG1 := hid (HG.out.chg hc (by unfold One; omega))
      have hC := hchg.trans hc
      have hs1 := hc.size
      clear hc hchg HO HG HB r0 r1 r2 f0 f1 f2 hlb
      go_wp2
      go_step3
      refine Or.inr ⟨rfl, k, n, x, o, _, _, _, _, _, _, _, _, _, _, _, _, _, _, _, _, _, _, _, _, _, _, _, _, _, _, _, _, _, _, _, _, _, _, _, _, _, _, _, _, _, _, _, _, _, _, _, _, _, _, _, _, _, _, _, _, _, _, _, _, _, _, _, _, _, _, _, _, _, _, _, _, _, _, _, rfl, rfl, hB, HO1.out, HG1.out, hob, hbb, hC⟩
    | @bad1 _ _ _ p e0 h h1 =>
      have hne := (itemS_bad h1 hk).2
      have hne1 : (e0 == 0) = false := beq_eq_false_iff_ne.2 hne
      have h1' := hid h1
      clear h1
      have hh := hid (show hasB s k 93 = false from by rw [hasB_eq]; simpa using h)
      clear h
      go_wp2_with fail
      refine (has_any b s k 93 0 _ HB.out (by omega) (by omega) (by decide)).mono ?_
      rintro e w1 ⟨rfl, hB, hc⟩
      rw [hh.out]
      rw [hh.out] at hB
      have HO1 := hid (HO.out.chg hc (by unfold One; omega))
      have HG1 := hid (HG.out.chg hc (by unfold One; omega))
      have hC := hchg.trans hc
      have hs1 := hc.size
      clear hc hchg HO HG HB r0 r1 r2 f0 f1 f2 hlb
      replace hB : SBox w1 b s k 0 := hB
      have HB1 := hid hB
      clear hB
      go_wp2_with fail
      refine (byteOf_any b s k _ HB1.out hs (by omega)).mono ?_
      rintro e w2 ⟨rfl, hB, hc⟩
      rw [h1'.out] at hB
      rw [h1'.out]
      have HO2 := hid (HO1.out.chg hc (by unfold One; omega))
      have HG2 := hid (HG1.out.chg hc (by unfold One; omega))
      replace hC := hC.trans hc
      have hs2 := hc.size
      replace hB : SBox w2 b s (p : Nat) e0 := hB
      have HB2 := hid hB
      clear hc hB HB1 HO1 HG1
      obtain ⟨r0, r1, r2, f0, f1, f2, hlb⟩ := SBox.at_ HB2.out
      simp only [Rd.val]
      have HB6 := HB2
      have HG6 := HG2
      have hC6 := hC
      have hF := hid (show finC ng op (.bad p e0) = .bad p e0 from rfl)
      go_wp2_with (with_reducible refine halt_op (.store 70 (.tmp 2) (.tmp 67)) ?_)
      unfold Halted
      refine store_blk rfl 70 (.tmp 2) (.tmp 67) (by rfl) _ (by rfl) _ (by rfl) HG6.out (by rfl) (by exact infoC4) (by rfl) ?_
      intro wz HGz hcz6
      go_wp2
      try simp only [jumps]
      exact bodyPost_ret (results_cell_row Try.results86 _ _ _ _ _ _ _ (by rfl) HGz Try.underlying70 rfl (by exact infoC4)) rfl ⟨0, by simp only [wd_zero], (by rw [hF.out]; intro y nx h; cases h), (by rw [hF.out]; exact Blk.chg HB6.out hcz6 (by unfold One; omega)), hC6.then hcz6 (fun i hi hk => absurd hk (by unfold One; omega))⟩
    | @one _ _ _ v c _ h h1 h2 r =>
      have hd := hid (show hasB s c 45 = false from by rw [hasB_eq]; simpa using h2)
      clear h2
      have hvb := itemS_ok h1
      have h1' := hid h1
      clear h1
      have hh := hid (show hasB s k 93 = false from by rw [hasB_eq]; simpa using h)
      clear h
      go_wp2_with fail
      refine (has_any b s k 93 0 _ HB.out (by omega) (by omega) (by decide)).mono ?_
      rintro e w1 ⟨rfl, hB, hc⟩
      rw [hh.out]
      rw [hh.out] at hB
      have HO1 := hid (HO.out.chg hc (by unfold One; omega))
      have HG1 := hid (HG.out.chg hc (by unfold One; omega))
      have hC := hchg.trans hc
      have hs1 := hc.size
      clear hc hchg HO HG HB r0 r1 r2 f0 f1 f2 hlb
      replace hB : SBox w1 b s k 0 := hB
      have HB1 := hid hB
      clear hB
      go_wp2_with fail
      refine (byteOf_any b s k _ HB1.out hs (by omega)).mono ?_
      rintro e w2 ⟨rfl, hB, hc⟩
      rw [h1'.out] at hB
      rw [h1'.out]
      have HO2 := hid (HO1.out.chg hc (by unfold One; omega))
      have HG2 := hid (HG1.out.chg hc (by unfold One; omega))
      replace hC := hC.trans hc
      have hs2 := hc.size
      replace hB : SBox w2 b s (c : Nat) 0 := hB
      have HB2 := hid hB
      clear hc hB HB1 HO1 HG1
      obtain ⟨r0, r1, r2, f0, f1, f2, hlb⟩ := SBox.at_ HB2.out
      simp only [Rd.val]
      go_wp2_with fail
      go_quiet (fail)
      go_wp2_with fail
      refine (has_any b s c 45 0 _ (Blk.drewN HB2.out _) (by omega) (by omega) (by decide)).mono ?_
      rintro e w3 ⟨rfl, hB, hc⟩
      rw [hd.out]
      rw [hd.out] at hB
      have HO3 := hid ((Blk.drewN HO2.out _).chg hc (by unfold One; omega))
      have HG3 := hid ((Blk.drewN HG2.out _).chg hc (by unfold One; omega))
      replace hC := (hC.drewN _).trans hc
      have hs3 := hc.size
      replace hB : SBox w3 b s (c : Nat) 0 := hB
      have HB3 := hid hB
      clear hc hB HB2 HO2 HG2 r0 r1 r2 f0 f1 f2 hlb
      obtain ⟨r0, r1, r2, f0, f1, f2, hlb⟩ := SBox.at_ HB3.out
      obtain ⟨o0, o1, o2, o3, p0, p1, p2, p3, hlo⟩ := CBox.at_ HO3.out
      go_wp2_with fail
      go_region_with (first | (go_at_call 104; (with_reducible refine (classRangeL v v _ (by omega) (by omega)).mono ?_); rintro e w4 ⟨rfl, hcx⟩; have HO4 := hid (Blk.chg (Blk.drew HO3.out) hcx id); obtain ⟨y0, y1, y2, y3, z0, z1, z2, z3, hl4⟩ := CBox.at_ HO4.out; have hcy := hid hcx; clear hcx) | (go_at_call 103; (with_reducible refine (classOrL x (rangeC v v) _).mono ?_); rintro e w5 ⟨rfl, hcx⟩; have HO5 := hid (Blk.chg HO4.out hcx id); clear o0 o1 o2 o3 p0 p1 p2 p3 y0 y1 y2 y3 z0 z1 z2 z3; obtain ⟨y0, y1, y2, y3, z0, z1, z2, z3, hl5⟩ := CBox.at_ HO5.out; have hcz := hid hcx; clear hcx))
      all_goals
        have hP : Chg (One o) w5 (putC w5 o (x ||| rangeC v v)) := (Chg.refl _ _).putOne _
        have HB5 := hid (Blk.chg (Blk.chg (Blk.drew HB3.out) hcy.out id) hcz.out id)
        have HB6 := hid (Blk.chg HB5.out hP (by unfold One; omega))
        have HG6 := hid (Blk.chg (Blk.chg (Blk.chg (Blk.drew HG3.out) hcy.out id) hcz.out id) hP (by unfold One; omega))
        have HO6 := hid (CBox.put HO5.out (x ||| rangeC v v))
        have hC6 := ((hC.drew.then hcy.out (fun _ _ h => h.elim)).then hcz.out (fun _ _ h => h.elim)).then hP (fun i hi hk => absurd hk (by unfold One; omega))
        obtain ⟨s0, s1, s2, t0, t1, t2, hl6⟩ := SBox.at_ HB5.out
        have hbo : b ≠ o := by omega
        have hbo' : o ≠ b := by omega
        clear hP HO5 HO4 hcy hcz y0 y1 y2 y3 z0 z1 z2 z3
        go_wp2
        go_step3
        refine Or.inl ⟨rfl, ⟨c, n + 1, x ||| rangeC v v, o, _, _, _, _, _, _, _, _, _, _, _, _, _, _, _, _, _, _, _, _, _, _, _, _, _, _, _, _, _, _, _, _, _, _, _, _, _, _, _, _, _, _, _, _, _, _, _, _, _, _, _, _, _, _, _, _, _, _, _, _, _, _, _, _, _, _, _, _, _, _, _, _, _, _, _, rfl, ⟨HB6.out, r, by omega, by omega, HO6.out, HG6.out, hob, hbb, hC6⟩⟩, ?_⟩
        show s.size + 1 - placeW b (putC w5 o (x ||| rangeC v v)) < s.size + 1 - placeW b wr
        rw [show placeW b (putC w5 o (x ||| rangeC v v)) = c from SBox.place HB6.out, hpl.out]; omega
    | @bad2 _ _ _ v c p e0 h h1 h2 h3 =>
      have hcs := h2.1
      have hne := (itemS_bad h3 (by omega)).2
      have hne1 : (e0 == 0) = false := beq_eq_false_iff_ne.2 hne
      have h3' := hid h3
      have hd := hid (show hasB s c 45 = true from by rw [hasB_eq]; simpa using h2)
      clear h2 h3
      have hvb := itemS_ok h1
      have h1' := hid h1
      clear h1
      have hh := hid (show hasB s k 93 = false from by rw [hasB_eq]; simpa using h)
      clear h
      go_wp2_with fail
      refine (has_any b s k 93 0 _ HB.out (by omega) (by omega) (by decide)).mono ?_
      rintro e w1 ⟨rfl, hB, hc⟩
      rw [hh.out]
      rw [hh.out] at hB
      have HO1 := hid (HO.out.chg hc (by unfold One; omega))
      have HG1 := hid (HG.out.chg hc (by unfold One; omega))
      have hC := hchg.trans hc
      have hs1 := hc.size
      clear hc hchg HO HG HB r0 r1 r2 f0 f1 f2 hlb
      replace hB : SBox w1 b s k 0 := hB
      have HB1 := hid hB
      clear hB
      go_wp2_with fail
      refine (byteOf_any b s k _ HB1.out hs (by omega)).mono ?_
      rintro e w2 ⟨rfl, hB, hc⟩
      rw [h1'.out] at hB
      rw [h1'.out]
      have HO2 := hid (HO1.out.chg hc (by unfold One; omega))
      have HG2 := hid (HG1.out.chg hc (by unfold One; omega))
      replace hC := hC.trans hc
      have hs2 := hc.size
      replace hB : SBox w2 b s (c : Nat) 0 := hB
      have HB2 := hid hB
      clear hc hB HB1 HO1 HG1
      obtain ⟨r0, r1, r2, f0, f1, f2, hlb⟩ := SBox.at_ HB2.out
      simp only [Rd.val]
      go_wp2_with fail
      go_quiet (fail)
      go_wp2_with fail
      refine (has_any b s c 45 0 _ (Blk.drewN HB2.out _) (by omega) (by omega) (by decide)).mono ?_
      rintro e w3 ⟨rfl, hB, hc⟩
      rw [hd.out]
      rw [hd.out] at hB
      have HO3 := hid ((Blk.drewN HO2.out _).chg hc (by unfold One; omega))
      have HG3 := hid ((Blk.drewN HG2.out _).chg hc (by unfold One; omega))
      replace hC := (hC.drewN _).trans hc
      have hs3 := hc.size
      replace hB : SBox w3 b s (c + 1 : Nat) 0 := hB
      have HB3 := hid hB
      clear hc hB HB2 HO2 HG2 r0 r1 r2 f0 f1 f2 hlb
      obtain ⟨r0, r1, r2, f0, f1, f2, hlb⟩ := SBox.at_ HB3.out
      go_wp2_with fail
      refine (byteOf_any b s (c + 1) _ HB3.out hs (by omega)).mono ?_
      rintro e w6 ⟨rfl, hB, hc⟩
      rw [h3'.out] at hB
      rw [h3'.out]
      have HO4 := hid (HO3.out.chg hc (by unfold One; omega))
      have HG4 := hid (HG3.out.chg hc (by unfold One; omega))
      replace hC := hC.trans hc
      have hs4 := hc.size
      replace hB : SBox w6 b s (p : Nat) e0 := hB
      have HB4 := hid hB
      clear hc hB HB3 HO3 HG3
      obtain ⟨r0, r1, r2, f0, f1, f2, hlb⟩ := SBox.at_ HB4.out
      simp only [Rd.val]
      obtain ⟨o0, o1, o2, o3, p0, p1, p2, p3, hlo⟩ := CBox.at_ HO4.out
      go_wp2_with fail
      go_region_with (first | (go_at_call 104; (with_reducible refine (classRangeL0 v _ (by omega)).mono ?_); rintro e w4 ⟨rfl, hcx⟩; have HO4 := hid (Blk.chg (Blk.drew HO4.out) hcx id); obtain ⟨y0, y1, y2, y3, z0, z1, z2, z3, hl4⟩ := CBox.at_ HO4.out; have hcy := hid hcx; clear hcx) | (go_at_call 103; (with_reducible refine (classOrL x (rangeC v 0) _).mono ?_); rintro e w5 ⟨rfl, hcx⟩; have HO5 := hid (Blk.chg HO4.out hcx id); clear o0 o1 o2 o3 p0 p1 p2 p3 y0 y1 y2 y3 z0 z1 z2 z3; obtain ⟨y0, y1, y2, y3, z0, z1, z2, z3, hl5⟩ := CBox.at_ HO5.out; have hcz := hid hcx; clear hcx))
      all_goals
        have hP : Chg (One o) w5 (putC w5 o (x ||| rangeC v 0)) := (Chg.refl _ _).putOne _
        have HB5 := hid (Blk.chg (Blk.chg (Blk.drew HB4.out) hcy.out id) hcz.out id)
        have HB6 := hid (Blk.chg HB5.out hP (by unfold One; omega))
        have HG6 := hid (Blk.chg (Blk.chg (Blk.chg (Blk.drew HG4.out) hcy.out id) hcz.out id) hP (by unfold One; omega))
        have HO6 := hid (CBox.put HO5.out (x ||| rangeC v 0))
        have hC6 := ((hC.drew.then hcy.out (fun _ _ h => h.elim)).then hcz.out (fun _ _ h => h.elim)).then hP (fun i hi hk => absurd hk (by unfold One; omega))
        obtain ⟨s0, s1, s2, t0, t1, t2, hl6⟩ := SBox.at_ HB5.out
        have hbo : b ≠ o := by omega
        have hbo' : o ≠ b := by omega
        clear hP HO5 HO4 hcy hcz y0 y1 y2 y3 z0 z1 z2 z3
        have hF := hid (show finC ng op (.bad p e0) = .bad p e0 from rfl)
        go_wp2_with (with_reducible refine halt_op (.store 70 (.tmp 2) (.tmp 67)) ?_)
        unfold Halted
        refine store_blk rfl 70 (.tmp 2) (.tmp 67) (by rfl) _ (by rfl) _ (by rfl) HG6.out (by rfl) (by exact infoC4) (by rfl) ?_
        intro wz HGz hcz6
        go_wp2
        try simp only [jumps]
        exact bodyPost_ret (results_cell_row Try.results86 _ _ _ _ _ _ _ (by rfl) HGz Try.underlying70 rfl (by exact infoC4)) rfl ⟨0, by simp only [wd_zero], (by rw [hF.out]; intro y nx h; cases h), (by rw [hF.out]; exact Blk.chg HB6.out hcz6 (by unfold One; omega)), hC6.then hcz6 (fun i hi hk => absurd hk (by unfold One; omega))⟩
    | @less _ _ _ v c u d h h1 h2 h3 h4 =>
      have hd := hid (show hasB s c 45 = true from by rw [hasB_eq]; simpa using h2)
      have hcs := h2.1
      clear h2
      have hud := itemS_ok h3
      have hnl : ((u : Int) < (v : Int)) := by omega
      have h3' := hid h3
      clear h3
      have hvb := itemS_ok h1
      have h1' := hid h1
      clear h1
      have hh := hid (show hasB s k 93 = false from by rw [hasB_eq]; simpa using h)
      clear h
      go_wp2_with fail
      refine (has_any b s k 93 0 _ HB.out (by omega) (by omega) (by decide)).mono ?_
      rintro e w1 ⟨rfl, hB, hc⟩
      rw [hh.out]
      rw [hh.out] at hB
      have HO1 := hid (HO.out.chg hc (by unfold One; omega))
      have HG1 := hid (HG.out.chg hc (by unfold One; omega))
      have hC := hchg.trans hc
      have hs1 := hc.size
      clear hc hchg HO HG HB r0 r1 r2 f0 f1 f2 hlb
      replace hB : SBox w1 b s k 0 := hB
      have HB1 := hid hB
      clear hB
      go_wp2_with fail
      refine (byteOf_any b s k _ HB1.out hs (by omega)).mono ?_
      rintro e w2 ⟨rfl, hB, hc⟩
      rw [h1'.out] at hB
      rw [h1'.out]
      have HO2 := hid (HO1.out.chg hc (by unfold One; omega))
      have HG2 := hid (HG1.out.chg hc (by unfold One; omega))
      replace hC := hC.trans hc
      have hs2 := hc.size
      replace hB : SBox w2 b s (c : Nat) 0 := hB
      have HB2 := hid hB
      clear hc hB HB1 HO1 HG1
      obtain ⟨r0, r1, r2, f0, f1, f2, hlb⟩ := SBox.at_ HB2.out
      simp only [Rd.val]
      go_wp2_with fail
      go_quiet (fail)
      go_wp2_with fail
      refine (has_any b s c 45 0 _ (Blk.drewN HB2.out _) (by omega) (by omega) (by decide)).mono ?_
      rintro e w3 ⟨rfl, hB, hc⟩
      rw [hd.out]
      rw [hd.out] at hB
      have HO3 := hid ((Blk.drewN HO2.out _).chg hc (by unfold One; omega))
      have HG3 := hid ((Blk.drewN HG2.out _).chg hc (by unfold One; omega))
      replace hC := (hC.drewN _).trans hc
      have hs3 := hc.size
      replace hB : SBox w3 b s (c + 1 : Nat) 0 := hB
      have HB3 := hid hB
      clear hc hB HB2 HO2 HG2 r0 r1 r2 f0 f1 f2 hlb
      obtain ⟨r0, r1, r2, f0, f1, f2, hlb⟩ := SBox.at_ HB3.out
      go_wp2_with fail
      refine (byteOf_any b s (c + 1) _ HB3.out hs (by omega)).mono ?_
      rintro e w6 ⟨rfl, hB, hc⟩
      rw [h3'.out] at hB
      rw [h3'.out]
      have HO4 := hid (HO3.out.chg hc (by unfold One; omega))
      have HG4 := hid (HG3.out.chg hc (by unfold One; omega))
      replace hC := hC.trans hc
      have hs4 := hc.size
      replace hB : SBox w6 b s (d : Nat) 0 := hB
      have HB4 := hid hB
      clear hc hB HB3 HO3 HG3
      obtain ⟨r0, r1, r2, f0, f1, f2, hlb⟩ := SBox.at_ HB4.out
      simp only [Rd.val]
      go_wp2_with fail
      refine (fails_any b s d 0 c 132 _ HB4.out).mono ?_
      rintro e w7 ⟨rfl, hB, hc⟩
      have HO5' := hid (HO4.out.chg hc (by unfold One; omega))
      have HG5' := hid (HG4.out.chg hc (by unfold One; omega))
      replace hC := hC.trans hc
      have hs7 := hc.size
      have HB5' := hid hB
      clear hc hB HB4 HO4 HG4 r0 r1 r2 f0 f1 f2 hlb
      obtain ⟨o0, o1, o2, o3, p0, p1, p2, p3, hlo⟩ := CBox.at_ HO5'.out
      go_wp2_with fail
      go_region_with (first | (go_at_call 104; (with_reducible refine (classRangeL v u _ (by omega) (by omega)).mono ?_); rintro e w4 ⟨rfl, hcx⟩; have HO4 := hid (Blk.chg (Blk.drew HO5'.out) hcx id); obtain ⟨y0, y1, y2, y3, z0, z1, z2, z3, hl4⟩ := CBox.at_ HO4.out; have hcy := hid hcx; clear hcx) | (go_at_call 103; (with_reducible refine (classOrL x (rangeC v u) _).mono ?_); rintro e w5 ⟨rfl, hcx⟩; have HO5 := hid (Blk.chg HO4.out hcx id); clear o0 o1 o2 o3 p0 p1 p2 p3 y0 y1 y2 y3 z0 z1 z2 z3; obtain ⟨y0, y1, y2, y3, z0, z1, z2, z3, hl5⟩ := CBox.at_ HO5.out; have hcz := hid hcx; clear hcx))
      all_goals
        have hP : Chg (One o) w5 (putC w5 o (x ||| rangeC v u)) := (Chg.refl _ _).putOne _
        have HB5 := hid (Blk.chg (Blk.chg (Blk.drew HB5'.out) hcy.out id) hcz.out id)
        have HB6 := hid (Blk.chg HB5.out hP (by unfold One; omega))
        have HG6 := hid (Blk.chg (Blk.chg (Blk.chg (Blk.drew HG5'.out) hcy.out id) hcz.out id) hP (by unfold One; omega))
        have HO6 := hid (CBox.put HO5.out (x ||| rangeC v u))
        have hC6 := ((hC.drew.then hcy.out (fun _ _ h => h.elim)).then hcz.out (fun _ _ h => h.elim)).then hP (fun i hi hk => absurd hk (by unfold One; omega))
        obtain ⟨s0, s1, s2, t0, t1, t2, hl6⟩ := SBox.at_ HB5.out
        have hbo : b ≠ o := by omega
        have hbo' : o ≠ b := by omega
        clear hP HO5 HO4 hcy hcz y0 y1 y2 y3 z0 z1 z2 z3
        have hF := hid (show finC ng op (.bad c 132) = .bad c 132 from rfl)
        go_wp2_with (with_reducible refine halt_op (.store 70 (.tmp 2) (.tmp 67)) ?_)
        unfold Halted
        refine store_blk rfl 70 (.tmp 2) (.tmp 67) (by rfl) _ (by rfl) _ (by rfl) HG6.out (by rfl) (by exact infoC4) (by rfl) ?_
        intro wz HGz hcz6
        go_wp2
        try simp only [jumps]
        exact bodyPost_ret (results_cell_row Try.results86 _ _ _ _ _ _ _ (by rfl) HGz Try.underlying70 rfl (by exact infoC4)) rfl ⟨0, by simp only [wd_zero], (by rw [hF.out]; intro y nx h; cases h), (by rw [hF.out]; exact Blk.chg HB6.out hcz6 (by unfold One; omega)), hC6.then hcz6 (fun i hi hk => absurd hk (by unfold One; omega))⟩
    | @two _ _ _ v c u d _ h h1 h2 h3 h4 r =>
      have hd := hid (show hasB s c 45 = true from by rw [hasB_eq]; simpa using h2)
      have hcs := h2.1
      clear h2
      have hud := itemS_ok h3
      have hnl : ¬ ((u : Int) < (v : Int)) := by omega
      have h3' := hid h3
      clear h3
      have hvb := itemS_ok h1
      have h1' := hid h1
      clear h1
      have hh := hid (show hasB s k 93 = false from by rw [hasB_eq]; simpa using h)
      clear h
      go_wp2_with fail
      refine (has_any b s k 93 0 _ HB.out (by omega) (by omega) (by decide)).mono ?_
      rintro e w1 ⟨rfl, hB, hc⟩
      rw [hh.out]
      rw [hh.out] at hB
      have HO1 := hid (HO.out.chg hc (by unfold One; omega))
      have HG1 := hid (HG.out.chg hc (by unfold One; omega))
      have hC := hchg.trans hc
      have hs1 := hc.size
      clear hc hchg HO HG HB r0 r1 r2 f0 f1 f2 hlb
      replace hB : SBox w1 b s k 0 := hB
      have HB1 := hid hB
      clear hB
      go_wp2_with fail
      refine (byteOf_any b s k _ HB1.out hs (by omega)).mono ?_
      rintro e w2 ⟨rfl, hB, hc⟩
      rw [h1'.out] at hB
      rw [h1'.out]
      have HO2 := hid (HO1.out.chg hc (by unfold One; omega))
      have HG2 := hid (HG1.out.chg hc (by unfold One; omega))
      replace hC := hC.trans hc
      have hs2 := hc.size
      replace hB : SBox w2 b s (c : Nat) 0 := hB
      have HB2 := hid hB
      clear hc hB HB1 HO1 HG1
      obtain ⟨r0, r1, r2, f0, f1, f2, hlb⟩ := SBox.at_ HB2.out
      simp only [Rd.val]
      go_wp2_with fail
      go_quiet (fail)
      go_wp2_with fail
      refine (has_any b s c 45 0 _ (Blk.drewN HB2.out _) (by omega) (by omega) (by decide)).mono ?_
      rintro e w3 ⟨rfl, hB, hc⟩
      rw [hd.out]
      rw [hd.out] at hB
      have HO3 := hid ((Blk.drewN HO2.out _).chg hc (by unfold One; omega))
      have HG3 := hid ((Blk.drewN HG2.out _).chg hc (by unfold One; omega))
      replace hC := (hC.drewN _).trans hc
      have hs3 := hc.size
      replace hB : SBox w3 b s (c + 1 : Nat) 0 := hB
      have HB3 := hid hB
      clear hc hB HB2 HO2 HG2 r0 r1 r2 f0 f1 f2 hlb
      obtain ⟨r0, r1, r2, f0, f1, f2, hlb⟩ := SBox.at_ HB3.out
      go_wp2_with fail
      refine (byteOf_any b s (c + 1) _ HB3.out hs (by omega)).mono ?_
      rintro e w6 ⟨rfl, hB, hc⟩
      rw [h3'.out] at hB
      rw [h3'.out]
      have HO4 := hid (HO3.out.chg hc (by unfold One; omega))
      have HG4 := hid (HG3.out.chg hc (by unfold One; omega))
      replace hC := hC.trans hc
      have hs4 := hc.size
      replace hB : SBox w6 b s (d : Nat) 0 := hB
      have HB4 := hid hB
      clear hc hB HB3 HO3 HG3
      obtain ⟨r0, r1, r2, f0, f1, f2, hlb⟩ := SBox.at_ HB4.out
      simp only [Rd.val]
      obtain ⟨o0, o1, o2, o3, p0, p1, p2, p3, hlo⟩ := CBox.at_ HO4.out
      go_wp2_with fail
      go_region_with (first | (go_at_call 104; (with_reducible refine (classRangeL v u _ (by omega) (by omega)).mono ?_); rintro e w4 ⟨rfl, hcx⟩; have HO4 := hid (Blk.chg (Blk.drew HO4.out) hcx id); obtain ⟨y0, y1, y2, y3, z0, z1, z2, z3, hl4⟩ := CBox.at_ HO4.out; have hcy := hid hcx; clear hcx) | (go_at_call 103; (with_reducible refine (classOrL x (rangeC v u) _).mono ?_); rintro e w5 ⟨rfl, hcx⟩; have HO5 := hid (Blk.chg HO4.out hcx id); clear o0 o1 o2 o3 p0 p1 p2 p3 y0 y1 y2 y3 z0 z1 z2 z3; obtain ⟨y0, y1, y2, y3, z0, z1, z2, z3, hl5⟩ := CBox.at_ HO5.out; have hcz := hid hcx; clear hcx))
      all_goals
        have hP : Chg (One o) w5 (putC w5 o (x ||| rangeC v u)) := (Chg.refl _ _).putOne _
        have HB5 := hid (Blk.chg (Blk.chg (Blk.drew HB4.out) hcy.out id) hcz.out id)
        have HB6 := hid (Blk.chg HB5.out hP (by unfold One; omega))
        have HG6 := hid (Blk.chg (Blk.chg (Blk.chg (Blk.drew HG4.out) hcy.out id) hcz.out id) hP (by unfold One; omega))
        have HO6 := hid (CBox.put HO5.out (x ||| rangeC v u))
        have hC6 := ((hC.drew.then hcy.out (fun _ _ h => h.elim)).then hcz.out (fun _ _ h => h.elim)).then hP (fun i hi hk => absurd hk (by unfold One; omega))
        obtain ⟨s0, s1, s2, t0, t1, t2, hl6⟩ := SBox.at_ HB5.out
        have hbo : b ≠ o := by omega
        have hbo' : o ≠ b := by omega
        clear hP HO5 HO4 hcy hcz y0 y1 y2 y3 z0 z1 z2 z3
        go_wp2
        go_step3
        refine Or.inl ⟨rfl, ⟨d, n + 1, x ||| rangeC v u, o, _, _, _, _, _, _, _, _, _, _, _, _, _, _, _, _, _, _, _, _, _, _, _, _, _, _, _, _, _, _, _, _, _, _, _, _, _, _, _, _, _, _, _, _, _, _, _, _, _, _, _, _, _, _, _, _, _, _, _, _, _, _, _, _, _, _, _, _, _, _, _, _, _, _, _, rfl, ⟨HB6.out, r, by omega, by omega, HO6.out, HG6.out, hob, hbb, hC6⟩⟩, ?_⟩
        show s.size + 1 - placeW b (putC w5 o (x ||| rangeC v u)) < s.size + 1 - placeW b wr
        rw [show placeW b (putC w5 o (x ||| rangeC v u)) = d from SBox.place HB6.out, hpl.out]; omega
  · -- the way out
    rintro a' wr ⟨k, n, x, o, u7, u8, u9, u10, u11, u12, u13, u14, u15, u16, u17, u18, u19, u20, u21, u22, u23, u24, u25, u26, u27, u28, u29, u30, u31, u32, u33, u34, u35, u36, u37, u38, u39, u40, u41, u42, u43, u44, u45, u46, u47, u48, u49, u50, u51, u52, u53, u54, u55, u56, u57, u58, u59, u60, u61, u62, u63, u64, u65, u66, u67, u68, u69, u70, u71, u72, u73, u74, u75, u76, u77, u78, u79, u80, u81, rfl, rfl, hbox, hout, hres, hob, hbb, hchg⟩
    have HB := hid hbox
    have HO := hid hout
    have HG := hid hres
    have hol := hout.lt
    have hgl := hres.lt
    obtain ⟨o0, o1, o2, o3, p0, p1, p2, p3, hlo⟩ := CBox.at_ hout
    obtain ⟨r0, r1, r2, f0, f1, f2, hlb⟩ := SBox.at_ hbox
    clear hbox hout hres
    cases ng with
    | true =>
      have hF := hid (show finC true op (.ok (x, n) (k + 1)) = if n = 0 ∨ (~~~ x) = 0 then .bad op 132 else .ok (~~~ x) (k + 1) from rfl)
      go_wp2_with fail
      refine (classNotL x _).mono ?_
      rintro e w1 ⟨rfl, hc⟩
      have HO1 := hid (HO.out.chg hc id)
      have HG1 := hid (HG.out.chg hc id)
      have HB1 := hid (HB.out.chg hc id)
      have hC := hchg.then hc (fun _ _ h => h.elim)
      have hs1 := hc.size
      clear hc hchg HO HG HB o0 o1 o2 o3 p0 p1 p2 p3 hlo r0 r1 r2 f0 f1 f2 hlb
      go_wp2_with (with_reducible refine halt_op (.store 70 (.tmp 5) (.tmp 70)) ?_)
      unfold Halted
      refine store_blk rfl 70 (.tmp 5) (.tmp 70) (by rfl) _ (by rfl) _ (by rfl) HO1.out (by rfl) (by exact infoC4) (by rfl) ?_
      intro w2 HO2 hc2
      have HB2 := hid (HB1.out.chg hc2 (by unfold One; omega))
      have HG2 := hid (HG1.out.chg hc2 (by unfold One; omega))
      replace HO2 := hid (show CBox w2 o (~~~ x) from HO2)
      replace hC := hC.then hc2 (fun i hi hk => absurd hk (by unfold One; omega))
      have hs2 := hc2.size
      clear hc2 HO1 HG1 HB1
      obtain ⟨o0, o1, o2, o3, p0, p1, p2, p3, hlo⟩ := CBox.at_ HO2.out
      obtain ⟨r0, r1, r2, f0, f1, f2, hlb⟩ := SBox.at_ HB2.out
      by_cases hn0 : n = 0
      · subst hn0
        have hE := hid (show finC true op (.ok (x, 0) (k + 1)) = .bad op 132 from by rw [hF.out, if_pos (Or.inl rfl)])
        go_wp2_with fail
        refine (fails_any b s _ 0 op 132 _ HB2.out).mono ?_
        rintro e w7 ⟨rfl, hB, hc⟩
        have HO3 := hid (HO2.out.chg hc (by unfold One; omega))
        have HG3 := hid (HG2.out.chg hc (by unfold One; omega))
        replace hC := hC.trans hc
        have hs7 := hc.size
        have HB3 := hid hB
        clear hc hB HB2 HO2 HG2 r0 r1 r2 f0 f1 f2 hlb o0 o1 o2 o3 p0 p1 p2 p3 hlo
        obtain ⟨o0, o1, o2, o3, p0, p1, p2, p3, hlo⟩ := CBox.at_ HO3.out
        go_wp2_with (with_reducible refine halt_op (.store 70 (.tmp 2) (.tmp 81)) ?_)
        unfold Halted
        refine store_blk rfl 70 (.tmp 2) (.tmp 81) (by rfl) _ (by rfl) _ (by rfl) HG3.out (by rfl) (by exact infoC4) (by rfl) ?_
        intro wz HGz hcz6
        go_wp2
        try simp only [jumps]
        exact bodyPost_ret (results_cell_row Try.results86 _ _ _ _ _ _ _ (by rfl) HGz Try.underlying70 rfl (by exact infoC4)) rfl ⟨(~~~ x), rfl, (by rw [hE.out]; intro y nx h; cases h), (by rw [hE.out]; exact Blk.chg HB3.out hcz6 (by unfold One; omega)), hC.then hcz6 (fun i hi hk => absurd hk (by unfold One; omega))⟩
      · have hnd : ((n : Int) == 0) = false := by rw [beq_eq_false_iff_ne]; omega
        by_cases hy : (~~~ x) = 0
        · have hE := hid (show finC true op (.ok (x, n) (k + 1)) = .bad op 132 from by rw [hF.out, if_pos (Or.inr hy)])
          have hq := eq_class (~~~ x) 0
          rw [decide_eq_true hy] at hq
          unfold encC at hq
          simp only [wd_zero] at hq
          replace hy := hid hy
          go_wp2_with fail
          refine (fails_any b s _ 0 op 132 _ HB2.out).mono ?_
          rintro e w7 ⟨rfl, hB, hc⟩
          have HO3 := hid (HO2.out.chg hc (by unfold One; omega))
          have HG3 := hid (HG2.out.chg hc (by unfold One; omega))
          replace hC := hC.trans hc
          have hs7 := hc.size
          have HB3 := hid hB
          clear hc hB HB2 HO2 HG2 r0 r1 r2 f0 f1 f2 hlb o0 o1 o2 o3 p0 p1 p2 p3 hlo
          obtain ⟨o0, o1, o2, o3, p0, p1, p2, p3, hlo⟩ := CBox.at_ HO3.out
          go_wp2_with (with_reducible refine halt_op (.store 70 (.tmp 2) (.tmp 81)) ?_)
          unfold Halted
          refine store_blk rfl 70 (.tmp 2) (.tmp 81) (by rfl) _ (by rfl) _ (by rfl) HG3.out (by rfl) (by exact infoC4) (by rfl) ?_
          intro wz HGz hcz6
          go_wp2
          try simp only [jumps]
          exact bodyPost_ret (results_cell_row Try.results86 _ _ _ _ _ _ _ (by rfl) HGz Try.underlying70 rfl (by exact infoC4)) rfl ⟨(~~~ x), rfl, (by rw [hE.out]; intro y nx h; cases h), (by rw [hE.out]; exact Blk.chg HB3.out hcz6 (by unfold One; omega)), hC.then hcz6 (fun i hi hk => absurd hk (by unfold One; omega))⟩
        · have hE := hid (show finC true op (.ok (x, n) (k + 1)) = .ok (~~~ x) (k + 1) from by rw [hF.out, if_neg (by intro h; rcases h with h | h; exact hn0 h; exact hy h)])
          have hq := eq_class (~~~ x) 0
          rw [decide_eq_false hy] at hq
          unfold encC at hq
          simp only [wd_zero] at hq
          replace hy := hid hy
          have HO3 := HO2
          have HG3 := HG2
          have HB3 := HB2
          go_wp2_with (with_reducible refine halt_op (.store 70 (.tmp 2) (.tmp 81)) ?_)
          unfold Halted
          refine store_blk rfl 70 (.tmp 2) (.tmp 81) (by rfl) _ (by rfl) _ (by rfl) HG3.out (by rfl) (by exact infoC4) (by rfl) ?_
          intro wz HGz hcz6
          go_wp2
          try simp only [jumps]
          exact bodyPost_ret (results_cell_row Try.results86 _ _ _ _ _ _ _ (by rfl) HGz Try.underlying70 rfl (by exact infoC4)) rfl ⟨(~~~ x), rfl, (by rw [hE.out]; intro y nx h; injection h), (by rw [hE.out]; exact Blk.chg HB3.out hcz6 (by unfold One; omega)), hC.then hcz6 (fun i hi hk => absurd hk (by unfold One; omega))⟩
    | false =>
      have hF := hid (show finC false op (.ok (x, n) (k + 1)) = if n = 0 ∨ x = 0 then .bad op 132 else .ok x (k + 1) from rfl)
      have HO2 := HO
      have HG2 := HG
      have HB2 := HB
      have hC := hchg
      clear hchg HO HG HB
      by_cases hn0 : n = 0
      · subst hn0
        have hE := hid (show finC false op (.ok (x, 0) (k + 1)) = .bad op 132 from by rw [hF.out, if_pos (Or.inl rfl)])
        go_wp2_with fail
        refine (fails_any b s _ 0 op 132 _ HB2.out).mono ?_
        rintro e w7 ⟨rfl, hB, hc⟩
        have HO3 := hid (HO2.out.chg hc (by unfold One; omega))
        have HG3 := hid (HG2.out.chg hc (by unfold One; omega))
        replace hC := hC.trans hc
        have hs7 := hc.size
        have HB3 := hid hB
        clear hc hB HB2 HO2 HG2 r0 r1 r2 f0 f1 f2 hlb o0 o1 o2 o3 p0 p1 p2 p3 hlo
        obtain ⟨o0, o1, o2, o3, p0, p1, p2, p3, hlo⟩ := CBox.at_ HO3.out
        go_wp2_with (with_reducible refine halt_op (.store 70 (.tmp 2) (.tmp 81)) ?_)
        unfold Halted
        refine store_blk rfl 70 (.tmp 2) (.tmp 81) (by rfl) _ (by rfl) _ (by rfl) HG3.out (by rfl) (by exact infoC4) (by rfl) ?_
        intro wz HGz hcz6
        go_wp2
        try simp only [jumps]
        exact bodyPost_ret (results_cell_row Try.results86 _ _ _ _ _ _ _ (by rfl) HGz Try.underlying70 rfl (by exact infoC4)) rfl ⟨x, rfl, (by rw [hE.out]; intro y nx h; cases h), (by rw [hE.out]; exact Blk.chg HB3.out hcz6 (by unfold One; omega)), hC.then hcz6 (fun i hi hk => absurd hk (by unfold One; omega))⟩
      · have hnd : ((n : Int) == 0) = false := by rw [beq_eq_false_iff_ne]; omega
        by_cases hy : x = 0
        · have hE := hid (show finC false op (.ok (x, n) (k + 1)) = .bad op 132 from by rw [hF.out, if_pos (Or.inr hy)])
          have hq := eq_class x 0
          rw [decide_eq_true hy] at hq
          unfold encC at hq
          simp only [wd_zero] at hq
          replace hy := hid hy
          go_wp2_with fail
          refine (fails_any b s _ 0 op 132 _ HB2.out).mono ?_
          rintro e w7 ⟨rfl, hB, hc⟩
          have HO3 := hid (HO2.out.chg hc (by unfold One; omega))
          have HG3 := hid (HG2.out.chg hc (by unfold One; omega))
          replace hC := hC.trans hc
          have hs7 := hc.size
          have HB3 := hid hB
          clear hc hB HB2 HO2 HG2 r0 r1 r2 f0 f1 f2 hlb o0 o1 o2 o3 p0 p1 p2 p3 hlo
          obtain ⟨o0, o1, o2, o3, p0, p1, p2, p3, hlo⟩ := CBox.at_ HO3.out
          go_wp2_with (with_reducible refine halt_op (.store 70 (.tmp 2) (.tmp 81)) ?_)
          unfold Halted
          refine store_blk rfl 70 (.tmp 2) (.tmp 81) (by rfl) _ (by rfl) _ (by rfl) HG3.out (by rfl) (by exact infoC4) (by rfl) ?_
          intro wz HGz hcz6
          go_wp2
          try simp only [jumps]
          exact bodyPost_ret (results_cell_row Try.results86 _ _ _ _ _ _ _ (by rfl) HGz Try.underlying70 rfl (by exact infoC4)) rfl ⟨x, rfl, (by rw [hE.out]; intro y nx h; cases h), (by rw [hE.out]; exact Blk.chg HB3.out hcz6 (by unfold One; omega)), hC.then hcz6 (fun i hi hk => absurd hk (by unfold One; omega))⟩
        · have hE := hid (show finC false op (.ok (x, n) (k + 1)) = .ok x (k + 1) from by rw [hF.out, if_neg (by intro h; rcases h with h | h; exact hn0 h; exact hy h)])
          have hq := eq_class x 0
          rw [decide_eq_false hy] at hq
          unfold encC at hq
          simp only [wd_zero] at hq
          replace hy := hid hy
          have HO3 := HO2
          have HG3 := HG2
          have HB3 := HB2
          go_wp2_with (with_reducible refine halt_op (.store 70 (.tmp 2) (.tmp 81)) ?_)
          unfold Halted
          refine store_blk rfl 70 (.tmp 2) (.tmp 81) (by rfl) _ (by rfl) _ (by rfl) HG3.out (by rfl) (by exact infoC4) (by rfl) ?_
          intro wz HGz hcz6
          go_wp2
          try simp only [jumps]
          exact bodyPost_ret (results_cell_row Try.results86 _ _ _ _ _ _ _ (by rfl) HGz Try.underlying70 rfl (by exact infoC4)) rfl ⟨x, rfl, (by rw [hE.out]; intro y nx h; injection h), (by rw [hE.out]; exact Blk.chg HB3.out hcz6 (by unfold One; omega)), hC.then hcz6 (fun i hi hk => absurd hk (by unfold One; omega))⟩
  · -- ahead of the loop
    intro run
    have hrun' := hid run
    clear run
    have HBa := hid (HH.out.alloc (.cells #[.int .u64 0, .int .u64 0, .int .u64 0, .int .u64 0] 70))
    have HGa := hid (CBox.zero w)
    obtain ⟨r0, r1, r2, f0, f1, f2, hlb⟩ := SBox.at_ HBa.out
    go_wp2_with fail
    refine (has_any b s (op + 1) 94 0 _ HBa.out (by omega) (by omega) (by decide)).mono ?_
    rintro e w1 ⟨rfl, hB, hc⟩
    rw [hng'.out]
    rw [hng'.out] at hB
    have HG1 := hid (HGa.out.chg hc (by unfold One; omega))
    have hC := ((Chg.refl (One b) w).alloc (.cells #[.int .u64 0, .int .u64 0, .int .u64 0, .int .u64 0] 70)).trans hc
    have hs1 := hc.size
    rw [World.size_alloc] at hs1
    clear hc r0 r1 r2 f0 f1 f2 hlb
    replace hB : SBox w1 b s (beginS s op : Nat) 0 := by
      rw [hb.out]; exact SBox.of hB (by cases ng <;> simp <;> omega) rfl
    have HB1 := hid hB
    clear hB
    go_wp2
    go_step3
    refine (‹∀ (a : Act) (w : World), Code.wp _ _ _ a w → _›) _ _ (hrun'.out _ _ ⟨beginS s op, 0, 0, w1.heap.size, _, _, _, _, _, _, _, _, _, _, _, _, _, _, _, _, _, _, _, _, _, _, _, _, _, _, _, _, _, _, _, _, _, _, _, _, _, _, _, _, _, _, _, _, _, _, _, _, _, _, _, _, _, _, _, _, _, _, _, _, _, _, _, _, _, _, _, _, _, _, _, _, _, _, _, rfl, ⟨Blk.alloc HB1.out _, hR.out, hle.out, Nat.zero_le _, CBox.zero w1, Blk.alloc HG1.out _, by omega, hlt, hC.alloc _⟩⟩)
end Go.Proofs.Ytllblpiakijpaaa
