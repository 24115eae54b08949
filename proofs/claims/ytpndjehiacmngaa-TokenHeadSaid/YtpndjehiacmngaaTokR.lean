/- Layer 13: the document's class. -/
import Derived.Test.YtpndjehiacmngaaTokQ
import Derived.Test.YtpndjehiacmngaaLibB
import Derived.Deep.DeepCutAuto
import Derived.Deep.DrawnRows
namespace Go.Proofs.Ytpndjehiacmngaa
open Go.RowKit
set_option linter.unusedVariables false
attribute [local go_sem ↓] Go.wp_at_zero Go.wp_at_succ
/-- A Got in a box of its own. -/
structure NineAt (w : World) (b : Nat) (v0 v1 v2 v3 v4 v5 v6 v7 v8 : Value) : Prop where
  r0 : w.cell? ⟨b, 0, none⟩ = some v0
  r1 : w.cell? ⟨b, 1, none⟩ = some v1
  r2 : w.cell? ⟨b, 2, none⟩ = some v2
  r3 : w.cell? ⟨b, 3, none⟩ = some v3
  r4 : w.cell? ⟨b, 4, none⟩ = some v4
  r5 : w.cell? ⟨b, 5, none⟩ = some v5
  r6 : w.cell? ⟨b, 6, none⟩ = some v6
  r7 : w.cell? ⟨b, 7, none⟩ = some v7
  r8 : w.cell? ⟨b, 8, none⟩ = some v8
  f0 : w.frozen? ⟨b, 0, none⟩ = false
  f1 : w.frozen? ⟨b, 1, none⟩ = false
  f2 : w.frozen? ⟨b, 2, none⟩ = false
  f3 : w.frozen? ⟨b, 3, none⟩ = false
  f4 : w.frozen? ⟨b, 4, none⟩ = false
  f5 : w.frozen? ⟨b, 5, none⟩ = false
  f6 : w.frozen? ⟨b, 6, none⟩ = false
  f7 : w.frozen? ⟨b, 7, none⟩ = false
  f8 : w.frozen? ⟨b, 8, none⟩ = false
  lt : b < w.heap.size
theorem Blk.nine {w : World} {b : Nat} {v0 v1 v2 v3 v4 v5 v6 v7 v8 : Value} {T : TypeId} (h : Blk w b #[v0, v1, v2, v3, v4, v5, v6, v7, v8] T) : NineAt w b v0 v1 v2 v3 v4 v5 v6 v7 v8 :=
  ⟨h.cell 0 rfl, h.cell 1 rfl, h.cell 2 rfl, h.cell 3 rfl, h.cell 4 rfl, h.cell 5 rfl, h.cell 6 rfl, h.cell 7 rfl, h.cell 8 rfl, h.free 0, h.free 1, h.free 2, h.free 3, h.free 4, h.free 5, h.free 6, h.free 7, h.free 8, h.lt⟩
def gotC : Rd Cls → Value
  | .ok x nx => .agg #[.int .u8 0, .int .u64 (wd x 0), .int .u64 (wd x 1), .int .u64 (wd x 2), .int .u64 (wd x 3), .slice none 0 0, .int .i64 0, .int .i64 nx, .int .i64 0]
  | .bad p e => gotB 0 p e
theorem sizeC_zero {x : Cls} : sizeC x = 0 ↔ x = 0 := by
  constructor
  · intro h
    refine cls_ext fun i hi => ?_
    have : ∀ k, k ≤ 256 → sizeTo x k = 0 := fun k hk => by
      have hm : ∀ a b, a ≤ b → sizeTo x a ≤ sizeTo x b := fun a b hab => by
        induction b with
        | zero => have : a = 0 := by omega
                  subst this; exact Nat.le_refl _
        | succ b ih =>
          by_cases e : a = b + 1
          · subst e; exact Nat.le_refl _
          · have := ih (by omega); rw [sizeTo_succ]; omega
      have := hm k 256 hk
      unfold sizeC at h; omega
    have h1 := this (i + 1) (by omega)
    rw [sizeTo_succ] at h1
    by_cases hb : x.getLsbD i = true
    · rw [if_pos hb] at h1; omega
    · simp at hb ⊢; exact hb
  · rintro rfl; decide +kernel
theorem infoG : (Try.prog.info? 57).map (·.size) = some 9 := by kernel_rfl
theorem infoC4 : (Try.prog.info? 35).map (·.size) = some 4 := by kernel_rfl
/-- The loop of the document's class. -/
def RcInv (s : ByteArray) (w : World) (R : Rd (Cls × Nat)) (pt it : Value) (wr : World) : Prop :=
  ∃ (k n : Nat) (x : Cls), k ≤ s.size ∧ n ≤ k ∧ pt = .int .i64 k ∧ it = .int .i64 n ∧ ClassRun s k x n R ∧ CBox wr (w.heap.size + 1) x ∧
    Blk wr w.heap.size #[.int .u8 0, .int .u64 0, .int .u64 0, .int .u64 0, .int .u64 0, .slice none 0 0, .int .i64 0, .int .i64 0, .int .i64 0] 57 ∧ Chg Nothing w wr
set_option maxHeartbeats 1000000 in
set_option maxRecDepth 100000 in
theorem refClass_any (s : ByteArray) (op : Nat) (R : Rd (Cls × Nat)) (hR : ClassRun s (beginS s op) 0 0 R) (w : World) (hs : s.size ≤ 9223372036854775000) (ha : op < s.size) :
    Calls Try.prog 63 #[.string s, .int .i64 op] w fun e w' => e = .returned (gotC (finC (negS s op) op R)) ∧ Chg Nothing w w' := by
  have hR := hid hR
  have hng : ∃ ng, ng = negS s op := ⟨_, rfl⟩
  obtain ⟨ng, hng⟩ := hng
  rw [← hng]
  have hb : Hid (beginS s op = if ng = true then op + 2 else op + 1) := hid (by unfold beginS; rw [hng])
  have hop : (ng = true ∧ op + 1 < s.size ∧ byteAt s (op + 1) = 94) ∨ (ng = false ∧ op + 1 < s.size ∧ byteAt s (op + 1) ≠ 94) ∨ (ng = false ∧ op + 1 = s.size) := by
    rw [hng]; unfold negS
    by_cases h1 : op + 1 < s.size
    · by_cases h2 : byteAt s (op + 1) = 94
      · left; exact ⟨by simp [h1, h2], h1, h2⟩
      · right; left; exact ⟨by simp [h2], h1, h2⟩
    · right; right; exact ⟨by simp [h1], by omega⟩
  clear hng
  go_enter Try.func63, Try.ntmps63
  go_upto_region 2 with fail
  go_cut [6] (fun q wx => q = .bool ng ∧ wx = w.alloc (.cells #[.int .u8 0, .int .u64 0, .int .u64 0, .int .u64 0, .int .u64 0, .slice none 0 0, .int .i64 0, .int .i64 0, .int .i64 0] 57))
  case first =>
    rcases hop with ⟨rfl, h1, h2⟩ | ⟨rfl, h1, h2⟩ | ⟨rfl, h1⟩
    · have hd : (((byteAt s (op + 1) : Nat) : Int) == 94) = true := beq_iff_eq.2 (by omega)
      have hg := byteAt_eq h1
      have hd1 : decide ((op : Int) + 1 < (s.size : Int)) = true := decide_eq_true (by omega)
      have h2' := hid h2
      clear h2
      go_wp2_with fail
      go_meet
      exact ⟨rfl, rfl⟩
    · have hd : (((byteAt s (op + 1) : Nat) : Int) == 94) = false := by rw [beq_eq_false_iff_ne]; omega
      have hg := byteAt_eq h1
      have hd1 : decide ((op : Int) + 1 < (s.size : Int)) = true := decide_eq_true (by omega)
      have h2' := hid h2
      clear h2
      go_wp2_with fail
      go_meet
      exact ⟨rfl, rfl⟩
    · have hd1 : decide ((op : Int) + 1 < (s.size : Int)) = false := decide_eq_false (by omega)
      go_wp2_with fail
      go_meet
      exact ⟨rfl, rfl⟩
  case rest =>
    obtain ⟨rfl, rfl⟩ := hcut
    go_upto_if 23 with fail
    go_cut [5] (fun p wx => p = .int .i64 (beginS s op) ∧ wx = w.alloc (.cells #[.int .u8 0, .int .u64 0, .int .u64 0, .int .u64 0, .int .u64 0, .slice none 0 0, .int .i64 0, .int .i64 0, .int .i64 0] 57))
    case first =>
      cases ng
      · go_wp2_with fail
        go_meet
        exact ⟨by rw [hb.out]; rfl, rfl⟩
      · go_wp2_with fail
        go_meet
        exact ⟨by rw [hb.out]; rfl, rfl⟩
    case rest =>
      obtain ⟨rfl, rfl⟩ := hcut
      go_wp2_with fail
      go_loopw [5, 7] (fun pt it wr => RcInv s w R pt it wr) (fun pt _ _ => s.size + 1 - (intOf pt).toNat)
      case atStart =>
        refine ⟨beginS s op, 0, 0, ?_, by omega, rfl, rfl, hR.out, ?_, (Blk.new w _ _).alloc _, ((Chg.refl Nothing w).alloc _).alloc _⟩
        · rw [hb.out]; rcases hop with ⟨rfl, h1, h2⟩ | ⟨rfl, h1, h2⟩ | ⟨rfl, h1⟩ <;> simp <;> omega
        · have := CBox.zero (w.alloc (.cells #[.int .u8 0, .int .u64 0, .int .u64 0, .int .u64 0, .int .u64 0, .slice none 0 0, .int .i64 0, .int .i64 0, .int .i64 0] 57))
          rw [World.size_alloc] at this; exact this
      case round =>
        obtain ⟨k, n, x, hk, hn, rfl, rfl, hrun, HO, HG, hcr⟩ := hrel
        clear hop hb hR
        have HO' := hid HO
        have HG' := hid HG
        obtain ⟨o0, o1, o2, o3, p0, p1, p2, p3, hlo⟩ := CBox.at_ HO
        clear HO HG
        cases hrun with
        | stop h hb93 =>
          have hd1 : decide ((s.size : Int) ≤ (k : Int)) = false := decide_eq_false (by omega)
          have hd2 : (((byteAt s k : Nat) : Int) != 93) = false := by rw [hb93]; rfl
          have hg := byteAt_eq h
          have hb93' := hid hb93
          clear hb93
          cases ng with
          | true =>
            have hF := hid (show finC true op (.ok (x, n) (k + 1)) = if n = 0 ∨ (~~~ x) = 0 then .bad op 132 else .ok (~~~ x) (k + 1) from rfl)
            go_wp2_with fail
            refine (refNotL x _).mono ?_
            rintro e w1 ⟨rfl, hc⟩
            have HO1 := hid (Blk.chg HO'.out hc id)
            have HG1 := hid (Blk.chg HG'.out hc id)
            have hC := hcr.trans hc
            clear hcr hc o0 o1 o2 o3 p0 p1 p2 p3 hlo HO' HG'
            go_wp2_with (with_reducible refine halt_op (.store 35 (.tmp 8) (.tmp 84)) ?_)
            unfold Halted
            refine store_blk rfl 35 (.tmp 8) (.tmp 84) (by rfl) _ (by rfl) _ (by rfl) HO1.out (by rfl) (by exact infoC4) (by rfl) ?_
            intro w2 HO2 hc2
            replace HO2 := hid (show CBox w2 (w.heap.size + 1) (~~~ x) from HO2)
            have HG2 := hid (Blk.chg HG1.out hc2 (by unfold One; omega))
            replace hC := hC.then hc2 (fun i hi hk => absurd hk (by unfold One; omega))
            clear hc2 HO1 HG1
            obtain ⟨o0, o1, o2, o3, p0, p1, p2, p3, hlo⟩ := CBox.at_ HO2.out
            by_cases hn0 : n = 0
            · subst hn0
              have hE := hid (show finC true op (.ok (x, 0) (k + 1)) = .bad op 132 from by rw [hF.out, if_pos (Or.inl rfl)])
              go_wp2_with (with_reducible refine halt_op (.store 57 (.tmp 4) (.tmp 93)) ?_)
              unfold Halted
              refine store_blk rfl 57 (.tmp 4) (.tmp 93) (by rfl) _ (by rfl) _ (by rfl) HG2.out (by rfl) (by exact infoG) (by rfl) ?_
              intro wr HR hr
              go_wp2
              exact bodyPost_ret (results_cell_row Try.results63 _ _ _ _ _ _ _ (by rfl) HR Try.underlying57 rfl (by exact infoG)) rfl ⟨by rw [hE.out]; rfl, hC.then hr (fun i hi hk => absurd hk (by unfold One; omega))⟩
            · have hnd : ((n : Int) == 0) = false := by rw [beq_eq_false_iff_ne]; omega
              by_cases hy : (~~~ x) = 0
              · have hE := hid (show finC true op (.ok (x, n) (k + 1)) = .bad op 132 from by rw [hF.out, if_pos (Or.inr hy)])
                have hsz : ((sizeC (~~~ x) : Int) == 0) = true := by rw [sizeC_zero.2 hy]; rfl
                replace hy := hid hy
                go_wp2_with fail
                refine (refSizeL (~~~ x) _).mono ?_
                rintro e w3 ⟨rfl, hc3⟩
                have HG3 := hid (Blk.chg HG2.out hc3 id)
                replace HO2 := hid (Blk.chg HO2.out hc3 id)
                replace hC := hC.trans hc3
                clear hc3 HG2 o0 o1 o2 o3 p0 p1 p2 p3 hlo
                go_wp2_with (with_reducible refine halt_op (.store 57 (.tmp 4) (.tmp 93)) ?_)
                unfold Halted
                refine store_blk rfl 57 (.tmp 4) (.tmp 93) (by rfl) _ (by rfl) _ (by rfl) HG3.out (by rfl) (by exact infoG) (by rfl) ?_
                intro wr HR hr
                go_wp2
                exact bodyPost_ret (results_cell_row Try.results63 _ _ _ _ _ _ _ (by rfl) HR Try.underlying57 rfl (by exact infoG)) rfl ⟨by rw [hE.out]; rfl, hC.then hr (fun i hi hk => absurd hk (by unfold One; omega))⟩
              · have hE := hid (show finC true op (.ok (x, n) (k + 1)) = .ok (~~~ x) (k + 1) from by rw [hF.out, if_neg (by intro h; rcases h with h | h; exact hn0 h; exact hy h)])
                have hsz : ((sizeC (~~~ x) : Int) == 0) = false := by rw [beq_eq_false_iff_ne]; intro e; exact hy (sizeC_zero.1 (by omega))
                replace hy := hid hy
                go_wp2_with fail
                refine (refSizeL (~~~ x) _).mono ?_
                rintro e w3 ⟨rfl, hc3⟩
                have HG3 := hid (Blk.chg HG2.out hc3 id)
                replace HO2 := hid (Blk.chg HO2.out hc3 id)
                replace hC := hC.trans hc3
                clear hc3 HG2 o0 o1 o2 o3 p0 p1 p2 p3 hlo
                obtain ⟨o0, o1, o2, o3, p0, p1, p2, p3, hlo⟩ := CBox.at_ HO2.out
                go_wp2_with (with_reducible refine halt_op (.store 57 (.tmp 4) (.tmp 97)) ?_)
                unfold Halted
                refine store_blk rfl 57 (.tmp 4) (.tmp 97) (by rfl) _ (by rfl) _ (by rfl) HG3.out (by rfl) (by exact infoG) (by rfl) ?_
                intro wr HR hr
                go_wp2
                exact bodyPost_ret (results_cell_row Try.results63 _ _ _ _ _ _ _ (by rfl) HR Try.underlying57 rfl (by exact infoG)) rfl ⟨by rw [hE.out]; rfl, hC.then hr (fun i hi hk => absurd hk (by unfold One; omega))⟩
          | false =>
            have hF := hid (show finC false op (.ok (x, n) (k + 1)) = if n = 0 ∨ x = 0 then .bad op 132 else .ok x (k + 1) from rfl)
            have hC := hcr
            have HO2 := HO'
            have HG2 := HG'
            clear hcr HO' HG'
            by_cases hn0 : n = 0
            · subst hn0
              have hE := hid (show finC false op (.ok (x, 0) (k + 1)) = .bad op 132 from by rw [hF.out, if_pos (Or.inl rfl)])
              go_wp2_with (with_reducible refine halt_op (.store 57 (.tmp 4) (.tmp 93)) ?_)
              unfold Halted
              refine store_blk rfl 57 (.tmp 4) (.tmp 93) (by rfl) _ (by rfl) _ (by rfl) HG2.out (by rfl) (by exact infoG) (by rfl) ?_
              intro wr HR hr
              go_wp2
              exact bodyPost_ret (results_cell_row Try.results63 _ _ _ _ _ _ _ (by rfl) HR Try.underlying57 rfl (by exact infoG)) rfl ⟨by rw [hE.out]; rfl, hC.then hr (fun i hi hk => absurd hk (by unfold One; omega))⟩
            · have hnd : ((n : Int) == 0) = false := by rw [beq_eq_false_iff_ne]; omega
              by_cases hy : x = 0
              · have hE := hid (show finC false op (.ok (x, n) (k + 1)) = .bad op 132 from by rw [hF.out, if_pos (Or.inr hy)])
                have hsz : ((sizeC x : Int) == 0) = true := by rw [sizeC_zero.2 hy]; rfl
                replace hy := hid hy
                go_wp2_with fail
                refine (refSizeL x _).mono ?_
                rintro e w3 ⟨rfl, hc3⟩
                have HG3 := hid (Blk.chg HG2.out hc3 id)
                replace HO2 := hid (Blk.chg HO2.out hc3 id)
                replace hC := hC.trans hc3
                clear hc3 HG2 o0 o1 o2 o3 p0 p1 p2 p3 hlo
                go_wp2_with (with_reducible refine halt_op (.store 57 (.tmp 4) (.tmp 93)) ?_)
                unfold Halted
                refine store_blk rfl 57 (.tmp 4) (.tmp 93) (by rfl) _ (by rfl) _ (by rfl) HG3.out (by rfl) (by exact infoG) (by rfl) ?_
                intro wr HR hr
                go_wp2
                exact bodyPost_ret (results_cell_row Try.results63 _ _ _ _ _ _ _ (by rfl) HR Try.underlying57 rfl (by exact infoG)) rfl ⟨by rw [hE.out]; rfl, hC.then hr (fun i hi hk => absurd hk (by unfold One; omega))⟩
              · have hE := hid (show finC false op (.ok (x, n) (k + 1)) = .ok x (k + 1) from by rw [hF.out, if_neg (by intro h; rcases h with h | h; exact hn0 h; exact hy h)])
                have hsz : ((sizeC x : Int) == 0) = false := by rw [beq_eq_false_iff_ne]; intro e; exact hy (sizeC_zero.1 (by omega))
                replace hy := hid hy
                go_wp2_with fail
                refine (refSizeL x _).mono ?_
                rintro e w3 ⟨rfl, hc3⟩
                have HG3 := hid (Blk.chg HG2.out hc3 id)
                replace HO2 := hid (Blk.chg HO2.out hc3 id)
                replace hC := hC.trans hc3
                clear hc3 HG2 o0 o1 o2 o3 p0 p1 p2 p3 hlo
                obtain ⟨o0, o1, o2, o3, p0, p1, p2, p3, hlo⟩ := CBox.at_ HO2.out
                go_wp2_with (with_reducible refine halt_op (.store 57 (.tmp 4) (.tmp 97)) ?_)
                unfold Halted
                refine store_blk rfl 57 (.tmp 4) (.tmp 97) (by rfl) _ (by rfl) _ (by rfl) HG3.out (by rfl) (by exact infoG) (by rfl) ?_
                intro wr HR hr
                go_wp2
                exact bodyPost_ret (results_cell_row Try.results63 _ _ _ _ _ _ _ (by rfl) HR Try.underlying57 rfl (by exact infoG)) rfl ⟨by rw [hE.out]; rfl, hC.then hr (fun i hi hk => absurd hk (by unfold One; omega))⟩
        | @bad1 _ _ _ p e h h1 =>
          by_cases hks : k < s.size
          · have hd1 : decide ((s.size : Int) ≤ (k : Int)) = false := decide_eq_false (by omega)
            have hb93 : byteAt s k ≠ 93 := fun e => h ⟨hks, e⟩
            have hd2 : (((byteAt s k : Nat) : Int) != 93) = true := by rw [bne_iff_ne]; omega
            have hg := byteAt_eq hks
            have hb93' := hid hb93
            clear hb93 h
            have hE := hid (show finC ng op (.bad p e) = .bad p e from rfl)
            have hne := (itemS_bad h1 hk).2
            have hne1 : (e == 0) = false := beq_eq_false_iff_ne.2 hne
            have hne2 : (e != 0) = true := by rw [bne_iff_ne]; exact hne
            have h1' := hid h1
            clear h1
            go_wp2_with fail
            refine (refItem_bad h1'.out _ hs hk).mono ?_
            rintro e' w1 ⟨rfl, hc⟩
            have HG1 := hid (Blk.chg HG'.out hc id)
            have hC := hcr.trans hc
            clear hcr hc o0 o1 o2 o3 p0 p1 p2 p3 hlo HO' HG'
            go_wp2_with (with_reducible refine halt_op (.store 57 (.tmp 4) (.tmp 42)) ?_)
            unfold Halted
            refine store_blk rfl 57 (.tmp 4) (.tmp 42) (by rfl) _ (by rfl) _ (by rfl) (Blk.alloc HG1.out _) (by rfl) (by exact infoG) (by rfl) ?_
            intro wr HR hr
            go_wp2
            exact bodyPost_ret (results_cell_row Try.results63 _ _ _ _ _ _ _ (by rfl) HR Try.underlying57 rfl (by exact infoG)) rfl ⟨by rw [hE.out]; rfl, (hC.alloc _).then hr (fun i hi hk => absurd hk (by unfold One; omega))⟩
          · have hd1 : decide ((s.size : Int) ≤ (k : Int)) = true := decide_eq_true (by omega)
            clear h
            have hE := hid (show finC ng op (.bad p e) = .bad p e from rfl)
            have hne := (itemS_bad h1 hk).2
            have hne1 : (e == 0) = false := beq_eq_false_iff_ne.2 hne
            have hne2 : (e != 0) = true := by rw [bne_iff_ne]; exact hne
            have h1' := hid h1
            clear h1
            go_wp2_with fail
            refine (refItem_bad h1'.out _ hs hk).mono ?_
            rintro e' w1 ⟨rfl, hc⟩
            have HG1 := hid (Blk.chg HG'.out hc id)
            have hC := hcr.trans hc
            clear hcr hc o0 o1 o2 o3 p0 p1 p2 p3 hlo HO' HG'
            go_wp2_with (with_reducible refine halt_op (.store 57 (.tmp 4) (.tmp 42)) ?_)
            unfold Halted
            refine store_blk rfl 57 (.tmp 4) (.tmp 42) (by rfl) _ (by rfl) _ (by rfl) (Blk.alloc HG1.out _) (by rfl) (by exact infoG) (by rfl) ?_
            intro wr HR hr
            go_wp2
            exact bodyPost_ret (results_cell_row Try.results63 _ _ _ _ _ _ _ (by rfl) HR Try.underlying57 rfl (by exact infoG)) rfl ⟨by rw [hE.out]; rfl, (hC.alloc _).then hr (fun i hi hk => absurd hk (by unfold One; omega))⟩
        | @one _ _ _ v b _ h h1 h2 r =>
          have hks : k < s.size := by
            apply Classical.byContradiction; intro hks
            unfold itemS at h1; rw [if_neg hks] at h1; cases h1
          by_cases hbs : b < s.size
          · have hd1 : decide ((s.size : Int) ≤ (k : Int)) = false := decide_eq_false (by omega)
            have hb93 : byteAt s k ≠ 93 := fun e => h ⟨hks, e⟩
            have hd2 : (((byteAt s k : Nat) : Int) != 93) = true := by rw [bne_iff_ne]; omega
            have hg := byteAt_eq hks
            have hb93' := hid hb93
            clear hb93 h
            have hvb := itemS_ok h1
            have h1' := hid h1
            clear h1
            go_wp2_with fail
            refine (refItem_ok h1'.out _ hs hk).mono ?_
            rintro e' w1 ⟨rfl, hc⟩
            have HG1 := hid (Blk.chg HG'.out hc id)
            have HO1 := hid (Blk.chg HO'.out hc id)
            have hC := hcr.trans hc
            have hz := hc.size
            clear hcr hc o0 o1 o2 o3 p0 p1 p2 p3 HO' HG'
            have hd3 : decide ((b : Int) < (s.size : Int)) = true := decide_eq_true (by omega)
            have hd4 : (((byteAt s b : Nat) : Int) == 45) = false := by rw [beq_eq_false_iff_ne]; intro e; exact h2 ⟨hbs, by omega⟩
            have hgb := byteAt_eq hbs
            clear h2
            go_wp2_with fail
            refine wp_forget (fun W => CBox W (w.heap.size + 1) x ∧ Blk W w.heap.size #[.int .u8 0, .int .u64 0, .int .u64 0, .int .u64 0, .int .u64 0, .slice none 0 0, .int .i64 0, .int .i64 0, .int .i64 0] 57 ∧ Blk W w1.heap.size #[.int .u8 v, .int .u64 0, .int .u64 0, .int .u64 0, .int .u64 0, .slice none 0 0, .int .i64 0, .int .i64 b, .int .i64 0] 57 ∧ Blk W (w1.heap.size + 1) #[.int .u8 v, .int .u64 0, .int .u64 0, .int .u64 0, .int .u64 0, .slice none 0 0, .int .i64 0, .int .i64 b, .int .i64 0] 57 ∧ Chg Nothing w W) ⟨HO1.out.alloc _ |>.alloc _, HG1.out.alloc _ |>.alloc _, Blk.alloc (Blk.new w1 _ _) _, by have := Blk.new (w1.alloc (.cells #[.int .u8 v, .int .u64 0, .int .u64 0, .int .u64 0, .int .u64 0, .slice none 0 0, .int .i64 0, .int .i64 b, .int .i64 0] 57)) #[.int .u8 v, .int .u64 0, .int .u64 0, .int .u64 0, .int .u64 0, .slice none 0 0, .int .i64 0, .int .i64 b, .int .i64 0] 57; rw [World.size_alloc] at this; exact this, (hC.alloc _).alloc _⟩ ?_
            rintro W ⟨HOW, HGW, HAW, HBW, hCW⟩
            clear hC HG1 HO1
            have HG' := hid HGW
            have HO' := hid HOW
            obtain ⟨o0, o1, o2, o3, p0, p1, p2, p3, hlo⟩ := CBox.at_ HOW
            have a0 := Blk.cell HAW 0 rfl
            have b0 := Blk.cell HBW 0 rfl
            have hla := Blk.lt HAW
            have hlb := Blk.lt HBW
            clear HGW HOW HAW HBW
            go_region_with (first | (go_at_call 65;  (with_reducible refine (refRangeL v v _ (by omega) (by omega)).mono ?_); rintro e w4 ⟨rfl, hcx⟩; have HO4 := hid (Blk.chg (Blk.drew HO'.out) hcx id); obtain ⟨y0, y1, y2, y3, z0, z1, z2, z3, hl4⟩ := CBox.at_ HO4.out; have hcy := hid hcx; clear hcx) | (go_at_call 67;  (with_reducible refine (refOrL x (rangeC v v) _).mono ?_);  rintro e w5 ⟨rfl, hcx⟩;  have HO5 := hid (Blk.chg HO4.out hcx id); clear o0 o1 o2 o3 p0 p1 p2 p3 y0 y1 y2 y3 z0 z1 z2 z3 a0 b0; obtain ⟨y0, y1, y2, y3, z0, z1, z2, z3, hl5⟩ := CBox.at_ HO5.out; have hcz := hid hcx; clear hcx))
            all_goals
              go_wp2
              go_roundw
              case rel =>
                have hP : Chg (One (w.heap.size + 1)) w5 (putC w5 (w.heap.size + 1) (x ||| rangeC v v)) := (Chg.refl _ _).putOne _
                exact ⟨ b, n + 1, x ||| rangeC v v, by omega, by omega, rfl, by go_num, r, CBox.put HO5.out _, Blk.chg (Blk.chg (Blk.chg (Blk.drew HG'.out) hcy.out id) hcz.out id) hP (by unfold One; omega), Chg.putNew ((hCW.drew.trans hcy.out).trans hcz.out) (Nat.le_succ _) _⟩
              case measure => simp [intOf]; omega
          · have hd1 : decide ((s.size : Int) ≤ (k : Int)) = false := decide_eq_false (by omega)
            have hb93 : byteAt s k ≠ 93 := fun e => h ⟨hks, e⟩
            have hd2 : (((byteAt s k : Nat) : Int) != 93) = true := by rw [bne_iff_ne]; omega
            have hg := byteAt_eq hks
            have hb93' := hid hb93
            clear hb93 h
            have hvb := itemS_ok h1
            have h1' := hid h1
            clear h1
            go_wp2_with fail
            refine (refItem_ok h1'.out _ hs hk).mono ?_
            rintro e' w1 ⟨rfl, hc⟩
            have HG1 := hid (Blk.chg HG'.out hc id)
            have HO1 := hid (Blk.chg HO'.out hc id)
            have hC := hcr.trans hc
            have hz := hc.size
            clear hcr hc o0 o1 o2 o3 p0 p1 p2 p3 HO' HG'
            have hd3 : decide ((b : Int) < (s.size : Int)) = false := decide_eq_false (by omega)
            clear h2
            go_wp2_with fail
            refine wp_forget (fun W => CBox W (w.heap.size + 1) x ∧ Blk W w.heap.size #[.int .u8 0, .int .u64 0, .int .u64 0, .int .u64 0, .int .u64 0, .slice none 0 0, .int .i64 0, .int .i64 0, .int .i64 0] 57 ∧ Blk W w1.heap.size #[.int .u8 v, .int .u64 0, .int .u64 0, .int .u64 0, .int .u64 0, .slice none 0 0, .int .i64 0, .int .i64 b, .int .i64 0] 57 ∧ Blk W (w1.heap.size + 1) #[.int .u8 v, .int .u64 0, .int .u64 0, .int .u64 0, .int .u64 0, .slice none 0 0, .int .i64 0, .int .i64 b, .int .i64 0] 57 ∧ Chg Nothing w W) ⟨HO1.out.alloc _ |>.alloc _, HG1.out.alloc _ |>.alloc _, Blk.alloc (Blk.new w1 _ _) _, by have := Blk.new (w1.alloc (.cells #[.int .u8 v, .int .u64 0, .int .u64 0, .int .u64 0, .int .u64 0, .slice none 0 0, .int .i64 0, .int .i64 b, .int .i64 0] 57)) #[.int .u8 v, .int .u64 0, .int .u64 0, .int .u64 0, .int .u64 0, .slice none 0 0, .int .i64 0, .int .i64 b, .int .i64 0] 57; rw [World.size_alloc] at this; exact this, (hC.alloc _).alloc _⟩ ?_
            rintro W ⟨HOW, HGW, HAW, HBW, hCW⟩
            clear hC HG1 HO1
            have HG' := hid HGW
            have HO' := hid HOW
            obtain ⟨o0, o1, o2, o3, p0, p1, p2, p3, hlo⟩ := CBox.at_ HOW
            have a0 := Blk.cell HAW 0 rfl
            have b0 := Blk.cell HBW 0 rfl
            have hla := Blk.lt HAW
            have hlb := Blk.lt HBW
            clear HGW HOW HAW HBW
            go_region_with (first | (go_at_call 65;  (with_reducible refine (refRangeL v v _ (by omega) (by omega)).mono ?_); rintro e w4 ⟨rfl, hcx⟩; have HO4 := hid (Blk.chg (Blk.drew HO'.out) hcx id); obtain ⟨y0, y1, y2, y3, z0, z1, z2, z3, hl4⟩ := CBox.at_ HO4.out; have hcy := hid hcx; clear hcx) | (go_at_call 67;  (with_reducible refine (refOrL x (rangeC v v) _).mono ?_);  rintro e w5 ⟨rfl, hcx⟩;  have HO5 := hid (Blk.chg HO4.out hcx id); clear o0 o1 o2 o3 p0 p1 p2 p3 y0 y1 y2 y3 z0 z1 z2 z3 a0 b0; obtain ⟨y0, y1, y2, y3, z0, z1, z2, z3, hl5⟩ := CBox.at_ HO5.out; have hcz := hid hcx; clear hcx))
            all_goals
              go_wp2
              go_roundw
              case rel =>
                have hP : Chg (One (w.heap.size + 1)) w5 (putC w5 (w.heap.size + 1) (x ||| rangeC v v)) := (Chg.refl _ _).putOne _
                exact ⟨ b, n + 1, x ||| rangeC v v, by omega, by omega, rfl, by go_num, r, CBox.put HO5.out _, Blk.chg (Blk.chg (Blk.chg (Blk.drew HG'.out) hcy.out id) hcz.out id) hP (by unfold One; omega), Chg.putNew ((hCW.drew.trans hcy.out).trans hcz.out) (Nat.le_succ _) _⟩
              case measure => simp [intOf]; omega
        | @bad2 _ _ _ v b p e h h1 h2 h3 =>
          have hks : k < s.size := by
            apply Classical.byContradiction; intro hks
            unfold itemS at h1; rw [if_neg hks] at h1; cases h1
          have hd1 : decide ((s.size : Int) ≤ (k : Int)) = false := decide_eq_false (by omega)
          have hb93 : byteAt s k ≠ 93 := fun e => h ⟨hks, e⟩
          have hd2 : (((byteAt s k : Nat) : Int) != 93) = true := by rw [bne_iff_ne]; omega
          have hg := byteAt_eq hks
          have hb93' := hid hb93
          clear hb93 h
          have hvb := itemS_ok h1
          have h1' := hid h1
          clear h1
          go_wp2_with fail
          refine (refItem_ok h1'.out _ hs hk).mono ?_
          rintro e' w1 ⟨rfl, hc⟩
          have HG1 := hid (Blk.chg HG'.out hc id)
          have HO1 := hid (Blk.chg HO'.out hc id)
          have hC := hcr.trans hc
          have hz := hc.size
          clear hcr hc o0 o1 o2 o3 p0 p1 p2 p3 HO' HG'
          obtain ⟨hb1, hb45⟩ := h2
          have hd3 : decide ((b : Int) < (s.size : Int)) = true := decide_eq_true (by omega)
          have hd4 : (((byteAt s b : Nat) : Int) == 45) = true := beq_iff_eq.2 (by omega)
          have hgb := byteAt_eq hb1
          have hb45' := hid hb45
          have hne := (itemS_bad h3 (by omega)).2
          have hne1 : (e == 0) = false := beq_eq_false_iff_ne.2 hne
          have hne2 : (e != 0) = true := by rw [bne_iff_ne]; exact hne
          have hE := hid (show finC ng op (.bad p e) = .bad p e from rfl)
          have h3' := hid h3
          clear hb45 h3
          go_wp2_with fail
          rw [show ((b : Int) + 1) = ((b + 1 : Nat) : Int) from by omega]
          refine (refItem_bad h3'.out _ hs (by omega)).mono ?_
          rintro e' w2 ⟨rfl, hc⟩
          have hb2 := Blk.chg (Blk.new (w1.alloc (.cells #[.int .u8 v, .int .u64 0, .int .u64 0, .int .u64 0, .int .u64 0, .slice none 0 0, .int .i64 0, .int .i64 b, .int .i64 0] 57)) #[.int .u8 v, .int .u64 0, .int .u64 0, .int .u64 0, .int .u64 0, .slice none 0 0, .int .i64 0, .int .i64 b, .int .i64 0] 57) hc id
          rw [World.size_alloc] at hb2
          have HB2 := hid hb2
          have HA2 := hid (Blk.chg (Blk.alloc (Blk.new w1 #[.int .u8 v, .int .u64 0, .int .u64 0, .int .u64 0, .int .u64 0, .slice none 0 0, .int .i64 0, .int .i64 b, .int .i64 0] 57) _) hc id)
          have HG2 := hid (Blk.chg ((Blk.alloc (Blk.alloc HG1.out _) _)) hc id)
          have HO2 := hid (Blk.chg ((Blk.alloc (Blk.alloc HO1.out _) _)) hc id)
          replace hC := ((hC.alloc _).alloc _).trans hc
          clear hc hb2 HG1 HO1
          go_wp2_with (with_reducible refine halt_op (.store 57 (.tmp 10) (.tmp 59)) ?_)
          unfold Halted
          refine store_blk rfl 57 (.tmp 10) (.tmp 59) (by rfl) _ (by rfl) _ (by rfl) HB2.out (by rfl) (by exact infoG) (by rfl) ?_
          intro w3 HB3 hc
          have HA3 := hid (Blk.chg HA2.out hc (by unfold One; omega))
          have HG3 := hid (Blk.chg HG2.out hc (by unfold One; omega))
          have HO3 := hid (Blk.chg HO2.out hc (by unfold One; omega))
          replace hC := hC.then hc (fun i hi hk => absurd hk (by unfold One; omega))
          clear hc HA2 HG2 HO2 HB2
          replace HB3 : Blk w3 (w1.heap.size + 1) #[.int .u8 0, .int .u64 0, .int .u64 0, .int .u64 0, .int .u64 0, .slice none 0 0, .int .i64 0, .int .i64 p, .int .i64 e] 57 := HB3
          have HB3' := hid HB3
          obtain ⟨g0, g1, g2, g3, g4, g5, g6, g7, g8, e0, e1, e2, e3, e4, e5, e6, e7, e8, hlg⟩ := Blk.nine HB3
          clear HB3
          go_wp2_with (with_reducible refine halt_op (.store 57 (.tmp 4) (.tmp 63)) ?_)
          unfold Halted
          refine store_blk rfl 57 (.tmp 4) (.tmp 63) (by rfl) _ (by rfl) _ (by rfl) HG3.out (by rfl) (by exact infoG) (by rfl) ?_
          intro wr HR hr
          go_wp2
          exact bodyPost_ret (results_cell_row Try.results63 _ _ _ _ _ _ _ (by rfl) HR Try.underlying57 rfl (by exact infoG)) rfl ⟨by rw [hE.out]; rfl, hC.then hr (fun i hi hk => absurd hk (by unfold One; omega))⟩
        | @less _ _ _ v b u d h h1 h2 h3 h4 =>
          have hks : k < s.size := by
            apply Classical.byContradiction; intro hks
            unfold itemS at h1; rw [if_neg hks] at h1; cases h1
          have hd1 : decide ((s.size : Int) ≤ (k : Int)) = false := decide_eq_false (by omega)
          have hb93 : byteAt s k ≠ 93 := fun e => h ⟨hks, e⟩
          have hd2 : (((byteAt s k : Nat) : Int) != 93) = true := by rw [bne_iff_ne]; omega
          have hg := byteAt_eq hks
          have hb93' := hid hb93
          clear hb93 h
          have hvb := itemS_ok h1
          have h1' := hid h1
          clear h1
          go_wp2_with fail
          refine (refItem_ok h1'.out _ hs hk).mono ?_
          rintro e' w1 ⟨rfl, hc⟩
          have HG1 := hid (Blk.chg HG'.out hc id)
          have HO1 := hid (Blk.chg HO'.out hc id)
          have hC := hcr.trans hc
          have hz := hc.size
          clear hcr hc o0 o1 o2 o3 p0 p1 p2 p3 HO' HG'
          obtain ⟨hb1, hb45⟩ := h2
          have hd3 : decide ((b : Int) < (s.size : Int)) = true := decide_eq_true (by omega)
          have hd4 : (((byteAt s b : Nat) : Int) == 45) = true := beq_iff_eq.2 (by omega)
          have hgb := byteAt_eq hb1
          have hb45' := hid hb45
          have hvd := itemS_ok h3
          have hE := hid (show finC ng op (.bad b 132) = .bad b 132 from rfl)
          have hlt : ((u : Int) < (v : Int)) := by omega
          have h3' := hid h3
          clear hb45 h3
          go_wp2_with fail
          rw [show ((b : Int) + 1) = ((b + 1 : Nat) : Int) from by omega]
          refine (refItem_ok h3'.out _ hs (by omega)).mono ?_
          rintro e' w2 ⟨rfl, hc⟩
          have hb2 := Blk.chg (Blk.new (w1.alloc (.cells #[.int .u8 v, .int .u64 0, .int .u64 0, .int .u64 0, .int .u64 0, .slice none 0 0, .int .i64 0, .int .i64 b, .int .i64 0] 57)) #[.int .u8 v, .int .u64 0, .int .u64 0, .int .u64 0, .int .u64 0, .slice none 0 0, .int .i64 0, .int .i64 b, .int .i64 0] 57) hc id
          rw [World.size_alloc] at hb2
          have HB2 := hid hb2
          have HA2 := hid (Blk.chg (Blk.alloc (Blk.new w1 #[.int .u8 v, .int .u64 0, .int .u64 0, .int .u64 0, .int .u64 0, .slice none 0 0, .int .i64 0, .int .i64 b, .int .i64 0] 57) _) hc id)
          have HG2 := hid (Blk.chg ((Blk.alloc (Blk.alloc HG1.out _) _)) hc id)
          have HO2 := hid (Blk.chg ((Blk.alloc (Blk.alloc HO1.out _) _)) hc id)
          replace hC := ((hC.alloc _).alloc _).trans hc
          clear hc hb2 HG1 HO1
          go_wp2_with (with_reducible refine halt_op (.store 57 (.tmp 10) (.tmp 59)) ?_)
          unfold Halted
          refine store_blk rfl 57 (.tmp 10) (.tmp 59) (by rfl) _ (by rfl) _ (by rfl) HB2.out (by rfl) (by exact infoG) (by rfl) ?_
          intro w3 HB3 hc
          have HA3 := hid (Blk.chg HA2.out hc (by unfold One; omega))
          have HG3 := hid (Blk.chg HG2.out hc (by unfold One; omega))
          have HO3 := hid (Blk.chg HO2.out hc (by unfold One; omega))
          replace hC := hC.then hc (fun i hi hk => absurd hk (by unfold One; omega))
          clear hc HA2 HG2 HO2 HB2
          replace HB3 : Blk w3 (w1.heap.size + 1) #[.int .u8 u, .int .u64 0, .int .u64 0, .int .u64 0, .int .u64 0, .slice none 0 0, .int .i64 0, .int .i64 d, .int .i64 0] 57 := HB3
          have HB3' := hid HB3
          obtain ⟨g0, g1, g2, g3, g4, g5, g6, g7, g8, e0, e1, e2, e3, e4, e5, e6, e7, e8, hlg⟩ := Blk.nine HB3
          clear HB3
          have HA3' := HA3
          obtain ⟨a0, -, -, -, -, -, -, -, -, -, -, -, -, -, -, -, -, -, hla⟩ := Blk.nine HA3.out
          go_wp2_with (with_reducible refine halt_op (.store 57 (.tmp 4) (.tmp 70)) ?_)
          unfold Halted
          refine store_blk rfl 57 (.tmp 4) (.tmp 70) (by rfl) _ (by rfl) _ (by rfl) HG3.out (by rfl) (by exact infoG) (by rfl) ?_
          intro wr HR hr
          go_wp2
          exact bodyPost_ret (results_cell_row Try.results63 _ _ _ _ _ _ _ (by rfl) HR Try.underlying57 rfl (by exact infoG)) rfl ⟨by rw [hE.out]; rfl, hC.then hr (fun i hi hk => absurd hk (by unfold One; omega))⟩
        | @two _ _ _ v b u d _ h h1 h2 h3 h4 r =>
          have hks : k < s.size := by
            apply Classical.byContradiction; intro hks
            unfold itemS at h1; rw [if_neg hks] at h1; cases h1
          have hd1 : decide ((s.size : Int) ≤ (k : Int)) = false := decide_eq_false (by omega)
          have hb93 : byteAt s k ≠ 93 := fun e => h ⟨hks, e⟩
          have hd2 : (((byteAt s k : Nat) : Int) != 93) = true := by rw [bne_iff_ne]; omega
          have hg := byteAt_eq hks
          have hb93' := hid hb93
          clear hb93 h
          have hvb := itemS_ok h1
          have h1' := hid h1
          clear h1
          go_wp2_with fail
          refine (refItem_ok h1'.out _ hs hk).mono ?_
          rintro e' w1 ⟨rfl, hc⟩
          have HG1 := hid (Blk.chg HG'.out hc id)
          have HO1 := hid (Blk.chg HO'.out hc id)
          have hC := hcr.trans hc
          have hz := hc.size
          clear hcr hc o0 o1 o2 o3 p0 p1 p2 p3 HO' HG'
          obtain ⟨hb1, hb45⟩ := h2
          have hd3 : decide ((b : Int) < (s.size : Int)) = true := decide_eq_true (by omega)
          have hd4 : (((byteAt s b : Nat) : Int) == 45) = true := beq_iff_eq.2 (by omega)
          have hgb := byteAt_eq hb1
          have hb45' := hid hb45
          have hvd := itemS_ok h3
          have hlt : ¬ ((u : Int) < (v : Int)) := by omega
          have h3' := hid h3
          clear hb45 h3
          go_wp2_with fail
          rw [show ((b : Int) + 1) = ((b + 1 : Nat) : Int) from by omega]
          refine (refItem_ok h3'.out _ hs (by omega)).mono ?_
          rintro e' w2 ⟨rfl, hc⟩
          have hb2 := Blk.chg (Blk.new (w1.alloc (.cells #[.int .u8 v, .int .u64 0, .int .u64 0, .int .u64 0, .int .u64 0, .slice none 0 0, .int .i64 0, .int .i64 b, .int .i64 0] 57)) #[.int .u8 v, .int .u64 0, .int .u64 0, .int .u64 0, .int .u64 0, .slice none 0 0, .int .i64 0, .int .i64 b, .int .i64 0] 57) hc id
          rw [World.size_alloc] at hb2
          have HB2 := hid hb2
          have HA2 := hid (Blk.chg (Blk.alloc (Blk.new w1 #[.int .u8 v, .int .u64 0, .int .u64 0, .int .u64 0, .int .u64 0, .slice none 0 0, .int .i64 0, .int .i64 b, .int .i64 0] 57) _) hc id)
          have HG2 := hid (Blk.chg ((Blk.alloc (Blk.alloc HG1.out _) _)) hc id)
          have HO2 := hid (Blk.chg ((Blk.alloc (Blk.alloc HO1.out _) _)) hc id)
          replace hC := ((hC.alloc _).alloc _).trans hc
          clear hc hb2 HG1 HO1
          go_wp2_with (with_reducible refine halt_op (.store 57 (.tmp 10) (.tmp 59)) ?_)
          unfold Halted
          refine store_blk rfl 57 (.tmp 10) (.tmp 59) (by rfl) _ (by rfl) _ (by rfl) HB2.out (by rfl) (by exact infoG) (by rfl) ?_
          intro w3 HB3 hc
          have HA3 := hid (Blk.chg HA2.out hc (by unfold One; omega))
          have HG3 := hid (Blk.chg HG2.out hc (by unfold One; omega))
          have HO3 := hid (Blk.chg HO2.out hc (by unfold One; omega))
          replace hC := hC.then hc (fun i hi hk => absurd hk (by unfold One; omega))
          clear hc HA2 HG2 HO2 HB2
          replace HB3 : Blk w3 (w1.heap.size + 1) #[.int .u8 u, .int .u64 0, .int .u64 0, .int .u64 0, .int .u64 0, .slice none 0 0, .int .i64 0, .int .i64 d, .int .i64 0] 57 := HB3
          have HB3' := hid HB3
          obtain ⟨g0, g1, g2, g3, g4, g5, g6, g7, g8, e0, e1, e2, e3, e4, e5, e6, e7, e8, hlg⟩ := Blk.nine HB3
          clear HB3
          have HA3' := HA3
          obtain ⟨a0, -, -, -, -, -, -, -, -, -, -, -, -, -, -, -, -, -, hla⟩ := Blk.nine HA3.out
          go_wp2_with fail
          refine wp_forget (fun W => CBox W (w.heap.size + 1) x ∧ Blk W w.heap.size #[.int .u8 0, .int .u64 0, .int .u64 0, .int .u64 0, .int .u64 0, .slice none 0 0, .int .i64 0, .int .i64 0, .int .i64 0] 57 ∧ Blk W w1.heap.size #[.int .u8 v, .int .u64 0, .int .u64 0, .int .u64 0, .int .u64 0, .slice none 0 0, .int .i64 0, .int .i64 b, .int .i64 0] 57 ∧ Blk W (w1.heap.size + 1) #[.int .u8 u, .int .u64 0, .int .u64 0, .int .u64 0, .int .u64 0, .slice none 0 0, .int .i64 0, .int .i64 d, .int .i64 0] 57 ∧ Chg Nothing w W) ⟨HO3.out, HG3.out, HA3'.out, HB3'.out, hC⟩ ?_
          rintro W ⟨HOW, HGW, HAW, HBW, hCW⟩
          clear hC HG3 HO3 HA3 HA3' HB3' a0 hla g0 g1 g2 g3 g4 g5 g6 g7 g8 e0 e1 e2 e3 e4 e5 e6 e7 e8 hlg
          have HG' := hid HGW
          have HO' := hid HOW
          obtain ⟨o0, o1, o2, o3, p0, p1, p2, p3, hlo⟩ := CBox.at_ HOW
          have a0 := Blk.cell HAW 0 rfl
          have b0 := Blk.cell HBW 0 rfl
          have hla := Blk.lt HAW
          have hlb := Blk.lt HBW
          clear HGW HOW HAW HBW
          go_region_with (first | (go_at_call 65;  (with_reducible refine (refRangeL v u _ (by omega) (by omega)).mono ?_); rintro e w4 ⟨rfl, hcx⟩; have HO4 := hid (Blk.chg (Blk.drew HO'.out) hcx id); obtain ⟨y0, y1, y2, y3, z0, z1, z2, z3, hl4⟩ := CBox.at_ HO4.out; have hcy := hid hcx; clear hcx) | (go_at_call 67;  (with_reducible refine (refOrL x (rangeC v u) _).mono ?_);  rintro e w5 ⟨rfl, hcx⟩;  have HO5 := hid (Blk.chg HO4.out hcx id); clear o0 o1 o2 o3 p0 p1 p2 p3 y0 y1 y2 y3 z0 z1 z2 z3 a0 b0; obtain ⟨y0, y1, y2, y3, z0, z1, z2, z3, hl5⟩ := CBox.at_ HO5.out; have hcz := hid hcx; clear hcx))
          all_goals
            go_wp2
            go_roundw
            case rel =>
              have hP : Chg (One (w.heap.size + 1)) w5 (putC w5 (w.heap.size + 1) (x ||| rangeC v u)) := (Chg.refl _ _).putOne _
              exact ⟨ d, n + 1, x ||| rangeC v u, by omega, by omega, rfl, by go_num, r, CBox.put HO5.out _, Blk.chg (Blk.chg (Blk.chg (Blk.drew HG'.out) hcy.out id) hcz.out id) hP (by unfold One; omega), Chg.putNew ((hCW.drew.trans hcy.out).trans hcz.out) (Nat.le_succ _) _⟩
            case measure => simp [intOf]; omega
end Go.Proofs.Ytpndjehiacmngaa
