/- Layer 13: the program's scanner: class. -/
import Derived.Test.YtpndjehiacmngaaTokR
import Derived.Test.YtpndjehiacmngaaLibC
import Derived.Test.YtpndjehiacmngaaTokN
import Derived.WalkMore
namespace Go.Proofs.Ytpndjehiacmngaa
open Go.RowKit
set_option linter.unusedVariables false
attribute [local go_sem ↓] Go.wp_at_zero Go.wp_at_succ
theorem hasB_eq (s : ByteArray) (a x : Nat) : hasB s a x = decide (a < s.size ∧ byteAt s a = x) := by
  unfold hasB
  by_cases h : a < s.size
  · rw [dif_pos h, byteAt_eq h, Bool.eq_iff_iff]; simp [h]
  · rw [dif_neg h]; simp [h]
theorem classRangeL0 (a : Nat) (w : World) (ha : a < 256) : Calls Try.prog 19 #[.int .u8 a, .int .u8 0] w fun e w' => e = .returned (.agg #[.int .u64 (wd (rangeC a 0) 0), .int .u64 (wd (rangeC a 0) 1), .int .u64 (wd (rangeC a 0) 2), .int .u64 (wd (rangeC a 0) 3)]) ∧ Chg Nothing w w' := classRangeL a 0 w ha (by decide)
/-- What the loop of class keeps: the scanner's place, the items so far, the class so far. -/
structure ClsW (s : ByteArray) (b op : Nat) (R : Rd (Cls × Nat)) (w wr : World) (k n : Nat) (x : Cls) (o : Nat) : Prop where
  box : SBox wr b s k 0
  run : ClassRun s k x n R
  le : k ≤ s.size
  nle : n ≤ k
  out : CBox wr o x
  res : CBox wr w.heap.size 0
  ob : w.heap.size < o
  bb : b < w.heap.size
  chg : Chg (One b) w wr
def ClsJ (s : ByteArray) (b op : Nat) (ng : Bool) (R : Rd (Cls × Nat)) (w : World) (a' : Act) (wr : World) : Prop :=
  ∃ (k n : Nat) (x : Cls) (o : Nat) (u7 u8 u9 u10 u11 u12 u13 u14 u15 u16 u17 u18 u19 u20 u21 u22 u23 u24 u25 u26 u27 u28 u29 u30 u31 u32 u33 u34 u35 u36 u37 u38 u39 u40 u41 u42 u43 u44 u45 u46 u47 u48 u49 u50 u51 u52 u53 u54 u55 u56 u57 u58 u59 u60 u61 u62 u63 u64 u65 u66 u67 u68 u69 u70 u71 u72 u73 u74 u75 u76 u77 u78 u79 u80 u81 : Value), a' = { tmps := #[.pointer (some ⟨b, 0, none⟩), undef, .pointer (some ⟨w.heap.size, 0, none⟩), .int .i64 op, .bool ng, .pointer (some ⟨o, 0, none⟩), .int .i64 n, u7, u8, u9, u10, u11, u12, u13, u14, u15, u16, u17, u18, u19, u20, u21, u22, u23, u24, u25, u26, u27, u28, u29, u30, u31, u32, u33, u34, u35, u36, u37, u38, u39, u40, u41, u42, u43, u44, u45, u46, u47, u48, u49, u50, u51, u52, u53, u54, u55, u56, u57, u58, u59, u60, u61, u62, u63, u64, u65, u66, u67, u68, u69, u70, u71, u72, u73, u74, u75, u76, u77, u78, u79, u80, u81], defers := [] } ∧ ClsW s b op R w wr k n x o
def ClsD (s : ByteArray) (b op : Nat) (ng : Bool) (R : Rd (Cls × Nat)) (w : World) (a' : Act) (wr : World) : Prop :=
  ∃ (k n : Nat) (x : Cls) (o : Nat) (u7 u8 u9 u10 u11 u12 u13 u14 u15 u16 u17 u18 u19 u20 u21 u22 u23 u24 u25 u26 u27 u28 u29 u30 u31 u32 u33 u34 u35 u36 u37 u38 u39 u40 u41 u42 u43 u44 u45 u46 u47 u48 u49 u50 u51 u52 u53 u54 u55 u56 u57 u58 u59 u60 u61 u62 u63 u64 u65 u66 u67 u68 u69 u70 u71 u72 u73 u74 u75 u76 u77 u78 u79 u80 u81 : Value), a' = { tmps := #[.pointer (some ⟨b, 0, none⟩), undef, .pointer (some ⟨w.heap.size, 0, none⟩), .int .i64 op, .bool ng, .pointer (some ⟨o, 0, none⟩), .int .i64 n, u7, u8, u9, u10, u11, u12, u13, u14, u15, u16, u17, u18, u19, u20, u21, u22, u23, u24, u25, u26, u27, u28, u29, u30, u31, u32, u33, u34, u35, u36, u37, u38, u39, u40, u41, u42, u43, u44, u45, u46, u47, u48, u49, u50, u51, u52, u53, u54, u55, u56, u57, u58, u59, u60, u61, u62, u63, u64, u65, u66, u67, u68, u69, u70, u71, u72, u73, u74, u75, u76, u77, u78, u79, u80, u81], defers := [] } ∧ R = .ok (x, n) (k + 1) ∧ SBox wr b s (k + 1 : Nat) 0 ∧ CBox wr o x ∧ CBox wr w.heap.size 0 ∧ w.heap.size < o ∧ b < w.heap.size ∧ Chg (One b) w wr
/-- What class answers. -/
def ScC (F : Rd Cls) (s : ByteArray) (b : Nat) (w : World) (e : Ending) (w' : World) : Prop :=
  ∃ x, e = .returned (.agg #[.int .u64 (wd x 0), .int .u64 (wd x 1), .int .u64 (wd x 2), .int .u64 (wd x 3)]) ∧ (∀ y nx, F = .ok y nx → x = y) ∧ SBox w' b s F.at_ F.no ∧ Chg (One b) w w'
set_option maxHeartbeats 16000000 in
set_option maxRecDepth 100000 in
theorem class_any (b : Nat) (s : ByteArray) (op : Nat) (R : Rd (Cls × Nat)) (hR : ClassRun s (beginS s op) 0 0 R) (w : World) (H : SBox w b s (op + 1 : Nat) 0) (hs : s.size ≤ 9223372036854775000) (ha : op < s.size) :
    Calls Try.prog 52 #[.pointer (some ⟨b, 0, none⟩)] w (ScC (finC (negS s op) op R) s b w) := by
  have hlt := H.lt
  have HH := hid H
  have hR := hid hR
  clear H
  have hng : ∃ ng, ng = negS s op := ⟨_, rfl⟩
  obtain ⟨ng, hng⟩ := hng
  have hb : Hid (beginS s op = if ng = true then op + 2 else op + 1) := hid (by unfold beginS; rw [hng])
  have hng' : Hid (hasB s (op + 1) 94 = ng) := hid (by rw [hng, hasB_eq]; rfl)
  have hle : Hid (beginS s op ≤ s.size) := hid (by
    rw [hb.out, hng]; unfold negS
    by_cases h1 : op + 1 < s.size ∧ byteAt s (op + 1) = 94
    · rw [if_pos (by simpa using h1)]; omega
    · rw [if_neg (by simpa using h1)]; omega)
  rw [← hng]
  clear hng
  go_enter Try.func52, Try.ntmps52
  go_wp2_with fail
  refine wp_scope_two 1 0 (ClsJ s b op ng R w) (ClsD s b op ng R w) (fun _ wr => s.size + 1 - placeW b wr) rfl rfl (by decide) ?_ ?_ ?_
  · -- the loop
    rintro a' wr ⟨k, n, x, o, u7, u8, u9, u10, u11, u12, u13, u14, u15, u16, u17, u18, u19, u20, u21, u22, u23, u24, u25, u26, u27, u28, u29, u30, u31, u32, u33, u34, u35, u36, u37, u38, u39, u40, u41, u42, u43, u44, u45, u46, u47, u48, u49, u50, u51, u52, u53, u54, u55, u56, u57, u58, u59, u60, u61, u62, u63, u64, u65, u66, u67, u68, u69, u70, u71, u72, u73, u74, u75, u76, u77, u78, u79, u80, u81, rfl, ⟨hbox, hrun, hk, hn, hout, hres, hob, hbb, hchg⟩⟩
    have hpl := hid hbox.place
    have HB := hid hbox
    have HO := hid hout
    have HG := hid hres
    have hol := hout.lt
    have hgl := hres.lt
    clear hbox hout hres
    obtain ⟨r0, r1, r2, f0, f1, f2, hlb⟩ := SBox.at_ HB.out
    cases hrun with
    | stop h hb93 =>
      have hh := hid (show hasB s k 93 = true from by rw [hasB_eq]; simpa using ⟨h, hb93⟩)
      clear hb93
      go_wp2_with fail
      refine (has_any b s k 93 0 _ HB.out (by omega) (by omega) (by decide)).mono ?_
      rintro e w1 ⟨rfl, hB, hc⟩
      rw [hh.out]
      rw [hh.out] at hB
      have HO1 := hid (HO.out.chg hc (by unfold One; omega))
      have HG1 := hid (HG.out.chg hc (by unfold One; omega))
      have hC := hchg.trans hc
      have hs1 := hc.size
      clear hc hchg HO HG HB r0 r1 r2 f0 f1 f2 hlb
      go_wp2
      go_step3
      refine Or.inr ⟨rfl, k, n, x, o, _, _, _, _, _, _, _, _, _, _, _, _, _, _, _, _, _, _, _, _, _, _, _, _, _, _, _, _, _, _, _, _, _, _, _, _, _, _, _, _, _, _, _, _, _, _, _, _, _, _, _, _, _, _, _, _, _, _, _, _, _, _, _, _, _, _, _, _, _, _, _, _, _, _, _, rfl, rfl, hB, HO1.out, HG1.out, hob, hbb, hC⟩
    | @bad1 _ _ _ p e0 h h1 =>
      have hne := (itemS_bad h1 hk).2
      have hne1 : (e0 == 0) = false := beq_eq_false_iff_ne.2 hne
      have h1' := hid h1
      clear h1
      have hh := hid (show hasB s k 93 = false from by rw [hasB_eq]; simpa using h)
      clear h
      go_wp2_with fail
      refine (has_any b s k 93 0 _ HB.out (by omega) (by omega) (by decide)).mono ?_
      rintro e w1 ⟨rfl, hB, hc⟩
      rw [hh.out]
      rw [hh.out] at hB
      have HO1 := hid (HO.out.chg hc (by unfold One; omega))
      have HG1 := hid (HG.out.chg hc (by unfold One; omega))
      have hC := hchg.trans hc
      have hs1 := hc.size
      clear hc hchg HO HG HB r0 r1 r2 f0 f1 f2 hlb
      replace hB : SBox w1 b s k 0 := hB
      have HB1 := hid hB
      clear hB
      go_wp2_with fail
      refine (byteOf_any b s k _ HB1.out hs (by omega)).mono ?_
      rintro e w2 ⟨rfl, hB, hc⟩
      rw [h1'.out] at hB
      rw [h1'.out]
      have HO2 := hid (HO1.out.chg hc (by unfold One; omega))
      have HG2 := hid (HG1.out.chg hc (by unfold One; omega))
      replace hC := hC.trans hc
      have hs2 := hc.size
      replace hB : SBox w2 b s (p : Nat) e0 := hB
      have HB2 := hid hB
      clear hc hB HB1 HO1 HG1
      obtain ⟨r0, r1, r2, f0, f1, f2, hlb⟩ := SBox.at_ HB2.out
      simp only [Rd.val]
      have HB6 := HB2
      have HG6 := HG2
      have hC6 := hC
      have hF := hid (show finC ng op (.bad p e0) = .bad p e0 from rfl)
      go_wp2_with (with_reducible refine halt_op (.store 35 (.tmp 2) (.tmp 67)) ?_)
      unfold Halted
      refine store_blk rfl 35 (.tmp 2) (.tmp 67) (by rfl) _ (by rfl) _ (by rfl) HG6.out (by rfl) (by exact infoC4) (by rfl) ?_
      intro wz HGz hcz6
      go_wp2
      try simp only [jumps]
      exact bodyPost_ret (results_cell_row Try.results52 _ _ _ _ _ _ _ (by rfl) HGz Try.underlying35 rfl (by exact infoC4)) rfl ⟨0, by simp only [wd_zero], (by rw [hF.out]; intro y nx h; cases h), (by rw [hF.out]; exact Blk.chg HB6.out hcz6 (by unfold One; omega)), hC6.then hcz6 (fun i hi hk => absurd hk (by unfold One; omega))⟩
    | @one _ _ _ v c _ h h1 h2 r =>
      have hd := hid (show hasB s c 45 = false from by rw [hasB_eq]; simpa using h2)
      clear h2
      have hvb := itemS_ok h1
      have h1' := hid h1
      clear h1
      have hh := hid (show hasB s k 93 = false from by rw [hasB_eq]; simpa using h)
      clear h
      go_wp2_with fail
      refine (has_any b s k 93 0 _ HB.out (by omega) (by omega) (by decide)).mono ?_
      rintro e w1 ⟨rfl, hB, hc⟩
      rw [hh.out]
      rw [hh.out] at hB
      have HO1 := hid (HO.out.chg hc (by unfold One; omega))
      have HG1 := hid (HG.out.chg hc (by unfold One; omega))
      have hC := hchg.trans hc
      have hs1 := hc.size
      clear hc hchg HO HG HB r0 r1 r2 f0 f1 f2 hlb
      replace hB : SBox w1 b s k 0 := hB
      have HB1 := hid hB
      clear hB
      go_wp2_with fail
      refine (byteOf_any b s k _ HB1.out hs (by omega)).mono ?_
      rintro e w2 ⟨rfl, hB, hc⟩
      rw [h1'.out] at hB
      rw [h1'.out]
      have HO2 := hid (HO1.out.chg hc (by unfold One; omega))
      have HG2 := hid (HG1.out.chg hc (by unfold One; omega))
      replace hC := hC.trans hc
      have hs2 := hc.size
      replace hB : SBox w2 b s (c : Nat) 0 := hB
      have HB2 := hid hB
      clear hc hB HB1 HO1 HG1
      obtain ⟨r0, r1, r2, f0, f1, f2, hlb⟩ := SBox.at_ HB2.out
      simp only [Rd.val]
      go_wp2_with fail
      go_quiet (fail)
      go_wp2_with fail
      refine (has_any b s c 45 0 _ (Blk.drewN HB2.out _) (by omega) (by omega) (by decide)).mono ?_
      rintro e w3 ⟨rfl, hB, hc⟩
      rw [hd.out]
      rw [hd.out] at hB
      have HO3 := hid ((Blk.drewN HO2.out _).chg hc (by unfold One; omega))
      have HG3 := hid ((Blk.drewN HG2.out _).chg hc (by unfold One; omega))
      replace hC := (hC.drewN _).trans hc
      have hs3 := hc.size
      replace hB : SBox w3 b s (c : Nat) 0 := hB
      have HB3 := hid hB
      clear hc hB HB2 HO2 HG2 r0 r1 r2 f0 f1 f2 hlb
      obtain ⟨r0, r1, r2, f0, f1, f2, hlb⟩ := SBox.at_ HB3.out
      obtain ⟨o0, o1, o2, o3, p0, p1, p2, p3, hlo⟩ := CBox.at_ HO3.out
      go_wp2_with fail
      go_region_with (first | (go_at_call 19; (with_reducible refine (classRangeL v v _ (by omega) (by omega)).mono ?_); rintro e w4 ⟨rfl, hcx⟩; have HO4 := hid (Blk.chg (Blk.drew HO3.out) hcx id); obtain ⟨y0, y1, y2, y3, z0, z1, z2, z3, hl4⟩ := CBox.at_ HO4.out; have hcy := hid hcx; clear hcx) | (go_at_call 59; (with_reducible refine (classOrL x (rangeC v v) _).mono ?_); rintro e w5 ⟨rfl, hcx⟩; have HO5 := hid (Blk.chg HO4.out hcx id); clear o0 o1 o2 o3 p0 p1 p2 p3 y0 y1 y2 y3 z0 z1 z2 z3; obtain ⟨y0, y1, y2, y3, z0, z1, z2, z3, hl5⟩ := CBox.at_ HO5.out; have hcz := hid hcx; clear hcx))
      all_goals
        have hP : Chg (One o) w5 (putC w5 o (x ||| rangeC v v)) := (Chg.refl _ _).putOne _
        have HB5 := hid (Blk.chg (Blk.chg (Blk.drew HB3.out) hcy.out id) hcz.out id)
        have HB6 := hid (Blk.chg HB5.out hP (by unfold One; omega))
        have HG6 := hid (Blk.chg (Blk.chg (Blk.chg (Blk.drew HG3.out) hcy.out id) hcz.out id) hP (by unfold One; omega))
        have HO6 := hid (CBox.put HO5.out (x ||| rangeC v v))
        have hC6 := ((hC.drew.then hcy.out (fun _ _ h => h.elim)).then hcz.out (fun _ _ h => h.elim)).then hP (fun i hi hk => absurd hk (by unfold One; omega))
        obtain ⟨s0, s1, s2, t0, t1, t2, hl6⟩ := SBox.at_ HB5.out
        have hbo : b ≠ o := by omega
        have hbo' : o ≠ b := by omega
        clear hP HO5 HO4 hcy hcz y0 y1 y2 y3 z0 z1 z2 z3
        go_wp2
        go_step3
        refine Or.inl ⟨rfl, ⟨c, n + 1, x ||| rangeC v v, o, _, _, _, _, _, _, _, _, _, _, _, _, _, _, _, _, _, _, _, _, _, _, _, _, _, _, _, _, _, _, _, _, _, _, _, _, _, _, _, _, _, _, _, _, _, _, _, _, _, _, _, _, _, _, _, _, _, _, _, _, _, _, _, _, _, _, _, _, _, _, _, _, _, _, _, rfl, ⟨HB6.out, r, by omega, by omega, HO6.out, HG6.out, hob, hbb, hC6⟩⟩, ?_⟩
        show s.size + 1 - placeW b (putC w5 o (x ||| rangeC v v)) < s.size + 1 - placeW b wr
        rw [show placeW b (putC w5 o (x ||| rangeC v v)) = c from SBox.place HB6.out, hpl.out]; omega
    | @bad2 _ _ _ v c p e0 h h1 h2 h3 =>
      have hcs := h2.1
      have hne := (itemS_bad h3 (by omega)).2
      have hne1 : (e0 == 0) = false := beq_eq_false_iff_ne.2 hne
      have h3' := hid h3
      have hd := hid (show hasB s c 45 = true from by rw [hasB_eq]; simpa using h2)
      clear h2 h3
      have hvb := itemS_ok h1
      have h1' := hid h1
      clear h1
      have hh := hid (show hasB s k 93 = false from by rw [hasB_eq]; simpa using h)
      clear h
      go_wp2_with fail
      refine (has_any b s k 93 0 _ HB.out (by omega) (by omega) (by decide)).mono ?_
      rintro e w1 ⟨rfl, hB, hc⟩
      rw [hh.out]
      rw [hh.out] at hB
      have HO1 := hid (HO.out.chg hc (by unfold One; omega))
      have HG1 := hid (HG.out.chg hc (by unfold One; omega))
      have hC := hchg.trans hc
      have hs1 := hc.size
      clear hc hchg HO HG HB r0 r1 r2 f0 f1 f2 hlb
      replace hB : SBox w1 b s k 0 := hB
      have HB1 := hid hB
      clear hB
      go_wp2_with fail
      refine (byteOf_any b s k _ HB1.out hs (by omega)).mono ?_
      rintro e w2 ⟨rfl, hB, hc⟩
      rw [h1'.out] at hB
      rw [h1'.out]
      have HO2 := hid (HO1.out.chg hc (by unfold One; omega))
      have HG2 := hid (HG1.out.chg hc (by unfold One; omega))
      replace hC := hC.trans hc
      have hs2 := hc.size
      replace hB : SBox w2 b s (c : Nat) 0 := hB
      have HB2 := hid hB
      clear hc hB HB1 HO1 HG1
      obtain ⟨r0, r1, r2, f0, f1, f2, hlb⟩ := SBox.at_ HB2.out
      simp only [Rd.val]
      go_wp2_with fail
      go_quiet (fail)
      go_wp2_with fail
      refine (has_any b s c 45 0 _ (Blk.drewN HB2.out _) (by omega) (by omega) (by decide)).mono ?_
      rintro e w3 ⟨rfl, hB, hc⟩
      rw [hd.out]
      rw [hd.out] at hB
      have HO3 := hid ((Blk.drewN HO2.out _).chg hc (by unfold One; omega))
      have HG3 := hid ((Blk.drewN HG2.out _).chg hc (by unfold One; omega))
      replace hC := (hC.drewN _).trans hc
      have hs3 := hc.size
      replace hB : SBox w3 b s (c + 1 : Nat) 0 := hB
      have HB3 := hid hB
      clear hc hB HB2 HO2 HG2 r0 r1 r2 f0 f1 f2 hlb
      obtain ⟨r0, r1, r2, f0, f1, f2, hlb⟩ := SBox.at_ HB3.out
      go_wp2_with fail
      refine (byteOf_any b s (c + 1) _ HB3.out hs (by omega)).mono ?_
      rintro e w6 ⟨rfl, hB, hc⟩
      rw [h3'.out] at hB
      rw [h3'.out]
      have HO4 := hid (HO3.out.chg hc (by unfold One; omega))
      have HG4 := hid (HG3.out.chg hc (by unfold One; omega))
      replace hC := hC.trans hc
      have hs4 := hc.size
      replace hB : SBox w6 b s (p : Nat) e0 := hB
      have HB4 := hid hB
      clear hc hB HB3 HO3 HG3
      obtain ⟨r0, r1, r2, f0, f1, f2, hlb⟩ := SBox.at_ HB4.out
      simp only [Rd.val]
      obtain ⟨o0, o1, o2, o3, p0, p1, p2, p3, hlo⟩ := CBox.at_ HO4.out
      go_wp2_with fail
      go_region_with (first | (go_at_call 19; (with_reducible refine (classRangeL0 v _ (by omega)).mono ?_); rintro e w4 ⟨rfl, hcx⟩; have HO4 := hid (Blk.chg (Blk.drew HO4.out) hcx id); obtain ⟨y0, y1, y2, y3, z0, z1, z2, z3, hl4⟩ := CBox.at_ HO4.out; have hcy := hid hcx; clear hcx) | (go_at_call 59; (with_reducible refine (classOrL x (rangeC v 0) _).mono ?_); rintro e w5 ⟨rfl, hcx⟩; have HO5 := hid (Blk.chg HO4.out hcx id); clear o0 o1 o2 o3 p0 p1 p2 p3 y0 y1 y2 y3 z0 z1 z2 z3; obtain ⟨y0, y1, y2, y3, z0, z1, z2, z3, hl5⟩ := CBox.at_ HO5.out; have hcz := hid hcx; clear hcx))
      all_goals
        have hP : Chg (One o) w5 (putC w5 o (x ||| rangeC v 0)) := (Chg.refl _ _).putOne _
        have HB5 := hid (Blk.chg (Blk.chg (Blk.drew HB4.out) hcy.out id) hcz.out id)
        have HB6 := hid (Blk.chg HB5.out hP (by unfold One; omega))
        have HG6 := hid (Blk.chg (Blk.chg (Blk.chg (Blk.drew HG4.out) hcy.out id) hcz.out id) hP (by unfold One; omega))
        have HO6 := hid (CBox.put HO5.out (x ||| rangeC v 0))
        have hC6 := ((hC.drew.then hcy.out (fun _ _ h => h.elim)).then hcz.out (fun _ _ h => h.elim)).then hP (fun i hi hk => absurd hk (by unfold One; omega))
        obtain ⟨s0, s1, s2, t0, t1, t2, hl6⟩ := SBox.at_ HB5.out
        have hbo : b ≠ o := by omega
        have hbo' : o ≠ b := by omega
        clear hP HO5 HO4 hcy hcz y0 y1 y2 y3 z0 z1 z2 z3
        have hF := hid (show finC ng op (.bad p e0) = .bad p e0 from rfl)
        go_wp2_with (with_reducible refine halt_op (.store 35 (.tmp 2) (.tmp 67)) ?_)
        unfold Halted
        refine store_blk rfl 35 (.tmp 2) (.tmp 67) (by rfl) _ (by rfl) _ (by rfl) HG6.out (by rfl) (by exact infoC4) (by rfl) ?_
        intro wz HGz hcz6
        go_wp2
        try simp only [jumps]
        exact bodyPost_ret (results_cell_row Try.results52 _ _ _ _ _ _ _ (by rfl) HGz Try.underlying35 rfl (by exact infoC4)) rfl ⟨0, by simp only [wd_zero], (by rw [hF.out]; intro y nx h; cases h), (by rw [hF.out]; exact Blk.chg HB6.out hcz6 (by unfold One; omega)), hC6.then hcz6 (fun i hi hk => absurd hk (by unfold One; omega))⟩
    | @less _ _ _ v c u d h h1 h2 h3 h4 =>
      have hd := hid (show hasB s c 45 = true from by rw [hasB_eq]; simpa using h2)
      have hcs := h2.1
      clear h2
      have hud := itemS_ok h3
      have hnl : ((u : Int) < (v : Int)) := by omega
      have h3' := hid h3
      clear h3
      have hvb := itemS_ok h1
      have h1' := hid h1
      clear h1
      have hh := hid (show hasB s k 93 = false from by rw [hasB_eq]; simpa using h)
      clear h
      go_wp2_with fail
      refine (has_any b s k 93 0 _ HB.out (by omega) (by omega) (by decide)).mono ?_
      rintro e w1 ⟨rfl, hB, hc⟩
      rw [hh.out]
      rw [hh.out] at hB
      have HO1 := hid (HO.out.chg hc (by unfold One; omega))
      have HG1 := hid (HG.out.chg hc (by unfold One; omega))
      have hC := hchg.trans hc
      have hs1 := hc.size
      clear hc hchg HO HG HB r0 r1 r2 f0 f1 f2 hlb
      replace hB : SBox w1 b s k 0 := hB
      have HB1 := hid hB
      clear hB
      go_wp2_with fail
      refine (byteOf_any b s k _ HB1.out hs (by omega)).mono ?_
      rintro e w2 ⟨rfl, hB, hc⟩
      rw [h1'.out] at hB
      rw [h1'.out]
      have HO2 := hid (HO1.out.chg hc (by unfold One; omega))
      have HG2 := hid (HG1.out.chg hc (by unfold One; omega))
      replace hC := hC.trans hc
      have hs2 := hc.size
      replace hB : SBox w2 b s (c : Nat) 0 := hB
      have HB2 := hid hB
      clear hc hB HB1 HO1 HG1
      obtain ⟨r0, r1, r2, f0, f1, f2, hlb⟩ := SBox.at_ HB2.out
      simp only [Rd.val]
      go_wp2_with fail
      go_quiet (fail)
      go_wp2_with fail
      refine (has_any b s c 45 0 _ (Blk.drewN HB2.out _) (by omega) (by omega) (by decide)).mono ?_
      rintro e w3 ⟨rfl, hB, hc⟩
      rw [hd.out]
      rw [hd.out] at hB
      have HO3 := hid ((Blk.drewN HO2.out _).chg hc (by unfold One; omega))
      have HG3 := hid ((Blk.drewN HG2.out _).chg hc (by unfold One; omega))
      replace hC := (hC.drewN _).trans hc
      have hs3 := hc.size
      replace hB : SBox w3 b s (c + 1 : Nat) 0 := hB
      have HB3 := hid hB
      clear hc hB HB2 HO2 HG2 r0 r1 r2 f0 f1 f2 hlb
      obtain ⟨r0, r1, r2, f0, f1, f2, hlb⟩ := SBox.at_ HB3.out
      go_wp2_with fail
      refine (byteOf_any b s (c + 1) _ HB3.out hs (by omega)).mono ?_
      rintro e w6 ⟨rfl, hB, hc⟩
      rw [h3'.out] at hB
      rw [h3'.out]
      have HO4 := hid (HO3.out.chg hc (by unfold One; omega))
      have HG4 := hid (HG3.out.chg hc (by unfold One; omega))
      replace hC := hC.trans hc
      have hs4 := hc.size
      replace hB : SBox w6 b s (d : Nat) 0 := hB
      have HB4 := hid hB
      clear hc hB HB3 HO3 HG3
      obtain ⟨r0, r1, r2, f0, f1, f2, hlb⟩ := SBox.at_ HB4.out
      simp only [Rd.val]
      go_wp2_with fail
      refine (fails_any b s d 0 c 132 _ HB4.out).mono ?_
      rintro e w7 ⟨rfl, hB, hc⟩
      have HO5' := hid (HO4.out.chg hc (by unfold One; omega))
      have HG5' := hid (HG4.out.chg hc (by unfold One; omega))
      replace hC := hC.trans hc
      have hs7 := hc.size
      have HB5' := hid hB
      clear hc hB HB4 HO4 HG4 r0 r1 r2 f0 f1 f2 hlb
      obtain ⟨o0, o1, o2, o3, p0, p1, p2, p3, hlo⟩ := CBox.at_ HO5'.out
      go_wp2_with fail
      go_region_with (first | (go_at_call 19; (with_reducible refine (classRangeL v u _ (by omega) (by omega)).mono ?_); rintro e w4 ⟨rfl, hcx⟩; have HO4 := hid (Blk.chg (Blk.drew HO5'.out) hcx id); obtain ⟨y0, y1, y2, y3, z0, z1, z2, z3, hl4⟩ := CBox.at_ HO4.out; have hcy := hid hcx; clear hcx) | (go_at_call 59; (with_reducible refine (classOrL x (rangeC v u) _).mono ?_); rintro e w5 ⟨rfl, hcx⟩; have HO5 := hid (Blk.chg HO4.out hcx id); clear o0 o1 o2 o3 p0 p1 p2 p3 y0 y1 y2 y3 z0 z1 z2 z3; obtain ⟨y0, y1, y2, y3, z0, z1, z2, z3, hl5⟩ := CBox.at_ HO5.out; have hcz := hid hcx; clear hcx))
      all_goals
        have hP : Chg (One o) w5 (putC w5 o (x ||| rangeC v u)) := (Chg.refl _ _).putOne _
        have HB5 := hid (Blk.chg (Blk.chg (Blk.drew HB5'.out) hcy.out id) hcz.out id)
        have HB6 := hid (Blk.chg HB5.out hP (by unfold One; omega))
        have HG6 := hid (Blk.chg (Blk.chg (Blk.chg (Blk.drew HG5'.out) hcy.out id) hcz.out id) hP (by unfold One; omega))
        have HO6 := hid (CBox.put HO5.out (x ||| rangeC v u))
        have hC6 := ((hC.drew.then hcy.out (fun _ _ h => h.elim)).then hcz.out (fun _ _ h => h.elim)).then hP (fun i hi hk => absurd hk (by unfold One; omega))
        obtain ⟨s0, s1, s2, t0, t1, t2, hl6⟩ := SBox.at_ HB5.out
        have hbo : b ≠ o := by omega
        have hbo' : o ≠ b := by omega
        clear hP HO5 HO4 hcy hcz y0 y1 y2 y3 z0 z1 z2 z3
        have hF := hid (show finC ng op (.bad c 132) = .bad c 132 from rfl)
        go_wp2_with (with_reducible refine halt_op (.store 35 (.tmp 2) (.tmp 67)) ?_)
        unfold Halted
        refine store_blk rfl 35 (.tmp 2) (.tmp 67) (by rfl) _ (by rfl) _ (by rfl) HG6.out (by rfl) (by exact infoC4) (by rfl) ?_
        intro wz HGz hcz6
        go_wp2
        try simp only [jumps]
        exact bodyPost_ret (results_cell_row Try.results52 _ _ _ _ _ _ _ (by rfl) HGz Try.underlying35 rfl (by exact infoC4)) rfl ⟨0, by simp only [wd_zero], (by rw [hF.out]; intro y nx h; cases h), (by rw [hF.out]; exact Blk.chg HB6.out hcz6 (by unfold One; omega)), hC6.then hcz6 (fun i hi hk => absurd hk (by unfold One; omega))⟩
    | @two _ _ _ v c u d _ h h1 h2 h3 h4 r =>
      have hd := hid (show hasB s c 45 = true from by rw [hasB_eq]; simpa using h2)
      have hcs := h2.1
      clear h2
      have hud := itemS_ok h3
      have hnl : ¬ ((u : Int) < (v : Int)) := by omega
      have h3' := hid h3
      clear h3
      have hvb := itemS_ok h1
      have h1' := hid h1
      clear h1
      have hh := hid (show hasB s k 93 = false from by rw [hasB_eq]; simpa using h)
      clear h
      go_wp2_with fail
      refine (has_any b s k 93 0 _ HB.out (by omega) (by omega) (by decide)).mono ?_
      rintro e w1 ⟨rfl, hB, hc⟩
      rw [hh.out]
      rw [hh.out] at hB
      have HO1 := hid (HO.out.chg hc (by unfold One; omega))
      have HG1 := hid (HG.out.chg hc (by unfold One; omega))
      have hC := hchg.trans hc
      have hs1 := hc.size
      clear hc hchg HO HG HB r0 r1 r2 f0 f1 f2 hlb
      replace hB : SBox w1 b s k 0 := hB
      have HB1 := hid hB
      clear hB
      go_wp2_with fail
      refine (byteOf_any b s k _ HB1.out hs (by omega)).mono ?_
      rintro e w2 ⟨rfl, hB, hc⟩
      rw [h1'.out] at hB
      rw [h1'.out]
      have HO2 := hid (HO1.out.chg hc (by unfold One; omega))
      have HG2 := hid (HG1.out.chg hc (by unfold One; omega))
      replace hC := hC.trans hc
      have hs2 := hc.size
      replace hB : SBox w2 b s (c : Nat) 0 := hB
      have HB2 := hid hB
      clear hc hB HB1 HO1 HG1
      obtain ⟨r0, r1, r2, f0, f1, f2, hlb⟩ := SBox.at_ HB2.out
      simp only [Rd.val]
      go_wp2_with fail
      go_quiet (fail)
      go_wp2_with fail
      refine (has_any b s c 45 0 _ (Blk.drewN HB2.out _) (by omega) (by omega) (by decide)).mono ?_
      rintro e w3 ⟨rfl, hB, hc⟩
      rw [hd.out]
      rw [hd.out] at hB
      have HO3 := hid ((Blk.drewN HO2.out _).chg hc (by unfold One; omega))
      have HG3 := hid ((Blk.drewN HG2.out _).chg hc (by unfold One; omega))
      replace hC := (hC.drewN _).trans hc
      have hs3 := hc.size
      replace hB : SBox w3 b s (c + 1 : Nat) 0 := hB
      have HB3 := hid hB
      clear hc hB HB2 HO2 HG2 r0 r1 r2 f0 f1 f2 hlb
      obtain ⟨r0, r1, r2, f0, f1, f2, hlb⟩ := SBox.at_ HB3.out
      go_wp2_with fail
      refine (byteOf_any b s (c + 1) _ HB3.out hs (by omega)).mono ?_
      rintro e w6 ⟨rfl, hB, hc⟩
      rw [h3'.out] at hB
      rw [h3'.out]
      have HO4 := hid (HO3.out.chg hc (by unfold One; omega))
      have HG4 := hid (HG3.out.chg hc (by unfold One; omega))
      replace hC := hC.trans hc
      have hs4 := hc.size
      replace hB : SBox w6 b s (d : Nat) 0 := hB
      have HB4 := hid hB
      clear hc hB HB3 HO3 HG3
      obtain ⟨r0, r1, r2, f0, f1, f2, hlb⟩ := SBox.at_ HB4.out
      simp only [Rd.val]
      obtain ⟨o0, o1, o2, o3, p0, p1, p2, p3, hlo⟩ := CBox.at_ HO4.out
      go_wp2_with fail
      go_region_with (first | (go_at_call 19; (with_reducible refine (classRangeL v u _ (by omega) (by omega)).mono ?_); rintro e w4 ⟨rfl, hcx⟩; have HO4 := hid (Blk.chg (Blk.drew HO4.out) hcx id); obtain ⟨y0, y1, y2, y3, z0, z1, z2, z3, hl4⟩ := CBox.at_ HO4.out; have hcy := hid hcx; clear hcx) | (go_at_call 59; (with_reducible refine (classOrL x (rangeC v u) _).mono ?_); rintro e w5 ⟨rfl, hcx⟩; have HO5 := hid (Blk.chg HO4.out hcx id); clear o0 o1 o2 o3 p0 p1 p2 p3 y0 y1 y2 y3 z0 z1 z2 z3; obtain ⟨y0, y1, y2, y3, z0, z1, z2, z3, hl5⟩ := CBox.at_ HO5.out; have hcz := hid hcx; clear hcx))
      all_goals
        have hP : Chg (One o) w5 (putC w5 o (x ||| rangeC v u)) := (Chg.refl _ _).putOne _
        have HB5 := hid (Blk.chg (Blk.chg (Blk.drew HB4.out) hcy.out id) hcz.out id)
        have HB6 := hid (Blk.chg HB5.out hP (by unfold One; omega))
        have HG6 := hid (Blk.chg (Blk.chg (Blk.chg (Blk.drew HG4.out) hcy.out id) hcz.out id) hP (by unfold One; omega))
        have HO6 := hid (CBox.put HO5.out (x ||| rangeC v u))
        have hC6 := ((hC.drew.then hcy.out (fun _ _ h => h.elim)).then hcz.out (fun _ _ h => h.elim)).then hP (fun i hi hk => absurd hk (by unfold One; omega))
        obtain ⟨s0, s1, s2, t0, t1, t2, hl6⟩ := SBox.at_ HB5.out
        have hbo : b ≠ o := by omega
        have hbo' : o ≠ b := by omega
        clear hP HO5 HO4 hcy hcz y0 y1 y2 y3 z0 z1 z2 z3
        go_wp2
        go_step3
        refine Or.inl ⟨rfl, ⟨d, n + 1, x ||| rangeC v u, o, _, _, _, _, _, _, _, _, _, _, _, _, _, _, _, _, _, _, _, _, _, _, _, _, _, _, _, _, _, _, _, _, _, _, _, _, _, _, _, _, _, _, _, _, _, _, _, _, _, _, _, _, _, _, _, _, _, _, _, _, _, _, _, _, _, _, _, _, _, _, _, _, _, _, _, rfl, ⟨HB6.out, r, by omega, by omega, HO6.out, HG6.out, hob, hbb, hC6⟩⟩, ?_⟩
        show s.size + 1 - placeW b (putC w5 o (x ||| rangeC v u)) < s.size + 1 - placeW b wr
        rw [show placeW b (putC w5 o (x ||| rangeC v u)) = d from SBox.place HB6.out, hpl.out]; omega
  · -- the way out
    rintro a' wr ⟨k, n, x, o, u7, u8, u9, u10, u11, u12, u13, u14, u15, u16, u17, u18, u19, u20, u21, u22, u23, u24, u25, u26, u27, u28, u29, u30, u31, u32, u33, u34, u35, u36, u37, u38, u39, u40, u41, u42, u43, u44, u45, u46, u47, u48, u49, u50, u51, u52, u53, u54, u55, u56, u57, u58, u59, u60, u61, u62, u63, u64, u65, u66, u67, u68, u69, u70, u71, u72, u73, u74, u75, u76, u77, u78, u79, u80, u81, rfl, rfl, hbox, hout, hres, hob, hbb, hchg⟩
    have HB := hid hbox
    have HO := hid hout
    have HG := hid hres
    have hol := hout.lt
    have hgl := hres.lt
    obtain ⟨o0, o1, o2, o3, p0, p1, p2, p3, hlo⟩ := CBox.at_ hout
    obtain ⟨r0, r1, r2, f0, f1, f2, hlb⟩ := SBox.at_ hbox
    clear hbox hout hres
    cases ng with
    | true =>
      have hF := hid (show finC true op (.ok (x, n) (k + 1)) = if n = 0 ∨ (~~~ x) = 0 then .bad op 132 else .ok (~~~ x) (k + 1) from rfl)
      go_wp2_with fail
      refine (classNotL x _).mono ?_
      rintro e w1 ⟨rfl, hc⟩
      have HO1 := hid (HO.out.chg hc id)
      have HG1 := hid (HG.out.chg hc id)
      have HB1 := hid (HB.out.chg hc id)
      have hC := hchg.then hc (fun _ _ h => h.elim)
      have hs1 := hc.size
      clear hc hchg HO HG HB o0 o1 o2 o3 p0 p1 p2 p3 hlo r0 r1 r2 f0 f1 f2 hlb
      go_wp2_with (with_reducible refine halt_op (.store 35 (.tmp 5) (.tmp 70)) ?_)
      unfold Halted
      refine store_blk rfl 35 (.tmp 5) (.tmp 70) (by rfl) _ (by rfl) _ (by rfl) HO1.out (by rfl) (by exact infoC4) (by rfl) ?_
      intro w2 HO2 hc2
      have HB2 := hid (HB1.out.chg hc2 (by unfold One; omega))
      have HG2 := hid (HG1.out.chg hc2 (by unfold One; omega))
      replace HO2 := hid (show CBox w2 o (~~~ x) from HO2)
      replace hC := hC.then hc2 (fun i hi hk => absurd hk (by unfold One; omega))
      have hs2 := hc2.size
      clear hc2 HO1 HG1 HB1
      obtain ⟨o0, o1, o2, o3, p0, p1, p2, p3, hlo⟩ := CBox.at_ HO2.out
      obtain ⟨r0, r1, r2, f0, f1, f2, hlb⟩ := SBox.at_ HB2.out
      by_cases hn0 : n = 0
      · subst hn0
        have hE := hid (show finC true op (.ok (x, 0) (k + 1)) = .bad op 132 from by rw [hF.out, if_pos (Or.inl rfl)])
        go_wp2_with fail
        refine (fails_any b s _ 0 op 132 _ HB2.out).mono ?_
        rintro e w7 ⟨rfl, hB, hc⟩
        have HO3 := hid (HO2.out.chg hc (by unfold One; omega))
        have HG3 := hid (HG2.out.chg hc (by unfold One; omega))
        replace hC := hC.trans hc
        have hs7 := hc.size
        have HB3 := hid hB
        clear hc hB HB2 HO2 HG2 r0 r1 r2 f0 f1 f2 hlb o0 o1 o2 o3 p0 p1 p2 p3 hlo
        obtain ⟨o0, o1, o2, o3, p0, p1, p2, p3, hlo⟩ := CBox.at_ HO3.out
        go_wp2_with (with_reducible refine halt_op (.store 35 (.tmp 2) (.tmp 81)) ?_)
        unfold Halted
        refine store_blk rfl 35 (.tmp 2) (.tmp 81) (by rfl) _ (by rfl) _ (by rfl) HG3.out (by rfl) (by exact infoC4) (by rfl) ?_
        intro wz HGz hcz6
        go_wp2
        try simp only [jumps]
        exact bodyPost_ret (results_cell_row Try.results52 _ _ _ _ _ _ _ (by rfl) HGz Try.underlying35 rfl (by exact infoC4)) rfl ⟨(~~~ x), rfl, (by rw [hE.out]; intro y nx h; cases h), (by rw [hE.out]; exact Blk.chg HB3.out hcz6 (by unfold One; omega)), hC.then hcz6 (fun i hi hk => absurd hk (by unfold One; omega))⟩
      · have hnd : ((n : Int) == 0) = false := by rw [beq_eq_false_iff_ne]; omega
        by_cases hy : (~~~ x) = 0
        · have hE := hid (show finC true op (.ok (x, n) (k + 1)) = .bad op 132 from by rw [hF.out, if_pos (Or.inr hy)])
          have hq := eq_class (~~~ x) 0
          rw [decide_eq_true hy] at hq
          unfold encC at hq
          simp only [wd_zero] at hq
          replace hy := hid hy
          go_wp2_with fail
          refine (fails_any b s _ 0 op 132 _ HB2.out).mono ?_
          rintro e w7 ⟨rfl, hB, hc⟩
          have HO3 := hid (HO2.out.chg hc (by unfold One; omega))
          have HG3 := hid (HG2.out.chg hc (by unfold One; omega))
          replace hC := hC.trans hc
          have hs7 := hc.size
          have HB3 := hid hB
          clear hc hB HB2 HO2 HG2 r0 r1 r2 f0 f1 f2 hlb o0 o1 o2 o3 p0 p1 p2 p3 hlo
          obtain ⟨o0, o1, o2, o3, p0, p1, p2, p3, hlo⟩ := CBox.at_ HO3.out
          go_wp2_with (with_reducible refine halt_op (.store 35 (.tmp 2) (.tmp 81)) ?_)
          unfold Halted
          refine store_blk rfl 35 (.tmp 2) (.tmp 81) (by rfl) _ (by rfl) _ (by rfl) HG3.out (by rfl) (by exact infoC4) (by rfl) ?_
          intro wz HGz hcz6
          go_wp2
          try simp only [jumps]
          exact bodyPost_ret (results_cell_row Try.results52 _ _ _ _ _ _ _ (by rfl) HGz Try.underlying35 rfl (by exact infoC4)) rfl ⟨(~~~ x), rfl, (by rw [hE.out]; intro y nx h; cases h), (by rw [hE.out]; exact Blk.chg HB3.out hcz6 (by unfold One; omega)), hC.then hcz6 (fun i hi hk => absurd hk (by unfold One; omega))⟩
        · have hE := hid (show finC true op (.ok (x, n) (k + 1)) = .ok (~~~ x) (k + 1) from by rw [hF.out, if_neg (by intro h; rcases h with h | h; exact hn0 h; exact hy h)])
          have hq := eq_class (~~~ x) 0
          rw [decide_eq_false hy] at hq
          unfold encC at hq
          simp only [wd_zero] at hq
          replace hy := hid hy
          have HO3 := HO2
          have HG3 := HG2
          have HB3 := HB2
          go_wp2_with (with_reducible refine halt_op (.store 35 (.tmp 2) (.tmp 81)) ?_)
          unfold Halted
          refine store_blk rfl 35 (.tmp 2) (.tmp 81) (by rfl) _ (by rfl) _ (by rfl) HG3.out (by rfl) (by exact infoC4) (by rfl) ?_
          intro wz HGz hcz6
          go_wp2
          try simp only [jumps]
          exact bodyPost_ret (results_cell_row Try.results52 _ _ _ _ _ _ _ (by rfl) HGz Try.underlying35 rfl (by exact infoC4)) rfl ⟨(~~~ x), rfl, (by rw [hE.out]; intro y nx h; injection h), (by rw [hE.out]; exact Blk.chg HB3.out hcz6 (by unfold One; omega)), hC.then hcz6 (fun i hi hk => absurd hk (by unfold One; omega))⟩
    | false =>
      have hF := hid (show finC false op (.ok (x, n) (k + 1)) = if n = 0 ∨ x = 0 then .bad op 132 else .ok x (k + 1) from rfl)
      have HO2 := HO
      have HG2 := HG
      have HB2 := HB
      have hC := hchg
      clear hchg HO HG HB
      by_cases hn0 : n = 0
      · subst hn0
        have hE := hid (show finC false op (.ok (x, 0) (k + 1)) = .bad op 132 from by rw [hF.out, if_pos (Or.inl rfl)])
        go_wp2_with fail
        refine (fails_any b s _ 0 op 132 _ HB2.out).mono ?_
        rintro e w7 ⟨rfl, hB, hc⟩
        have HO3 := hid (HO2.out.chg hc (by unfold One; omega))
        have HG3 := hid (HG2.out.chg hc (by unfold One; omega))
        replace hC := hC.trans hc
        have hs7 := hc.size
        have HB3 := hid hB
        clear hc hB HB2 HO2 HG2 r0 r1 r2 f0 f1 f2 hlb o0 o1 o2 o3 p0 p1 p2 p3 hlo
        obtain ⟨o0, o1, o2, o3, p0, p1, p2, p3, hlo⟩ := CBox.at_ HO3.out
        go_wp2_with (with_reducible refine halt_op (.store 35 (.tmp 2) (.tmp 81)) ?_)
        unfold Halted
        refine store_blk rfl 35 (.tmp 2) (.tmp 81) (by rfl) _ (by rfl) _ (by rfl) HG3.out (by rfl) (by exact infoC4) (by rfl) ?_
        intro wz HGz hcz6
        go_wp2
        try simp only [jumps]
        exact bodyPost_ret (results_cell_row Try.results52 _ _ _ _ _ _ _ (by rfl) HGz Try.underlying35 rfl (by exact infoC4)) rfl ⟨x, rfl, (by rw [hE.out]; intro y nx h; cases h), (by rw [hE.out]; exact Blk.chg HB3.out hcz6 (by unfold One; omega)), hC.then hcz6 (fun i hi hk => absurd hk (by unfold One; omega))⟩
      · have hnd : ((n : Int) == 0) = false := by rw [beq_eq_false_iff_ne]; omega
        by_cases hy : x = 0
        · have hE := hid (show finC false op (.ok (x, n) (k + 1)) = .bad op 132 from by rw [hF.out, if_pos (Or.inr hy)])
          have hq := eq_class x 0
          rw [decide_eq_true hy] at hq
          unfold encC at hq
          simp only [wd_zero] at hq
          replace hy := hid hy
          go_wp2_with fail
          refine (fails_any b s _ 0 op 132 _ HB2.out).mono ?_
          rintro e w7 ⟨rfl, hB, hc⟩
          have HO3 := hid (HO2.out.chg hc (by unfold One; omega))
          have HG3 := hid (HG2.out.chg hc (by unfold One; omega))
          replace hC := hC.trans hc
          have hs7 := hc.size
          have HB3 := hid hB
          clear hc hB HB2 HO2 HG2 r0 r1 r2 f0 f1 f2 hlb o0 o1 o2 o3 p0 p1 p2 p3 hlo
          obtain ⟨o0, o1, o2, o3, p0, p1, p2, p3, hlo⟩ := CBox.at_ HO3.out
          go_wp2_with (with_reducible refine halt_op (.store 35 (.tmp 2) (.tmp 81)) ?_)
          unfold Halted
          refine store_blk rfl 35 (.tmp 2) (.tmp 81) (by rfl) _ (by rfl) _ (by rfl) HG3.out (by rfl) (by exact infoC4) (by rfl) ?_
          intro wz HGz hcz6
          go_wp2
          try simp only [jumps]
          exact bodyPost_ret (results_cell_row Try.results52 _ _ _ _ _ _ _ (by rfl) HGz Try.underlying35 rfl (by exact infoC4)) rfl ⟨x, rfl, (by rw [hE.out]; intro y nx h; cases h), (by rw [hE.out]; exact Blk.chg HB3.out hcz6 (by unfold One; omega)), hC.then hcz6 (fun i hi hk => absurd hk (by unfold One; omega))⟩
        · have hE := hid (show finC false op (.ok (x, n) (k + 1)) = .ok x (k + 1) from by rw [hF.out, if_neg (by intro h; rcases h with h | h; exact hn0 h; exact hy h)])
          have hq := eq_class x 0
          rw [decide_eq_false hy] at hq
          unfold encC at hq
          simp only [wd_zero] at hq
          replace hy := hid hy
          have HO3 := HO2
          have HG3 := HG2
          have HB3 := HB2
          go_wp2_with (with_reducible refine halt_op (.store 35 (.tmp 2) (.tmp 81)) ?_)
          unfold Halted
          refine store_blk rfl 35 (.tmp 2) (.tmp 81) (by rfl) _ (by rfl) _ (by rfl) HG3.out (by rfl) (by exact infoC4) (by rfl) ?_
          intro wz HGz hcz6
          go_wp2
          try simp only [jumps]
          exact bodyPost_ret (results_cell_row Try.results52 _ _ _ _ _ _ _ (by rfl) HGz Try.underlying35 rfl (by exact infoC4)) rfl ⟨x, rfl, (by rw [hE.out]; intro y nx h; injection h), (by rw [hE.out]; exact Blk.chg HB3.out hcz6 (by unfold One; omega)), hC.then hcz6 (fun i hi hk => absurd hk (by unfold One; omega))⟩
  · -- ahead of the loop
    intro run
    have hrun' := hid run
    clear run
    have HBa := hid (HH.out.alloc (.cells #[.int .u64 0, .int .u64 0, .int .u64 0, .int .u64 0] 35))
    have HGa := hid (CBox.zero w)
    obtain ⟨r0, r1, r2, f0, f1, f2, hlb⟩ := SBox.at_ HBa.out
    go_wp2_with fail
    refine (has_any b s (op + 1) 94 0 _ HBa.out (by omega) (by omega) (by decide)).mono ?_
    rintro e w1 ⟨rfl, hB, hc⟩
    rw [hng'.out]
    rw [hng'.out] at hB
    have HG1 := hid (HGa.out.chg hc (by unfold One; omega))
    have hC := ((Chg.refl (One b) w).alloc (.cells #[.int .u64 0, .int .u64 0, .int .u64 0, .int .u64 0] 35)).trans hc
    have hs1 := hc.size
    rw [World.size_alloc] at hs1
    clear hc r0 r1 r2 f0 f1 f2 hlb
    replace hB : SBox w1 b s (beginS s op : Nat) 0 := by
      rw [hb.out]; exact SBox.of hB (by cases ng <;> simp <;> omega) rfl
    have HB1 := hid hB
    clear hB
    go_wp2
    go_step3
    refine (‹∀ (a : Act) (w : World), Code.wp _ _ _ a w → _›) _ _ (hrun'.out _ _ ⟨beginS s op, 0, 0, w1.heap.size, _, _, _, _, _, _, _, _, _, _, _, _, _, _, _, _, _, _, _, _, _, _, _, _, _, _, _, _, _, _, _, _, _, _, _, _, _, _, _, _, _, _, _, _, _, _, _, _, _, _, _, _, _, _, _, _, _, _, _, _, _, _, _, _, _, _, _, _, _, _, _, _, _, _, _, rfl, ⟨Blk.alloc HB1.out _, hR.out, hle.out, Nat.zero_le _, CBox.zero w1, Blk.alloc HG1.out _, by omega, hlt, hC.alloc _⟩⟩)
end Go.Proofs.Ytpndjehiacmngaa
