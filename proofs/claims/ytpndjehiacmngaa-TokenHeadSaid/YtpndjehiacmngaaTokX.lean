/- Layer 13: the program's scanner: pattern. -/
import Derived.Test.YtpndjehiacmngaaTokS
import Derived.Test.YtpndjehiacmngaaTokU
import Derived.Laws.BytesArg
namespace Go.Proofs.Ytpndjehiacmngaa
open Go.RowKit
set_option linter.unusedVariables false
attribute [local go_sem ↓] Go.wp_at_zero Go.wp_at_succ
def noW (b : Nat) (w : World) : Int := match w.cell? ⟨b, 2, none⟩ with
  | some (.int _ q) => q
  | _ => 0
theorem SBox.noOf {w : World} {b : Nat} {s : ByteArray} {a no : Int} (h : SBox w b s a no) : noW b w = no := by
  unfold noW; rw [h.at_.r2]
def patMu (s : ByteArray) (b : Nat) (w : World) : Nat := if noW b w = 0 then s.size + 2 - placeW b w else 0
structure PatW (s : ByteArray) (b : Nat) (R : Rd (List Cls)) (w wr : World) (k : Nat) (no : Int) (xs : List Cls) (A : Option Addr) (n c : Nat) : Prop where
  box : SBox wr b s k no
  st : (no = 0 ∧ PatRun s k xs R ∧ n ≤ 64) ∨ (no ≠ 0 ∧ R = .bad k no)
  le : k ≤ s.size
  own : POwn wr w.heap.size A n c xs
  bb : b < w.heap.size
  chg : Chg (One b) w wr
def PatJ (s : ByteArray) (b : Nat) (R : Rd (List Cls)) (w : World) (a' : Act) (wr : World) : Prop :=
  ∃ (k : Nat) (no : Int) (xs : List Cls) (A : Option Addr) (n c : Nat) (u2 u4 u5 u6 u7 u8 u9 u10 u11 u12 u13 u14 u15 u16 u17 u18 u19 u20 u21 u22 u23 u24 u25 u26 u27 u28 u29 u30 u31 u32 u33 u34 u35 u36 u37 u38 u39 u40 u41 u42 u43 u44 u45 u46 u47 u48 u49 u50 u51 u52 u53 u54 u55 u56 u57 u58 u59 u60 u61 u62 u63 u64 u65 u66 u67 u68 u69 u70 u71 u72 u73 u74 u75 u76 u77 u78 u79 u80 u81 u82 u83 u84 u85 u86 u87 : Value), a' = { tmps := #[.pointer (some ⟨b, 0, none⟩), undef, u2, .slice A n c, u4, u5, u6, u7, u8, u9, u10, u11, u12, u13, u14, u15, u16, u17, u18, u19, u20, u21, u22, u23, u24, u25, u26, u27, u28, u29, u30, u31, u32, u33, u34, u35, u36, u37, u38, u39, u40, u41, u42, u43, u44, u45, u46, u47, u48, u49, u50, u51, u52, u53, u54, u55, u56, u57, u58, u59, u60, u61, u62, u63, u64, u65, u66, u67, u68, u69, u70, u71, u72, u73, u74, u75, u76, u77, u78, u79, u80, u81, u82, u83, u84, u85, u86, u87], defers := [] } ∧ PatW s b R w wr k no xs A n c
def ScP (R : Rd (List Cls)) (s : ByteArray) (b : Nat) (w : World) (e : Ending) (w' : World) : Prop :=
  ∃ (A : Option Addr) (n c : Nat), e = .returned (.slice A n c) ∧ (∀ ys nx, R = .ok ys nx → POwn w' w.heap.size A n c ys) ∧ SBox w' b s R.at_ R.no ∧ Chg (One b) w w'
theorem hasB_no {s : ByteArray} {k x : Nat} (h : byteAt s k ≠ x) : hasB s k x = false := by rw [hasB_eq]; simp [h]
theorem hasB_yes {s : ByteArray} {k x : Nat} (hk : k < s.size) (h : byteAt s k = x) : hasB s k x = true := by rw [hasB_eq]; simp [hk, h]
theorem ofC_str (v : Nat) (hv : v < 256) : ofC (strOfNums [(v : Int)]) = BitVec.twoPow 256 v := by
  unfold ofC
  rw [strOfNums_data]
  have : (UInt8.ofNat (v : Int).toNat).toNat = v := by simp; omega
  simp only [List.map_cons, List.map_nil, List.foldl_cons, List.foldl_nil, this]
  simp
set_option maxHeartbeats 16000000 in
set_option maxRecDepth 100000 in
theorem pattern_any (b : Nat) (s : ByteArray) (a : Nat) (R : Rd (List Cls)) (hR : PatRun s a [] R) (w : World) (H : SBox w b s a 0) (hs : s.size ≤ 9223372036854775000) (ha : a ≤ s.size) :
    Calls Try.prog 36 #[.pointer (some ⟨b, 0, none⟩)] w (ScP R s b w) := by
  have hlt := H.lt
  have HH := hid H
  have hR := hid hR
  clear H
  go_enter Try.func36, Try.ntmps36
  go_wp2_with fail
  refine wp_scope_one 0 (PatJ s b R w) (fun _ wr => patMu s b wr) rfl ?_ ?_
  · -- from the label on
    rintro a' wr ⟨k, no, xs, A, n, c, u2, u4, u5, u6, u7, u8, u9, u10, u11, u12, u13, u14, u15, u16, u17, u18, u19, u20, u21, u22, u23, u24, u25, u26, u27, u28, u29, u30, u31, u32, u33, u34, u35, u36, u37, u38, u39, u40, u41, u42, u43, u44, u45, u46, u47, u48, u49, u50, u51, u52, u53, u54, u55, u56, u57, u58, u59, u60, u61, u62, u63, u64, u65, u66, u67, u68, u69, u70, u71, u72, u73, u74, u75, u76, u77, u78, u79, u80, u81, u82, u83, u84, u85, u86, u87, rfl, ⟨hbox, hst, hk, hown, hbb, hchg⟩⟩
    have HB := hid hbox
    have hmu : Hid (no = 0 → patMu s b wr = s.size + 2 - k) := hid (fun h => by unfold patMu; rw [hbox.noOf, hbox.place, if_pos h])
    have HO := hid hown
    obtain ⟨r0, r1, r2, f0, f1, f2, hlb⟩ := SBox.at_ hbox
    clear hbox hown
    rcases hst with ⟨rfl, hrun, hn⟩ | ⟨hne, rfl⟩
    · cases hrun with
      | stop h =>
        have hkk : k = s.size := by omega
        subst hkk
        have he : decide ((s.size : Int) ≤ ((s.size : Nat) : Int)) = true := decide_eq_true (by omega)
        go_wp2_with fail
        refine (end_quiet b s s.size 0 _ HB.out (by omega)).mono ?_
        rintro e w' ⟨rfl, m, rfl⟩
        rw [he]
        go_wp2_with fail
        refine (fails_any b s s.size 0 s.size 133 _ (Blk.drewN HB.out _)).mono ?_
        rintro e w7 ⟨rfl, hB, hc⟩
        have HB7 := hid hB
        have HO7 := hid (show POwn w7 w.heap.size A n c xs from ⟨HO.out.1, own_chg HO.out.2 (((Chg.refl _ _).drewN _).trans hc) (fun j hj => by have := own_of HO.out.2 j hj; unfold One; omega)⟩)
        have hC7 := hid ((hchg.drewN _).trans hc)
        clear hB hc
        go_wp2
        go_step3
        refine ⟨rfl, ⟨s.size, 133, xs, A, n, c, _, _, _, _, _, _, _, _, _, _, _, _, _, _, _, _, _, _, _, _, _, _, _, _, _, _, _, _, _, _, _, _, _, _, _, _, _, _, _, _, _, _, _, _, _, _, _, _, _, _, _, _, _, _, _, _, _, _, _, _, _, _, _, _, _, _, _, _, _, _, _, _, _, _, _, _, _, _, _, _, _, _, _, _, _, rfl, ⟨HB7.out, .inr ⟨by decide, rfl⟩, by omega, HO7.out, hbb, hC7.out⟩⟩, ?_⟩
        rw [hmu.out (by simp)]; unfold patMu; rw [show noW b _ = _ from SBox.noOf HB7.out, if_neg (by decide)]; omega
      | close h hb h1 =>
        have hd2 : (((byteAt s k : Nat) : Int) == 34) = true := beq_iff_eq.2 (by omega)
        have hn0 : decide ((0 : Int) < (n : Int)) = true := decide_eq_true (by have := HO.out.1; omega)
        have hn1 : (0 : Int) < (n : Int) := by have := HO.out.1; omega
        replace hb := hid hb
        have he : decide ((s.size : Int) ≤ (k : Int)) = false := decide_eq_false (by omega)
        have hg := byteAt_eq h
        go_wp2_with fail
        refine (end_quiet b s k 0 _ HB.out (by omega)).mono ?_
        rintro e w' ⟨rfl, m, rfl⟩
        rw [he]
        go_wp2_with fail
        go_quiet (fail)
        go_wp2
        try simp only [jumps]
        go_ret
        exact ⟨A, n, c, rfl, (fun ys nx h => by injection h with e1 e2; subst e1; exact ⟨HO.out.1, own_chg HO.out.2 (((Chg.refl (One b) wr).drewN _).setOne _ _) (fun j hj => by have := own_of HO.out.2 j hj; unfold One; omega)⟩), SBox.putAt (Blk.drewN HB.out _) _, (hchg.drewN _).setOne _ _⟩
      | empty h hb h1 =>
        have hd2 : (((byteAt s k : Nat) : Int) == 34) = true := beq_iff_eq.2 (by omega)
        have hn0 : decide ((0 : Int) < (n : Int)) = false := decide_eq_false (by have := HO.out.1; omega)
        have hn1 : ¬ (0 : Int) < (n : Int) := by have := HO.out.1; omega
        replace hb := hid hb
        have he : decide ((s.size : Int) ≤ (k : Int)) = false := decide_eq_false (by omega)
        have hg := byteAt_eq h
        go_wp2_with fail
        refine (end_quiet b s k 0 _ HB.out (by omega)).mono ?_
        rintro e w' ⟨rfl, m, rfl⟩
        rw [he]
        go_wp2_with fail
        go_quiet (fail)
        go_wp2_with fail
        go_quiet (fail)
        go_wp2_with fail
        refine (fails_any b s k 0 k 135 _ (Blk.drewN HB.out _)).mono ?_
        rintro e w7 ⟨rfl, hB, hc⟩
        have HB7 := hid hB
        have HO7 := hid (show POwn w7 w.heap.size A n c xs from ⟨HO.out.1, own_chg HO.out.2 (((Chg.refl _ _).drewN _).trans hc) (fun j hj => by have := own_of HO.out.2 j hj; unfold One; omega)⟩)
        have hC7 := hid ((hchg.drewN _).trans hc)
        clear hB hc
        go_wp2
        go_step3
        refine ⟨rfl, ⟨k, 135, xs, A, n, c, _, _, _, _, _, _, _, _, _, _, _, _, _, _, _, _, _, _, _, _, _, _, _, _, _, _, _, _, _, _, _, _, _, _, _, _, _, _, _, _, _, _, _, _, _, _, _, _, _, _, _, _, _, _, _, _, _, _, _, _, _, _, _, _, _, _, _, _, _, _, _, _, _, _, _, _, _, _, _, _, _, _, _, _, _, rfl, ⟨HB7.out, .inr ⟨by decide, rfl⟩, by omega, HO7.out, hbb, hC7.out⟩⟩, ?_⟩
        rw [hmu.out (by simp)]; unfold patMu; rw [show noW b _ = _ from SBox.noOf HB7.out, if_neg (by decide)]; omega
      | long h hb h1 =>
        have hd2 : (((byteAt s k : Nat) : Int) == 34) = false := by rw [beq_eq_false_iff_ne]; omega
        have hn0 : ((n : Int) == 64) = true := beq_iff_eq.2 (by have := HO.out.1; omega)
        replace hb := hid hb
        have he : decide ((s.size : Int) ≤ (k : Int)) = false := decide_eq_false (by omega)
        have hg := byteAt_eq h
        go_wp2_with fail
        refine (end_quiet b s k 0 _ HB.out (by omega)).mono ?_
        rintro e w' ⟨rfl, m, rfl⟩
        rw [he]
        go_wp2_with fail
        go_quiet (fail)
        go_wp2_with fail
        go_quiet (fail)
        go_wp2_with fail
        refine (fails_any b s k 0 k 135 _ (Blk.drewN HB.out _)).mono ?_
        rintro e w7 ⟨rfl, hB, hc⟩
        have HB7 := hid hB
        have HO7 := hid (show POwn w7 w.heap.size A n c xs from ⟨HO.out.1, own_chg HO.out.2 (((Chg.refl _ _).drewN _).trans hc) (fun j hj => by have := own_of HO.out.2 j hj; unfold One; omega)⟩)
        have hC7 := hid ((hchg.drewN _).trans hc)
        clear hB hc
        go_wp2
        go_step3
        refine ⟨rfl, ⟨k, 135, xs, A, n, c, _, _, _, _, _, _, _, _, _, _, _, _, _, _, _, _, _, _, _, _, _, _, _, _, _, _, _, _, _, _, _, _, _, _, _, _, _, _, _, _, _, _, _, _, _, _, _, _, _, _, _, _, _, _, _, _, _, _, _, _, _, _, _, _, _, _, _, _, _, _, _, _, _, _, _, _, _, _, _, _, _, _, _, _, _, rfl, ⟨HB7.out, .inr ⟨by decide, rfl⟩, by omega, HO7.out, hbb, hC7.out⟩⟩, ?_⟩
        rw [hmu.out (by simp)]; unfold patMu; rw [show noW b _ = _ from SBox.noOf HB7.out, if_neg (by decide)]; omega
      | @bad _ _ p e0 h hb h1 kk =>
        have hpl := kk.placed h
        have hne := hpl.ok (fun v nx h => by cases h)
        simp only [Rd.no] at hne
        have hple := hpl.le
        simp only [Rd.at_] at hple
        clear hpl
        generalize hRR : (Rd.bad p e0 : Rd Cls) = RR at kk
        replace hRR := hid hRR
        cases kk with
        | full h6 => exact absurd hRR.out (by intro h; cases h)
        | @cls R0 h9 kk =>
          have hF := hid hRR.out.symm
          have h63 := hid (hasB_no (s := s) (k := k) (x := 63) (by omega))
          have h91 := hid (hasB_yes h h9)
          replace h9 := hid h9
          have hd2 : (((byteAt s k : Nat) : Int) == 34) = false := by rw [beq_eq_false_iff_ne]; omega
          have hn0 : ((n : Int) == 64) = false := by rw [beq_eq_false_iff_ne]; have := HO.out.1; omega
          have hn64 : n < 64 := by have := HO.out.1; omega
          replace hb := hid hb
          have he : decide ((s.size : Int) ≤ (k : Int)) = false := decide_eq_false (by omega)
          have hg := byteAt_eq h
          go_wp2_with fail
          refine (end_quiet b s k 0 _ HB.out (by omega)).mono ?_
          rintro e w' ⟨rfl, m, rfl⟩
          rw [he]
          go_wp2_with fail
          go_quiet (fail)
          go_wp2_with fail
          go_quiet (fail)
          go_wp2_with fail
          refine (has_any b s k 63 0 _ (Blk.drewN HB.out _) (by omega) (by omega) (by decide)).mono ?_
          rintro e w1 ⟨rfl, hB, hc⟩
          rw [h63.out]
          rw [h63.out] at hB
          have hC1 := hid ((hchg.drewN _).trans hc)
          have HO1 := hid (show POwn w1 w.heap.size A n c xs from ⟨HO.out.1, own_chg HO.out.2 (((Chg.refl _ _).drewN _).trans hc) (fun j hj => by have := own_of HO.out.2 j hj; unfold One; omega)⟩)
          have hs1 := hc.size
          replace hB : SBox w1 b s (k : Nat) 0 := hB
          have HB1 := hid hB
          clear hB hc
          go_wp2_with fail
          refine (has_any b s k 91 0 _ (HB1.out) (by omega) (by omega) (by decide)).mono ?_
          rintro e w2 ⟨rfl, hB, hc⟩
          rw [h91.out]
          rw [h91.out] at hB
          have hC2 := hid (hC1.out.trans hc)
          have HO2 := hid (show POwn w2 w.heap.size A n c xs from ⟨HO.out.1, own_chg HO1.out.2 (hc) (fun j hj => by have := own_of HO.out.2 j hj; unfold One; omega)⟩)
          have hs2 := hc.size
          replace hB : SBox w2 b s (k + 1 : Nat) 0 := hB
          have HB2 := hid hB
          clear hB hc
          go_wp2_with fail
          refine (class_any b s k R0 kk _ HB2.out hs h).mono ?_
          rintro e w3 ⟨x0, rfl, hx, hB, hc⟩
          have HF : finC (negS s k) k R0 = .bad p e0 := hF.out
          have hC3 := hid (hC2.out.trans hc)
          have HO3 := hid (own_chg HO2.out.2 hc (fun j hj => by have := own_of HO2.out.2 j hj; unfold One; omega))
          have hs3 := hc.size
          have HB3 := hid (show SBox w3 b s (p : Nat) e0 from by rw [HF] at hB; exact hB)
          clear hc hB hx
          go_wp2_with (at_builtin; (refine append_cells (w := w3) rfl _ _ 38 rfl w.heap.size 35 (.agg #[.int .u64 0, .int .u64 0, .int .u64 0, .int .u64 0]) 4 32 Try.underlying38 infoCl rfl (by decide) A c n _ rfl HO3.out (clsL x0) (by first | rfl | (rw [World.size_alloc]; rfl)) rfl (clsL_one x0) ?_ ?_ ?_ ?_))
          · omega
          · omega
          · have := hC3.out.size; omega
          intro A' c' w6 hown6 hc6 hA
          have oa := own_of HO3.out
          have HB6 := hid (HB3.out.chg hc6 (fun h => by have := oa _ h; omega))
          have hC6 := hid (hC3.out.then hc6 (fun i hi h => by have := oa _ h; omega))
          have hown7 := hid (show POwn w6 w.heap.size A' (n + 1) c' (xs ++ [x0]) from ⟨by rw [List.length_append, HO.out.1]; rfl, by rw [List.flatMap_append]; simpa using hown6⟩)
          clear hown6 hc6 hA oa
          go_wp2
          go_step3
          refine ⟨rfl, ⟨p, e0, xs ++ [x0], A', n + 1, c', _, _, _, _, _, _, _, _, _, _, _, _, _, _, _, _, _, _, _, _, _, _, _, _, _, _, _, _, _, _, _, _, _, _, _, _, _, _, _, _, _, _, _, _, _, _, _, _, _, _, _, _, _, _, _, _, _, _, _, _, _, _, _, _, _, _, _, _, _, _, _, _, _, _, _, _, _, _, _, _, _, _, _, _, _, rfl, ⟨HB6.out, .inr ⟨hne, rfl⟩, by omega, hown7.out, hbb, hC6.out⟩⟩, ?_⟩
          rw [hmu.out (by simp)]; unfold patMu; rw [show noW b _ = _ from SBox.noOf HB6.out, if_neg hne]; omega
        | byte h6 h9 =>
          have HF := hid (show ∃ v0, oneS ByteArray.empty 130 s k = .bad p e0 from by
            have := hRR.out
            cases h0 : oneS ByteArray.empty 130 s k with
            | ok v n => rw [h0] at this; cases this
            | bad q f => rw [h0] at this; injection this with e1 e2; exact ⟨0, by rw [← e1, ← e2]⟩)
          obtain ⟨_, hHF⟩ := HF.out
          clear HF
          have HF := hid hHF
          clear hHF
          have h63 := hid (hasB_no (s := s) (k := k) (x := 63) h6)
          have h91 := hid (hasB_no (s := s) (k := k) (x := 91) h9)
          replace h6 := hid h6
          replace h9 := hid h9
          have hd2 : (((byteAt s k : Nat) : Int) == 34) = false := by rw [beq_eq_false_iff_ne]; omega
          have hn0 : ((n : Int) == 64) = false := by rw [beq_eq_false_iff_ne]; have := HO.out.1; omega
          have hn64 : n < 64 := by have := HO.out.1; omega
          replace hb := hid hb
          have he : decide ((s.size : Int) ≤ (k : Int)) = false := decide_eq_false (by omega)
          have hg := byteAt_eq h
          go_wp2_with fail
          refine (end_quiet b s k 0 _ HB.out (by omega)).mono ?_
          rintro e w' ⟨rfl, m, rfl⟩
          rw [he]
          go_wp2_with fail
          go_quiet (fail)
          go_wp2_with fail
          go_quiet (fail)
          go_wp2_with fail
          refine (has_any b s k 63 0 _ (Blk.drewN HB.out _) (by omega) (by omega) (by decide)).mono ?_
          rintro e w1 ⟨rfl, hB, hc⟩
          rw [h63.out]
          rw [h63.out] at hB
          have hC1 := hid ((hchg.drewN _).trans hc)
          have HO1 := hid (show POwn w1 w.heap.size A n c xs from ⟨HO.out.1, own_chg HO.out.2 (((Chg.refl _ _).drewN _).trans hc) (fun j hj => by have := own_of HO.out.2 j hj; unfold One; omega)⟩)
          have hs1 := hc.size
          replace hB : SBox w1 b s (k : Nat) 0 := hB
          have HB1 := hid hB
          clear hB hc
          go_wp2_with fail
          refine (has_any b s k 91 0 _ (HB1.out) (by omega) (by omega) (by decide)).mono ?_
          rintro e w2 ⟨rfl, hB, hc⟩
          rw [h91.out]
          rw [h91.out] at hB
          have hC2 := hid (hC1.out.trans hc)
          have HO2 := hid (show POwn w2 w.heap.size A n c xs from ⟨HO.out.1, own_chg HO1.out.2 (hc) (fun j hj => by have := own_of HO.out.2 j hj; unfold One; omega)⟩)
          have hs2 := hc.size
          replace hB : SBox w2 b s (k : Nat) 0 := hB
          have HB2 := hid hB
          clear hB hc
          go_wp2_with fail
          refine (one_any ByteArray.empty 130 b s k _ HB2.out hs h).mono ?_
          rintro e w3 ⟨rfl, hB, hc⟩
          rw [HF.out] at hB
          rw [HF.out]
          generalize hval : Rd.val (Rd.bad p e0 : Rd Nat) 0 = v0
          have hv0 : v0 < 256 := by rw [← hval]; exact (by decide : (0 : Nat) < 256)
          replace hval := hid hval
          have hC3 := hid (hC2.out.trans hc)
          have HO3 := hid (own_chg HO2.out.2 hc (fun j hj => by have := own_of HO2.out.2 j hj; unfold One; omega))
          have hs3 := hc.size
          have HB3 := hid (show SBox w3 b s (p : Nat) e0 from hB)
          clear hc hB
          have hcl : ∀ i, i < 1 → (w3.alloc (.cells #[.int .u8 v0] 5)).cell? ⟨w3.heap.size, 0 + i, none⟩ = some (.int .u8 ([(v0 : Int)].getD i 0)) := by
            intro i hi
            obtain rfl : i = 0 := by omega
            exact (Blk.new w3 _ _).cell 0 rfl
          have hcv := run_convert_bytes_arg (P := Try.prog) _ _ _ Try.underlying81 Try.underlying5 _ 0 1 1 [(v0 : Int)] rfl hcl _ Try.underlying9
          clear hcl
          go_wp2_with fail
          refine (classOfL (strOfNums [(v0 : Int)]) _ (by rw [strOfNums_size]; show 1 ≤ 9223372036854775807; omega)).mono ?_
          rintro e w4 ⟨rfl, hc⟩
          rw [ofC_str v0 hv0]
          have HO4 := hid (own_chg HO3.out (((Chg.refl Nothing w3).alloc _).trans hc) (fun _ _ h => h))
          have HB4 := hid ((Blk.alloc HB3.out _).chg hc id)
          have hC4 := hid ((hC3.out.alloc _).then hc (fun _ _ h => h.elim))
          have hs4 := hc.size
          rw [World.size_alloc] at hs4
          clear hc hcv
          go_wp2_with (at_builtin; (refine append_cells (w := w4) rfl _ _ 38 rfl w.heap.size 35 (.agg #[.int .u64 0, .int .u64 0, .int .u64 0, .int .u64 0]) 4 32 Try.underlying38 infoCl rfl (by decide) A c n _ rfl HO4.out (clsL (BitVec.twoPow 256 v0)) (by first | rfl | (rw [World.size_alloc]; rfl)) rfl (clsL_one (BitVec.twoPow 256 v0)) ?_ ?_ ?_ ?_))
          · omega
          · omega
          · have := hC4.out.size; omega
          intro A' c' w6 hown6 hc6 hA
          have oa := own_of HO4.out
          have HB6 := hid (HB4.out.chg hc6 (fun h => by have := oa _ h; omega))
          have hC6 := hid (hC4.out.then hc6 (fun i hi h => by have := oa _ h; omega))
          have hown7 := hid (show POwn w6 w.heap.size A' (n + 1) c' (xs ++ [(BitVec.twoPow 256 v0)]) from ⟨by rw [List.length_append, HO.out.1]; rfl, by rw [List.flatMap_append]; simpa using hown6⟩)
          clear hown6 hc6 hA oa
          go_wp2
          go_step3
          refine ⟨rfl, ⟨p, e0, xs ++ [(BitVec.twoPow 256 v0)], A', n + 1, c', _, _, _, _, _, _, _, _, _, _, _, _, _, _, _, _, _, _, _, _, _, _, _, _, _, _, _, _, _, _, _, _, _, _, _, _, _, _, _, _, _, _, _, _, _, _, _, _, _, _, _, _, _, _, _, _, _, _, _, _, _, _, _, _, _, _, _, _, _, _, _, _, _, _, _, _, _, _, _, _, _, _, _, _, _, rfl, ⟨HB6.out, .inr ⟨hne, rfl⟩, by omega, hown7.out, hbb, hC6.out⟩⟩, ?_⟩
          rw [hmu.out (by simp)]; unfold patMu; rw [show noW b _ = _ from SBox.noOf HB6.out, if_neg hne]; omega
      | @step _ _ x d _ h hb h1 kk rr =>
        have hpl := kk.placed h
        have hb2 := hpl.lt rfl
        have hb3 := hpl.le
        simp only [Rd.at_] at hb2 hb3
        clear hpl
        generalize hRR : (Rd.ok x d : Rd Cls) = RR at kk
        replace hRR := hid hRR
        cases kk with
        | full h6 =>
          obtain ⟨rfl, rfl⟩ : x = fullC ∧ d = k + 1 := by have := hRR.out; injection this with e1 e2; exact ⟨e1, e2⟩
          have h63 := hid (hasB_yes h h6)
          replace h6 := hid h6
          have hd2 : (((byteAt s k : Nat) : Int) == 34) = false := by rw [beq_eq_false_iff_ne]; omega
          have hn0 : ((n : Int) == 64) = false := by rw [beq_eq_false_iff_ne]; have := HO.out.1; omega
          have hn64 : n < 64 := by have := HO.out.1; omega
          replace hb := hid hb
          have he : decide ((s.size : Int) ≤ (k : Int)) = false := decide_eq_false (by omega)
          have hg := byteAt_eq h
          go_wp2_with fail
          refine (end_quiet b s k 0 _ HB.out (by omega)).mono ?_
          rintro e w' ⟨rfl, m, rfl⟩
          rw [he]
          go_wp2_with fail
          go_quiet (fail)
          go_wp2_with fail
          go_quiet (fail)
          go_wp2_with fail
          refine (has_any b s k 63 0 _ (Blk.drewN HB.out _) (by omega) (by omega) (by decide)).mono ?_
          rintro e w1 ⟨rfl, hB, hc⟩
          rw [h63.out]
          rw [h63.out] at hB
          have hC1 := hid ((hchg.drewN _).trans hc)
          have HO1 := hid (show POwn w1 w.heap.size A n c xs from ⟨HO.out.1, own_chg HO.out.2 (((Chg.refl _ _).drewN _).trans hc) (fun j hj => by have := own_of HO.out.2 j hj; unfold One; omega)⟩)
          have hs1 := hc.size
          replace hB : SBox w1 b s (k + 1 : Nat) 0 := hB
          have HB1 := hid hB
          clear hB hc
          go_wp2_with fail
          refine (classFullL _).mono ?_
          rintro e w2 ⟨rfl, hc⟩
          have HO2 := hid (own_chg HO1.out.2 hc (fun _ _ h => h))
          have HB2 := hid (HB1.out.chg hc id)
          have hC2 := hid (hC1.out.then hc (fun _ _ h => h.elim))
          have hs2 := hc.size
          clear hc
          go_wp2_with (at_builtin; (refine append_cells (w := w2) rfl _ _ 38 rfl w.heap.size 35 (.agg #[.int .u64 0, .int .u64 0, .int .u64 0, .int .u64 0]) 4 32 Try.underlying38 infoCl rfl (by decide) A c n _ rfl HO2.out (clsL fullC) (by first | rfl | (rw [World.size_alloc]; rfl)) rfl (clsL_one fullC) ?_ ?_ ?_ ?_))
          · omega
          · omega
          · have := hC2.out.size; omega
          intro A' c' w6 hown6 hc6 hA
          have oa := own_of HO2.out
          have HB6 := hid (HB2.out.chg hc6 (fun h => by have := oa _ h; omega))
          have hC6 := hid (hC2.out.then hc6 (fun i hi h => by have := oa _ h; omega))
          have hown7 := hid (show POwn w6 w.heap.size A' (n + 1) c' (xs ++ [fullC]) from ⟨by rw [List.length_append, HO.out.1]; rfl, by rw [List.flatMap_append]; simpa using hown6⟩)
          clear hown6 hc6 hA oa
          go_wp2
          go_step3
          refine ⟨rfl, ⟨k + 1, 0, xs ++ [fullC], A', n + 1, c', _, _, _, _, _, _, _, _, _, _, _, _, _, _, _, _, _, _, _, _, _, _, _, _, _, _, _, _, _, _, _, _, _, _, _, _, _, _, _, _, _, _, _, _, _, _, _, _, _, _, _, _, _, _, _, _, _, _, _, _, _, _, _, _, _, _, _, _, _, _, _, _, _, _, _, _, _, _, _, _, _, _, _, _, _, rfl, ⟨HB6.out, .inl ⟨rfl, rr, by omega⟩, by omega, hown7.out, hbb, hC6.out⟩⟩, ?_⟩
          rw [hmu.out (by simp)]; unfold patMu; rw [show noW b _ = _ from SBox.noOf HB6.out, show placeW b _ = _ from SBox.place HB6.out, if_pos rfl]; omega
        | @cls R0 h9 kk =>
          have hF := hid hRR.out.symm
          have h63 := hid (hasB_no (s := s) (k := k) (x := 63) (by omega))
          have h91 := hid (hasB_yes h h9)
          replace h9 := hid h9
          have hd2 : (((byteAt s k : Nat) : Int) == 34) = false := by rw [beq_eq_false_iff_ne]; omega
          have hn0 : ((n : Int) == 64) = false := by rw [beq_eq_false_iff_ne]; have := HO.out.1; omega
          have hn64 : n < 64 := by have := HO.out.1; omega
          replace hb := hid hb
          have he : decide ((s.size : Int) ≤ (k : Int)) = false := decide_eq_false (by omega)
          have hg := byteAt_eq h
          go_wp2_with fail
          refine (end_quiet b s k 0 _ HB.out (by omega)).mono ?_
          rintro e w' ⟨rfl, m, rfl⟩
          rw [he]
          go_wp2_with fail
          go_quiet (fail)
          go_wp2_with fail
          go_quiet (fail)
          go_wp2_with fail
          refine (has_any b s k 63 0 _ (Blk.drewN HB.out _) (by omega) (by omega) (by decide)).mono ?_
          rintro e w1 ⟨rfl, hB, hc⟩
          rw [h63.out]
          rw [h63.out] at hB
          have hC1 := hid ((hchg.drewN _).trans hc)
          have HO1 := hid (show POwn w1 w.heap.size A n c xs from ⟨HO.out.1, own_chg HO.out.2 (((Chg.refl _ _).drewN _).trans hc) (fun j hj => by have := own_of HO.out.2 j hj; unfold One; omega)⟩)
          have hs1 := hc.size
          replace hB : SBox w1 b s (k : Nat) 0 := hB
          have HB1 := hid hB
          clear hB hc
          go_wp2_with fail
          refine (has_any b s k 91 0 _ (HB1.out) (by omega) (by omega) (by decide)).mono ?_
          rintro e w2 ⟨rfl, hB, hc⟩
          rw [h91.out]
          rw [h91.out] at hB
          have hC2 := hid (hC1.out.trans hc)
          have HO2 := hid (show POwn w2 w.heap.size A n c xs from ⟨HO.out.1, own_chg HO1.out.2 (hc) (fun j hj => by have := own_of HO.out.2 j hj; unfold One; omega)⟩)
          have hs2 := hc.size
          replace hB : SBox w2 b s (k + 1 : Nat) 0 := hB
          have HB2 := hid hB
          clear hB hc
          go_wp2_with fail
          refine (class_any b s k R0 kk _ HB2.out hs h).mono ?_
          rintro e w3 ⟨x0, rfl, hx, hB, hc⟩
          have HF : finC (negS s k) k R0 = .ok x d := hF.out
          obtain rfl : x0 = x := hx x d HF
          have hC3 := hid (hC2.out.trans hc)
          have HO3 := hid (own_chg HO2.out.2 hc (fun j hj => by have := own_of HO2.out.2 j hj; unfold One; omega))
          have hs3 := hc.size
          have HB3 := hid (show SBox w3 b s (d : Nat) 0 from by rw [HF] at hB; exact hB)
          clear hc hB hx
          go_wp2_with (at_builtin; (refine append_cells (w := w3) rfl _ _ 38 rfl w.heap.size 35 (.agg #[.int .u64 0, .int .u64 0, .int .u64 0, .int .u64 0]) 4 32 Try.underlying38 infoCl rfl (by decide) A c n _ rfl HO3.out (clsL x0) (by first | rfl | (rw [World.size_alloc]; rfl)) rfl (clsL_one x0) ?_ ?_ ?_ ?_))
          · omega
          · omega
          · have := hC3.out.size; omega
          intro A' c' w6 hown6 hc6 hA
          have oa := own_of HO3.out
          have HB6 := hid (HB3.out.chg hc6 (fun h => by have := oa _ h; omega))
          have hC6 := hid (hC3.out.then hc6 (fun i hi h => by have := oa _ h; omega))
          have hown7 := hid (show POwn w6 w.heap.size A' (n + 1) c' (xs ++ [x0]) from ⟨by rw [List.length_append, HO.out.1]; rfl, by rw [List.flatMap_append]; simpa using hown6⟩)
          clear hown6 hc6 hA oa
          go_wp2
          go_step3
          refine ⟨rfl, ⟨d, 0, xs ++ [x0], A', n + 1, c', _, _, _, _, _, _, _, _, _, _, _, _, _, _, _, _, _, _, _, _, _, _, _, _, _, _, _, _, _, _, _, _, _, _, _, _, _, _, _, _, _, _, _, _, _, _, _, _, _, _, _, _, _, _, _, _, _, _, _, _, _, _, _, _, _, _, _, _, _, _, _, _, _, _, _, _, _, _, _, _, _, _, _, _, _, rfl, ⟨HB6.out, .inl ⟨rfl, rr, by omega⟩, by omega, hown7.out, hbb, hC6.out⟩⟩, ?_⟩
          rw [hmu.out (by simp)]; unfold patMu; rw [show noW b _ = _ from SBox.noOf HB6.out, show placeW b _ = _ from SBox.place HB6.out, if_pos rfl]; omega
        | byte h6 h9 =>
          have HF := hid (show ∃ v0, oneS ByteArray.empty 130 s k = .ok v0 d ∧ x = BitVec.twoPow 256 v0 from by
            have := hRR.out
            cases h0 : oneS ByteArray.empty 130 s k with
            | ok v n => rw [h0] at this; injection this with e1 e2; exact ⟨v, by rw [e2], e1⟩
            | bad q f => rw [h0] at this; cases this)
          obtain ⟨v0, hHF, rfl⟩ := HF.out
          clear HF
          have HF := hHF
          clear hHF
          have hv0 := (oneS_ok HF h).2.2
          replace HF := hid HF
          have h63 := hid (hasB_no (s := s) (k := k) (x := 63) h6)
          have h91 := hid (hasB_no (s := s) (k := k) (x := 91) h9)
          replace h6 := hid h6
          replace h9 := hid h9
          have hd2 : (((byteAt s k : Nat) : Int) == 34) = false := by rw [beq_eq_false_iff_ne]; omega
          have hn0 : ((n : Int) == 64) = false := by rw [beq_eq_false_iff_ne]; have := HO.out.1; omega
          have hn64 : n < 64 := by have := HO.out.1; omega
          replace hb := hid hb
          have he : decide ((s.size : Int) ≤ (k : Int)) = false := decide_eq_false (by omega)
          have hg := byteAt_eq h
          go_wp2_with fail
          refine (end_quiet b s k 0 _ HB.out (by omega)).mono ?_
          rintro e w' ⟨rfl, m, rfl⟩
          rw [he]
          go_wp2_with fail
          go_quiet (fail)
          go_wp2_with fail
          go_quiet (fail)
          go_wp2_with fail
          refine (has_any b s k 63 0 _ (Blk.drewN HB.out _) (by omega) (by omega) (by decide)).mono ?_
          rintro e w1 ⟨rfl, hB, hc⟩
          rw [h63.out]
          rw [h63.out] at hB
          have hC1 := hid ((hchg.drewN _).trans hc)
          have HO1 := hid (show POwn w1 w.heap.size A n c xs from ⟨HO.out.1, own_chg HO.out.2 (((Chg.refl _ _).drewN _).trans hc) (fun j hj => by have := own_of HO.out.2 j hj; unfold One; omega)⟩)
          have hs1 := hc.size
          replace hB : SBox w1 b s (k : Nat) 0 := hB
          have HB1 := hid hB
          clear hB hc
          go_wp2_with fail
          refine (has_any b s k 91 0 _ (HB1.out) (by omega) (by omega) (by decide)).mono ?_
          rintro e w2 ⟨rfl, hB, hc⟩
          rw [h91.out]
          rw [h91.out] at hB
          have hC2 := hid (hC1.out.trans hc)
          have HO2 := hid (show POwn w2 w.heap.size A n c xs from ⟨HO.out.1, own_chg HO1.out.2 (hc) (fun j hj => by have := own_of HO.out.2 j hj; unfold One; omega)⟩)
          have hs2 := hc.size
          replace hB : SBox w2 b s (k : Nat) 0 := hB
          have HB2 := hid hB
          clear hB hc
          go_wp2_with fail
          refine (one_any ByteArray.empty 130 b s k _ HB2.out hs h).mono ?_
          rintro e w3 ⟨rfl, hB, hc⟩
          rw [HF.out] at hB
          rw [HF.out]
          simp only [Rd.val]
          have hC3 := hid (hC2.out.trans hc)
          have HO3 := hid (own_chg HO2.out.2 hc (fun j hj => by have := own_of HO2.out.2 j hj; unfold One; omega))
          have hs3 := hc.size
          have HB3 := hid (show SBox w3 b s (d : Nat) 0 from hB)
          clear hc hB
          have hcl : ∀ i, i < 1 → (w3.alloc (.cells #[.int .u8 v0] 5)).cell? ⟨w3.heap.size, 0 + i, none⟩ = some (.int .u8 ([(v0 : Int)].getD i 0)) := by
            intro i hi
            obtain rfl : i = 0 := by omega
            exact (Blk.new w3 _ _).cell 0 rfl
          have hcv := run_convert_bytes_arg (P := Try.prog) _ _ _ Try.underlying81 Try.underlying5 _ 0 1 1 [(v0 : Int)] rfl hcl _ Try.underlying9
          clear hcl
          go_wp2_with fail
          refine (classOfL (strOfNums [(v0 : Int)]) _ (by rw [strOfNums_size]; show 1 ≤ 9223372036854775807; omega)).mono ?_
          rintro e w4 ⟨rfl, hc⟩
          rw [ofC_str v0 hv0]
          have HO4 := hid (own_chg HO3.out (((Chg.refl Nothing w3).alloc _).trans hc) (fun _ _ h => h))
          have HB4 := hid ((Blk.alloc HB3.out _).chg hc id)
          have hC4 := hid ((hC3.out.alloc _).then hc (fun _ _ h => h.elim))
          have hs4 := hc.size
          rw [World.size_alloc] at hs4
          clear hc hcv
          go_wp2_with (at_builtin; (refine append_cells (w := w4) rfl _ _ 38 rfl w.heap.size 35 (.agg #[.int .u64 0, .int .u64 0, .int .u64 0, .int .u64 0]) 4 32 Try.underlying38 infoCl rfl (by decide) A c n _ rfl HO4.out (clsL (BitVec.twoPow 256 v0)) (by first | rfl | (rw [World.size_alloc]; rfl)) rfl (clsL_one (BitVec.twoPow 256 v0)) ?_ ?_ ?_ ?_))
          · omega
          · omega
          · have := hC4.out.size; omega
          intro A' c' w6 hown6 hc6 hA
          have oa := own_of HO4.out
          have HB6 := hid (HB4.out.chg hc6 (fun h => by have := oa _ h; omega))
          have hC6 := hid (hC4.out.then hc6 (fun i hi h => by have := oa _ h; omega))
          have hown7 := hid (show POwn w6 w.heap.size A' (n + 1) c' (xs ++ [(BitVec.twoPow 256 v0)]) from ⟨by rw [List.length_append, HO.out.1]; rfl, by rw [List.flatMap_append]; simpa using hown6⟩)
          clear hown6 hc6 hA oa
          go_wp2
          go_step3
          refine ⟨rfl, ⟨d, 0, xs ++ [(BitVec.twoPow 256 v0)], A', n + 1, c', _, _, _, _, _, _, _, _, _, _, _, _, _, _, _, _, _, _, _, _, _, _, _, _, _, _, _, _, _, _, _, _, _, _, _, _, _, _, _, _, _, _, _, _, _, _, _, _, _, _, _, _, _, _, _, _, _, _, _, _, _, _, _, _, _, _, _, _, _, _, _, _, _, _, _, _, _, _, _, _, _, _, _, _, _, rfl, ⟨HB6.out, .inl ⟨rfl, rr, by omega⟩, by omega, hown7.out, hbb, hC6.out⟩⟩, ?_⟩
          rw [hmu.out (by simp)]; unfold patMu; rw [show noW b _ = _ from SBox.noOf HB6.out, show placeW b _ = _ from SBox.place HB6.out, if_pos rfl]; omega
    · -- something is amiss
      have hne1 : (no == 0) = false := beq_eq_false_iff_ne.2 hne
      have hne2 : (no != 0) = true := by rw [bne_iff_ne]; exact hne
      go_wp2
      try simp only [jumps]
      go_ret
      exact ⟨none, 0, 0, rfl, (fun ys nx h => by cases h), HB.out, hchg⟩
  · -- ahead of the label
    intro run
    have hrun' := hid run
    clear run
    go_wp2
    go_step3
    refine (‹∀ (a : Act) (w : World), Code.wp _ _ _ a w → _›) _ _ (hrun'.out _ _ ⟨a, 0, [], none, 0, 0, _, _, _, _, _, _, _, _, _, _, _, _, _, _, _, _, _, _, _, _, _, _, _, _, _, _, _, _, _, _, _, _, _, _, _, _, _, _, _, _, _, _, _, _, _, _, _, _, _, _, _, _, _, _, _, _, _, _, _, _, _, _, _, _, _, _, _, _, _, _, _, _, _, _, _, _, _, _, _, _, _, _, _, _, _, rfl, ⟨HH.out, .inl ⟨rfl, hR.out, by omega⟩, ha, ⟨rfl, World.ownsRow_nil _ _ _ _⟩, hlt, Chg.refl _ _⟩⟩)
end Go.Proofs.Ytpndjehiacmngaa
