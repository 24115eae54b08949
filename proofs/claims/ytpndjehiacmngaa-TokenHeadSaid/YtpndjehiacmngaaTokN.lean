/- Layer 13: number, the program's and the document's. -/
import Derived.Test.YtpndjehiacmngaaTokQ
import Derived.Test.YtpndjehiacmngaaLibB
import Derived.Deep.DrawnRows
namespace Go.Proofs.Ytpndjehiacmngaa
open Go.RowKit
set_option linter.unusedVariables false
attribute [local go_sem ↓] Go.wp_at_zero Go.wp_at_succ
/-- Where the scanner stands. -/
def placeW (b : Nat) (w : World) : Nat := match w.cell? ⟨b, 1, none⟩ with
  | some (.int _ q) => q.toNat
  | _ => 0
theorem SBox.place {w : World} {b : Nat} {s : ByteArray} {a : Nat} {no : Int} (h : SBox w b s a no) : placeW b w = a := by
  unfold placeW; rw [h.at_.r1]; simp
theorem SBox.of {w : World} {b : Nat} {s : ByteArray} {a a' no no' : Int} (h : SBox w b s a no) (ha : a = a') (hn : no = no') : SBox w b s a' no' := by subst ha hn; exact h
theorem SBox.place_put {w : World} {b : Nat} {s : ByteArray} {a : Nat} {no : Int} (h : SBox w b s a no) {n : Nat} : placeW b ((w.drewN n).setCell ⟨b, 1, none⟩ (.int .i64 ((a : Int) + 1))) = a + 1 :=
  SBox.place (SBox.of (SBox.putAt (Blk.drewN h n) ((a : Int) + 1)) (by omega) rfl)
def ScN (F : Rd Nat) (s : ByteArray) (b : Nat) (w : World) (e : Ending) (w' : World) : Prop :=
  ∃ v : Int, e = .returned (.int .i64 v) ∧ (∀ y nx, F = .ok y nx → v = y) ∧ SBox w' b s F.at_ F.no ∧ Chg (One b) w w'
def capD (s : ByteArray) (a j : Nat) : Nat := min (valD s a j) 1000001
theorem capD_le (s : ByteArray) (a j : Nat) : capD s a j ≤ 1000001 := by unfold capD; omega
theorem capD_succ (s : ByteArray) (a j : Nat) : capD s a (j + 1) = min (10 * capD s a j + (byteAt s (a + j) - 48)) 1000001 := by
  unfold capD; rw [valD]; omega
theorem capD_few (s : ByteArray) (a j : Nat) (h : valD s a j ≤ 1000000) : capD s a j = valD s a j := by unfold capD; omega
theorem capD_many (s : ByteArray) (a j : Nat) (h : 1000000 < valD s a j) : capD s a j = 1000001 := by unfold capD; omega
def NmInv (s : ByteArray) (b a m : Nat) (w : World) (nv : Value) (wr : World) : Prop :=
  ∃ j : Nat, j ≤ m ∧ a + j ≤ s.size ∧ nv = .int .i64 (capD s a j) ∧ SBox wr b s (a + j : Nat) 0 ∧ b < w.heap.size ∧ Chg (One b) w wr
theorem min_int (x y : Nat) : (min (x : Int) (y : Int)) = ((min x y : Nat) : Int) := by omega
set_option maxHeartbeats 4000000 in
set_option maxRecDepth 100000 in
theorem number_any (b : Nat) (s : ByteArray) (a m : Nat) (w : World) (H : SBox w b s a 0) (hs : s.size ≤ 9223372036854775000) (ha : a ≤ s.size) (hd : DigRun s a m) :
    Calls Try.prog 39 #[.pointer (some ⟨b, 0, none⟩)] w (ScN (numS s a m) s b w) := by
  obtain ⟨r0, r1, r2, f0, f1, f2, hlt⟩ := H.at_
  have HH := hid H
  have hD := hid hd
  clear H hd
  go_enter Try.func39, Try.ntmps39
  go_wp2_with fail
  go_loopw [4] (fun nv wr => NmInv s b a m w nv wr) (fun _ wr => s.size - placeW b wr)
  case atStart => exact ⟨0, Nat.zero_le _, by omega, rfl, HH.out, hlt, Chg.refl _ _⟩
  case round =>
    obtain ⟨j, hj, hk, rfl, hbox, hbb, hchg⟩ := hrel
    clear r0 r1 r2 f0 f1 f2 hlt HH
    have HB := hid hbox
    have hpl := hid hbox.place
    obtain ⟨r0, r1, r2, f0, f1, f2, hlb⟩ := SBox.at_ hbox
    clear hbox
    obtain ⟨k, hkk⟩ : ∃ k, k = a + j := ⟨_, rfl⟩
    rw [← hkk] at hk HB hpl r1
    have hka := hid hkk
    have hkl : a ≤ k := by omega
    have hE := hid (fun n => end_quiet b s k 0 (wr.drewN n) (Blk.drewN HB.out n) (by omega))
    have hcl := capD_le s a j
    obtain ⟨q, hq⟩ : ∃ q, q = capD s a j := ⟨_, rfl⟩
    rw [← hq] at hcl ⊢
    replace hq := hid hq
    rcases Nat.lt_or_ge j m with hjm | hjm
    · have hdig := hD.out.yes j hjm
      rw [← hka.out] at hdig
      obtain ⟨hks, hd48, hd57⟩ := hdig
      clear hkk
      have hend : decide ((s.size : Int) ≤ (k : Int)) = false := decide_eq_false (by omega)
      rw [hend] at hE
      have hg := byteAt_eq hks
      have hc1 : decide ((48 : Int) ≤ ((byteAt s k : Nat) : Int)) = true := decide_eq_true (by omega)
      have hc2 : decide (((byteAt s k : Nat) : Int) ≤ 57) = true := decide_eq_true (by omega)
      go_wp2_with fail
      go_quiet ((go_at_call 20; exact Calls.quiet_of (hE.out _)))
      go_wp2_with fail
      have k1 := IntWalk.i64_in (10 * (q : Int)) (by omega)
      have k2 := IntWalk.u8_in (((byteAt s k : Nat) : Int) - 48) (by omega)
      have k3 := IntWalk.i64_in (10 * (q : Int) + (((byteAt s k : Nat) : Int) - 48)) (by omega)
      go_quiet (fail)
      go_wp2
      go_roundw
      case rel =>
        refine ⟨j + 1, hjm, by have := hka.out; omega, ?_, SBox.of (SBox.putAt (Blk.drewN HB.out _) _) (by have := hka.out; omega) rfl, hbb, (hchg.drewN _).setOne _ _⟩
        have e := capD_succ s a j
        rw [← hka.out, ← hq.out] at e
        rw [e]
        exact congrArg (Value.int .i64) (by omega)
      case measure =>
        rw [SBox.place_put HB.out, hpl.out]; omega
    · have hjm' : j = m := by omega
      subst hjm'
      have hnd := hD.out.no
      rw [← hka.out] at hnd
      clear hkk
      have hout : s.size ≤ k ∨ (k < s.size ∧ byteAt s k < 48) ∨ (k < s.size ∧ 57 < byteAt s k ∧ 48 ≤ byteAt s k) := by
        unfold isDig at hnd; omega
      clear hnd hjm hj
      have hfin : (j = 0) ∨ (0 < j ∧ byteAt s a = 48 ∧ 1 < j) ∨ (0 < j ∧ byteAt s a = 48 ∧ j = 1) ∨ (0 < j ∧ byteAt s a ≠ 48 ∧ 1000000 < valD s a j) ∨ (0 < j ∧ byteAt s a ≠ 48 ∧ valD s a j ≤ 1000000) := by omega
      have hone : j = 1 → byteAt s a = 48 → valD s a j = 0 := by intro e1 e2; subst e1; simp [valD, e2]
      have hnu := hid (show numS s a j = if j = 0 ∨ (byteAt s a = 48 ∧ 1 < j) ∨ 1000000 < valD s a j then .bad a 134 else .ok (valD s a j) (a + j) from rfl)
      have hqv : Hid (valD s a j ≤ 1000000 → q = valD s a j) := hid fun h => by rw [hq.out]; exact capD_few s a j h
      have hqm : Hid (1000000 < valD s a j → q = 1000001) := hid fun h => by rw [hq.out]; exact capD_many s a j h
      have hjs : 0 < j → a < s.size := fun h => by have := hD.out.yes 0 h; unfold isDig at this; omega
      rcases hout with h1 | ⟨h1, h2⟩ | ⟨h1, h2, h3⟩
      · rcases hfin with e0 | ⟨e0, e1, e2⟩ | ⟨e0, e1, e2⟩ | ⟨e0, e1, e2⟩ | ⟨e0, e1, e2⟩
        · have e1 : k = a := by have := hka.out; omega
          have hF := hid (show numS s a j = .bad a 134 from by rw [hnu.out, if_pos (Or.inl e0)])
          have ht : (((k : Nat) : Int) == (a : Int)) = true := beq_iff_eq.2 (by omega)
          replace e0 := hid e0
          replace e1 := hid e1
          clear hone
          clear hjs
          have hend : decide ((s.size : Int) ≤ (k : Int)) = true := decide_eq_true (by omega)
          rw [hend] at hE
          go_wp2_with fail
          go_quiet ((go_at_call 20; exact Calls.quiet_of (hE.out _)))
          go_wp2_with fail
          refine (fails_any b s k 0 a 134 _ (Blk.drewN HB.out _)).mono ?_
          rintro e w' ⟨rfl, hB, hc⟩
          go_wp2
          go_ret
          exact ⟨_, rfl, (by rw [hF.out]; intro y nx h; cases h), (by rw [hF.out]; exact hB), (hchg.drewN _).trans hc⟩
        · have hF := hid (show numS s a j = .bad a 134 from by rw [hnu.out, if_pos (Or.inr (Or.inl ⟨e1, e2⟩))])
          have ht : (((k : Nat) : Int) == (a : Int)) = false := by rw [beq_eq_false_iff_ne]; have := hka.out; omega
          have has := hjs e0
          have hga := byteAt_eq has
          have ht2 : (((byteAt s a : Nat) : Int) == 48) = true := beq_iff_eq.2 (by omega)
          have ht3 : ((a : Int) + 1 < (k : Int)) := by have := hka.out; omega
          replace e1 := hid e1
          clear hone
          clear hjs
          have hend : decide ((s.size : Int) ≤ (k : Int)) = true := decide_eq_true (by omega)
          rw [hend] at hE
          go_wp2_with fail
          go_quiet ((go_at_call 20; exact Calls.quiet_of (hE.out _)))
          go_wp2_with fail
          refine (fails_any b s k 0 a 134 _ (Blk.drewN HB.out _)).mono ?_
          rintro e w' ⟨rfl, hB, hc⟩
          go_wp2
          go_ret
          exact ⟨_, rfl, (by rw [hF.out]; intro y nx h; cases h), (by rw [hF.out]; exact hB), (hchg.drewN _).trans hc⟩
        · have hz := hone e2 e1
          have hF := hid (show numS s a j = .ok (valD s a j) (a + j) from by rw [hnu.out, if_neg (by omega)])
          have ht : (((k : Nat) : Int) == (a : Int)) = false := by rw [beq_eq_false_iff_ne]; have := hka.out; omega
          have has := hjs e0
          have hga := byteAt_eq has
          have ht2 : (((byteAt s a : Nat) : Int) == 48) = true := beq_iff_eq.2 (by omega)
          have ht3 : ¬ ((a : Int) + 1 < (k : Int)) := by have := hka.out; omega
          have ht4 : ¬ ((1000000 : Int) < (q : Int)) := by have := hqv.out (by omega); omega
          replace e1 := hid e1
          replace e2 := hid e2
          replace hz := hid hz
          clear hone
          clear hjs
          have hend : decide ((s.size : Int) ≤ (k : Int)) = true := decide_eq_true (by omega)
          rw [hend] at hE
          go_wp2_with fail
          go_quiet ((go_at_call 20; exact Calls.quiet_of (hE.out _)))
          go_wp2
          go_ret
          exact ⟨_, rfl, (by rw [hF.out]; intro y nx h; injection h with h1 h2; rw [← h1]; have := hqv.out (by have := hz.out; omega); omega), (by rw [hF.out]; exact SBox.of (Blk.drewN HB.out _) (by show (k : Int) = ((a + j : Nat) : Int); have := hka.out; omega) rfl), hchg.drewN _⟩
        · have hF := hid (show numS s a j = .bad a 134 from by rw [hnu.out, if_pos (Or.inr (Or.inr e2))])
          have ht : (((k : Nat) : Int) == (a : Int)) = false := by rw [beq_eq_false_iff_ne]; have := hka.out; omega
          have has := hjs e0
          have hga := byteAt_eq has
          have ht2 : (((byteAt s a : Nat) : Int) == 48) = false := by rw [beq_eq_false_iff_ne]; omega
          have ht4 : ((1000000 : Int) < (q : Int)) := by have := hqm.out e2; omega
          replace e1 := hid e1
          clear hone
          clear hjs
          have hend : decide ((s.size : Int) ≤ (k : Int)) = true := decide_eq_true (by omega)
          rw [hend] at hE
          go_wp2_with fail
          go_quiet ((go_at_call 20; exact Calls.quiet_of (hE.out _)))
          go_wp2_with fail
          refine (fails_any b s k 0 a 134 _ (Blk.drewN HB.out _)).mono ?_
          rintro e w' ⟨rfl, hB, hc⟩
          go_wp2
          go_ret
          exact ⟨_, rfl, (by rw [hF.out]; intro y nx h; cases h), (by rw [hF.out]; exact hB), (hchg.drewN _).trans hc⟩
        · have hF := hid (show numS s a j = .ok (valD s a j) (a + j) from by rw [hnu.out, if_neg (by omega)])
          have ht : (((k : Nat) : Int) == (a : Int)) = false := by rw [beq_eq_false_iff_ne]; have := hka.out; omega
          have has := hjs e0
          have hga := byteAt_eq has
          have ht2 : (((byteAt s a : Nat) : Int) == 48) = false := by rw [beq_eq_false_iff_ne]; omega
          have ht4 : ¬ ((1000000 : Int) < (q : Int)) := by have := hqv.out e2; omega
          replace e1 := hid e1
          clear hone
          clear hjs
          have hend : decide ((s.size : Int) ≤ (k : Int)) = true := decide_eq_true (by omega)
          rw [hend] at hE
          go_wp2_with fail
          go_quiet ((go_at_call 20; exact Calls.quiet_of (hE.out _)))
          go_wp2
          go_ret
          exact ⟨_, rfl, (by rw [hF.out]; intro y nx h; injection h with h1 h2; rw [← h1]; have := hqv.out e2; omega), (by rw [hF.out]; exact SBox.of (Blk.drewN HB.out _) (by show (k : Int) = ((a + j : Nat) : Int); have := hka.out; omega) rfl), hchg.drewN _⟩
      · rcases hfin with e0 | ⟨e0, e1, e2⟩ | ⟨e0, e1, e2⟩ | ⟨e0, e1, e2⟩ | ⟨e0, e1, e2⟩
        · have e1 : k = a := by have := hka.out; omega
          have hF := hid (show numS s a j = .bad a 134 from by rw [hnu.out, if_pos (Or.inl e0)])
          have ht : (((k : Nat) : Int) == (a : Int)) = true := beq_iff_eq.2 (by omega)
          replace e0 := hid e0
          replace e1 := hid e1
          clear hone
          clear hjs
          have hend : decide ((s.size : Int) ≤ (k : Int)) = false := decide_eq_false (by omega)
          rw [hend] at hE
          have hg := byteAt_eq h1
          have hc1 : decide ((48 : Int) ≤ ((byteAt s k : Nat) : Int)) = false := decide_eq_false (by omega)
          go_wp2_with fail
          go_quiet ((go_at_call 20; exact Calls.quiet_of (hE.out _)))
          go_wp2_with fail
          refine (fails_any b s k 0 a 134 _ (Blk.drewN HB.out _)).mono ?_
          rintro e w' ⟨rfl, hB, hc⟩
          go_wp2
          go_ret
          exact ⟨_, rfl, (by rw [hF.out]; intro y nx h; cases h), (by rw [hF.out]; exact hB), (hchg.drewN _).trans hc⟩
        · have hF := hid (show numS s a j = .bad a 134 from by rw [hnu.out, if_pos (Or.inr (Or.inl ⟨e1, e2⟩))])
          have ht : (((k : Nat) : Int) == (a : Int)) = false := by rw [beq_eq_false_iff_ne]; have := hka.out; omega
          have has := hjs e0
          have hga := byteAt_eq has
          have ht2 : (((byteAt s a : Nat) : Int) == 48) = true := beq_iff_eq.2 (by omega)
          have ht3 : ((a : Int) + 1 < (k : Int)) := by have := hka.out; omega
          replace e1 := hid e1
          clear hone
          clear hjs
          have hend : decide ((s.size : Int) ≤ (k : Int)) = false := decide_eq_false (by omega)
          rw [hend] at hE
          have hg := byteAt_eq h1
          have hc1 : decide ((48 : Int) ≤ ((byteAt s k : Nat) : Int)) = false := decide_eq_false (by omega)
          go_wp2_with fail
          go_quiet ((go_at_call 20; exact Calls.quiet_of (hE.out _)))
          go_wp2_with fail
          refine (fails_any b s k 0 a 134 _ (Blk.drewN HB.out _)).mono ?_
          rintro e w' ⟨rfl, hB, hc⟩
          go_wp2
          go_ret
          exact ⟨_, rfl, (by rw [hF.out]; intro y nx h; cases h), (by rw [hF.out]; exact hB), (hchg.drewN _).trans hc⟩
        · have hz := hone e2 e1
          have hF := hid (show numS s a j = .ok (valD s a j) (a + j) from by rw [hnu.out, if_neg (by omega)])
          have ht : (((k : Nat) : Int) == (a : Int)) = false := by rw [beq_eq_false_iff_ne]; have := hka.out; omega
          have has := hjs e0
          have hga := byteAt_eq has
          have ht2 : (((byteAt s a : Nat) : Int) == 48) = true := beq_iff_eq.2 (by omega)
          have ht3 : ¬ ((a : Int) + 1 < (k : Int)) := by have := hka.out; omega
          have ht4 : ¬ ((1000000 : Int) < (q : Int)) := by have := hqv.out (by omega); omega
          replace e1 := hid e1
          replace e2 := hid e2
          replace hz := hid hz
          clear hone
          clear hjs
          have hend : decide ((s.size : Int) ≤ (k : Int)) = false := decide_eq_false (by omega)
          rw [hend] at hE
          have hg := byteAt_eq h1
          have hc1 : decide ((48 : Int) ≤ ((byteAt s k : Nat) : Int)) = false := decide_eq_false (by omega)
          go_wp2_with fail
          go_quiet ((go_at_call 20; exact Calls.quiet_of (hE.out _)))
          go_wp2
          go_ret
          exact ⟨_, rfl, (by rw [hF.out]; intro y nx h; injection h with h1 h2; rw [← h1]; have := hqv.out (by have := hz.out; omega); omega), (by rw [hF.out]; exact SBox.of (Blk.drewN HB.out _) (by show (k : Int) = ((a + j : Nat) : Int); have := hka.out; omega) rfl), hchg.drewN _⟩
        · have hF := hid (show numS s a j = .bad a 134 from by rw [hnu.out, if_pos (Or.inr (Or.inr e2))])
          have ht : (((k : Nat) : Int) == (a : Int)) = false := by rw [beq_eq_false_iff_ne]; have := hka.out; omega
          have has := hjs e0
          have hga := byteAt_eq has
          have ht2 : (((byteAt s a : Nat) : Int) == 48) = false := by rw [beq_eq_false_iff_ne]; omega
          have ht4 : ((1000000 : Int) < (q : Int)) := by have := hqm.out e2; omega
          replace e1 := hid e1
          clear hone
          clear hjs
          have hend : decide ((s.size : Int) ≤ (k : Int)) = false := decide_eq_false (by omega)
          rw [hend] at hE
          have hg := byteAt_eq h1
          have hc1 : decide ((48 : Int) ≤ ((byteAt s k : Nat) : Int)) = false := decide_eq_false (by omega)
          go_wp2_with fail
          go_quiet ((go_at_call 20; exact Calls.quiet_of (hE.out _)))
          go_wp2_with fail
          refine (fails_any b s k 0 a 134 _ (Blk.drewN HB.out _)).mono ?_
          rintro e w' ⟨rfl, hB, hc⟩
          go_wp2
          go_ret
          exact ⟨_, rfl, (by rw [hF.out]; intro y nx h; cases h), (by rw [hF.out]; exact hB), (hchg.drewN _).trans hc⟩
        · have hF := hid (show numS s a j = .ok (valD s a j) (a + j) from by rw [hnu.out, if_neg (by omega)])
          have ht : (((k : Nat) : Int) == (a : Int)) = false := by rw [beq_eq_false_iff_ne]; have := hka.out; omega
          have has := hjs e0
          have hga := byteAt_eq has
          have ht2 : (((byteAt s a : Nat) : Int) == 48) = false := by rw [beq_eq_false_iff_ne]; omega
          have ht4 : ¬ ((1000000 : Int) < (q : Int)) := by have := hqv.out e2; omega
          replace e1 := hid e1
          clear hone
          clear hjs
          have hend : decide ((s.size : Int) ≤ (k : Int)) = false := decide_eq_false (by omega)
          rw [hend] at hE
          have hg := byteAt_eq h1
          have hc1 : decide ((48 : Int) ≤ ((byteAt s k : Nat) : Int)) = false := decide_eq_false (by omega)
          go_wp2_with fail
          go_quiet ((go_at_call 20; exact Calls.quiet_of (hE.out _)))
          go_wp2
          go_ret
          exact ⟨_, rfl, (by rw [hF.out]; intro y nx h; injection h with h1 h2; rw [← h1]; have := hqv.out e2; omega), (by rw [hF.out]; exact SBox.of (Blk.drewN HB.out _) (by show (k : Int) = ((a + j : Nat) : Int); have := hka.out; omega) rfl), hchg.drewN _⟩
      · rcases hfin with e0 | ⟨e0, e1, e2⟩ | ⟨e0, e1, e2⟩ | ⟨e0, e1, e2⟩ | ⟨e0, e1, e2⟩
        · have e1 : k = a := by have := hka.out; omega
          have hF := hid (show numS s a j = .bad a 134 from by rw [hnu.out, if_pos (Or.inl e0)])
          have ht : (((k : Nat) : Int) == (a : Int)) = true := beq_iff_eq.2 (by omega)
          replace e0 := hid e0
          replace e1 := hid e1
          clear hone
          clear hjs
          have hend : decide ((s.size : Int) ≤ (k : Int)) = false := decide_eq_false (by omega)
          rw [hend] at hE
          have hg := byteAt_eq h1
          have hc1 : decide ((48 : Int) ≤ ((byteAt s k : Nat) : Int)) = true := decide_eq_true (by omega)
          have hc2 : decide (((byteAt s k : Nat) : Int) ≤ 57) = false := decide_eq_false (by omega)
          go_wp2_with fail
          go_quiet ((go_at_call 20; exact Calls.quiet_of (hE.out _)))
          go_wp2_with fail
          refine (fails_any b s k 0 a 134 _ (Blk.drewN HB.out _)).mono ?_
          rintro e w' ⟨rfl, hB, hc⟩
          go_wp2
          go_ret
          exact ⟨_, rfl, (by rw [hF.out]; intro y nx h; cases h), (by rw [hF.out]; exact hB), (hchg.drewN _).trans hc⟩
        · have hF := hid (show numS s a j = .bad a 134 from by rw [hnu.out, if_pos (Or.inr (Or.inl ⟨e1, e2⟩))])
          have ht : (((k : Nat) : Int) == (a : Int)) = false := by rw [beq_eq_false_iff_ne]; have := hka.out; omega
          have has := hjs e0
          have hga := byteAt_eq has
          have ht2 : (((byteAt s a : Nat) : Int) == 48) = true := beq_iff_eq.2 (by omega)
          have ht3 : ((a : Int) + 1 < (k : Int)) := by have := hka.out; omega
          replace e1 := hid e1
          clear hone
          clear hjs
          have hend : decide ((s.size : Int) ≤ (k : Int)) = false := decide_eq_false (by omega)
          rw [hend] at hE
          have hg := byteAt_eq h1
          have hc1 : decide ((48 : Int) ≤ ((byteAt s k : Nat) : Int)) = true := decide_eq_true (by omega)
          have hc2 : decide (((byteAt s k : Nat) : Int) ≤ 57) = false := decide_eq_false (by omega)
          go_wp2_with fail
          go_quiet ((go_at_call 20; exact Calls.quiet_of (hE.out _)))
          go_wp2_with fail
          refine (fails_any b s k 0 a 134 _ (Blk.drewN HB.out _)).mono ?_
          rintro e w' ⟨rfl, hB, hc⟩
          go_wp2
          go_ret
          exact ⟨_, rfl, (by rw [hF.out]; intro y nx h; cases h), (by rw [hF.out]; exact hB), (hchg.drewN _).trans hc⟩
        · have hz := hone e2 e1
          have hF := hid (show numS s a j = .ok (valD s a j) (a + j) from by rw [hnu.out, if_neg (by omega)])
          have ht : (((k : Nat) : Int) == (a : Int)) = false := by rw [beq_eq_false_iff_ne]; have := hka.out; omega
          have has := hjs e0
          have hga := byteAt_eq has
          have ht2 : (((byteAt s a : Nat) : Int) == 48) = true := beq_iff_eq.2 (by omega)
          have ht3 : ¬ ((a : Int) + 1 < (k : Int)) := by have := hka.out; omega
          have ht4 : ¬ ((1000000 : Int) < (q : Int)) := by have := hqv.out (by omega); omega
          replace e1 := hid e1
          replace e2 := hid e2
          replace hz := hid hz
          clear hone
          clear hjs
          have hend : decide ((s.size : Int) ≤ (k : Int)) = false := decide_eq_false (by omega)
          rw [hend] at hE
          have hg := byteAt_eq h1
          have hc1 : decide ((48 : Int) ≤ ((byteAt s k : Nat) : Int)) = true := decide_eq_true (by omega)
          have hc2 : decide (((byteAt s k : Nat) : Int) ≤ 57) = false := decide_eq_false (by omega)
          go_wp2_with fail
          go_quiet ((go_at_call 20; exact Calls.quiet_of (hE.out _)))
          go_wp2
          go_ret
          exact ⟨_, rfl, (by rw [hF.out]; intro y nx h; injection h with h1 h2; rw [← h1]; have := hqv.out (by have := hz.out; omega); omega), (by rw [hF.out]; exact SBox.of (Blk.drewN HB.out _) (by show (k : Int) = ((a + j : Nat) : Int); have := hka.out; omega) rfl), hchg.drewN _⟩
        · have hF := hid (show numS s a j = .bad a 134 from by rw [hnu.out, if_pos (Or.inr (Or.inr e2))])
          have ht : (((k : Nat) : Int) == (a : Int)) = false := by rw [beq_eq_false_iff_ne]; have := hka.out; omega
          have has := hjs e0
          have hga := byteAt_eq has
          have ht2 : (((byteAt s a : Nat) : Int) == 48) = false := by rw [beq_eq_false_iff_ne]; omega
          have ht4 : ((1000000 : Int) < (q : Int)) := by have := hqm.out e2; omega
          replace e1 := hid e1
          clear hone
          clear hjs
          have hend : decide ((s.size : Int) ≤ (k : Int)) = false := decide_eq_false (by omega)
          rw [hend] at hE
          have hg := byteAt_eq h1
          have hc1 : decide ((48 : Int) ≤ ((byteAt s k : Nat) : Int)) = true := decide_eq_true (by omega)
          have hc2 : decide (((byteAt s k : Nat) : Int) ≤ 57) = false := decide_eq_false (by omega)
          go_wp2_with fail
          go_quiet ((go_at_call 20; exact Calls.quiet_of (hE.out _)))
          go_wp2_with fail
          refine (fails_any b s k 0 a 134 _ (Blk.drewN HB.out _)).mono ?_
          rintro e w' ⟨rfl, hB, hc⟩
          go_wp2
          go_ret
          exact ⟨_, rfl, (by rw [hF.out]; intro y nx h; cases h), (by rw [hF.out]; exact hB), (hchg.drewN _).trans hc⟩
        · have hF := hid (show numS s a j = .ok (valD s a j) (a + j) from by rw [hnu.out, if_neg (by omega)])
          have ht : (((k : Nat) : Int) == (a : Int)) = false := by rw [beq_eq_false_iff_ne]; have := hka.out; omega
          have has := hjs e0
          have hga := byteAt_eq has
          have ht2 : (((byteAt s a : Nat) : Int) == 48) = false := by rw [beq_eq_false_iff_ne]; omega
          have ht4 : ¬ ((1000000 : Int) < (q : Int)) := by have := hqv.out e2; omega
          replace e1 := hid e1
          clear hone
          clear hjs
          have hend : decide ((s.size : Int) ≤ (k : Int)) = false := decide_eq_false (by omega)
          rw [hend] at hE
          have hg := byteAt_eq h1
          have hc1 : decide ((48 : Int) ≤ ((byteAt s k : Nat) : Int)) = true := decide_eq_true (by omega)
          have hc2 : decide (((byteAt s k : Nat) : Int) ≤ 57) = false := decide_eq_false (by omega)
          go_wp2_with fail
          go_quiet ((go_at_call 20; exact Calls.quiet_of (hE.out _)))
          go_wp2
          go_ret
          exact ⟨_, rfl, (by rw [hF.out]; intro y nx h; injection h with h1 h2; rw [← h1]; have := hqv.out e2; omega), (by rw [hF.out]; exact SBox.of (Blk.drewN HB.out _) (by show (k : Int) = ((a + j : Nat) : Int); have := hka.out; omega) rfl), hchg.drewN _⟩
end Go.Proofs.Ytpndjehiacmngaa
