/- Layer 13: the program's scanner: one, byteOf; the document's item. -/
import Derived.Test.YtpndjehiacmngaaTokH
namespace Go.Proofs.Ytpndjehiacmngaa
open Go.RowKit
set_option linter.unusedVariables false
/-- A byte of a pattern or of a class, at a place that there is. -/
def oneS (ap : ByteArray) (no : Int) (s : ByteArray) (a : Nat) : Rd Nat :=
  if byteAt s a = 92 then escS s a
  else if signB (byteAt s a) = true ∧ inS ap (byteAt s a) = false then .ok (byteAt s a) (a + 1) else .bad a no
def insideSet : ByteArray := ⟨#[92, 34, 91, 93, 45, 94]⟩
def itemS (s : ByteArray) (a : Nat) : Rd Nat := if a < s.size then oneS insideSet 132 s a else .bad s.size 133

set_option maxHeartbeats 1000000 in
theorem one_any (ap : ByteArray) (no : Int) (b : Nat) (s : ByteArray) (a : Nat) (w : World) (H : SBox w b s a 0) (hs : s.size ≤ 9223372036854775000) (ha : a < s.size) :
    Calls Try.prog 53 #[.pointer (some ⟨b, 0, none⟩), .string ap, .int .i64 no] w (ScB (oneS ap no s a) s b w) := by
  obtain ⟨r0, r1, r2, f0, f1, f2, hlt⟩ := H.at_
  have HH := hid H
  clear H
  have hlt1 := byteAt_lt s a
  have hg0 := byteAt_eq ha
  by_cases h92 : byteAt s a = 92
  · have hd : (((byteAt s a : Nat) : Int) == 92) = true := beq_iff_eq.2 (by omega)
    have hE := hid (show oneS ap no s a = escS s a from by unfold oneS; rw [if_pos h92])
    replace h92 := hid h92
    rw [hE.out]
    go_enter Try.func53, Try.ntmps53
    go_wp2_with fail
    go_quiet (fail)
    go_wp2_with fail
    refine (escape_any b s a _ (Blk.drewN HH.out _) hs ha).mono ?_
    rintro e w' ⟨rfl, hB, hc⟩
    go_wp2
    go_ret
    exact ⟨rfl, hB, ((Chg.refl _ _).drewN _).trans hc⟩
  · have hd : (((byteAt s a : Nat) : Int) == 92) = false := by rw [beq_eq_false_iff_ne]; omega
    by_cases hsg : signB (byteAt s a) = true
    · cases hin : inS ap (byteAt s a) with
      | true =>
        have hE := hid (show oneS ap no s a = .bad a no from by unfold oneS; rw [if_neg h92, if_neg (by rw [hin]; simp)])
        have hd3 : decide (0 ≤ idxV ap (byteAt s a)) = true := by rw [in_idx _ _ hlt1, hin]
        clear hin h92
        rw [hE.out]
        go_enter Try.func53, Try.ntmps53
        go_wp2_with fail
        go_quiet (fail)
        go_wp2_with fail
        refine (tokSign_any (byteAt s a) _ (by omega)).mono ?_
        rintro e w' ⟨rfl, rfl⟩
        go_wp2_with fail
        refine (idx_any ap _ _).mono ?_
        rintro e w' ⟨rfl, rfl⟩
        go_wp2_with fail
        refine (fails_any b s a 0 a no _ (Blk.drewN HH.out _)).mono ?_
        rintro e w' ⟨rfl, hB, hc⟩
        go_wp2
        go_ret
        exact ⟨rfl, hB, ((Chg.refl _ _).drewN _).trans hc⟩
      | false =>
        have hE := hid (show oneS ap no s a = .ok (byteAt s a) (a + 1) from by unfold oneS; rw [if_neg h92, if_pos ⟨hsg, hin⟩])
        have hd3 : decide (0 ≤ idxV ap (byteAt s a)) = false := by rw [in_idx _ _ hlt1, hin]
        clear hin h92
        rw [hE.out]
        go_enter Try.func53, Try.ntmps53
        go_wp2_with fail
        go_quiet (fail)
        go_wp2_with fail
        refine (tokSign_any (byteAt s a) _ (by omega)).mono ?_
        rintro e w' ⟨rfl, rfl⟩
        go_wp2_with fail
        refine (idx_any ap _ _).mono ?_
        rintro e w' ⟨rfl, rfl⟩
        go_wp2
        go_ret
        exact ⟨rfl, SBox.putAt (Blk.drewN HH.out _) _, ((Chg.refl _ _).drewN _).setOne _ _⟩
    · have hE := hid (show oneS ap no s a = .bad a no from by unfold oneS; rw [if_neg h92, if_neg (fun h => hsg h.1)])
      have hsg' : signB (byteAt s a) = false := by simpa using hsg
      clear h92 hsg
      rw [hE.out]
      go_enter Try.func53, Try.ntmps53
      go_wp2_with fail
      go_quiet (fail)
      go_wp2_with fail
      refine (tokSign_any (byteAt s a) _ (by omega)).mono ?_
      rintro e w' ⟨rfl, rfl⟩
      go_wp2_with fail
      refine (fails_any b s a 0 a no _ (Blk.drewN HH.out _)).mono ?_
      rintro e w' ⟨rfl, hB, hc⟩
      go_wp2
      go_ret
      exact ⟨rfl, hB, ((Chg.refl _ _).drewN _).trans hc⟩

set_option maxHeartbeats 1000000 in
theorem byteOf_any (b : Nat) (s : ByteArray) (a : Nat) (w : World) (H : SBox w b s a 0) (hs : s.size ≤ 9223372036854775000) (ha : a ≤ s.size) :
    Calls Try.prog 58 #[.pointer (some ⟨b, 0, none⟩)] w (ScB (itemS s a) s b w) := by
  obtain ⟨r0, r1, r2, f0, f1, f2, hlt⟩ := H.at_
  have HH := hid H
  clear H
  by_cases h : a < s.size
  · have hE := hid (show itemS s a = oneS insideSet 132 s a from by unfold itemS; rw [if_pos h])
    rw [hE.out]
    have he : decide ((s.size : Int) ≤ (a : Int)) = false := decide_eq_false (by omega)
    go_enter Try.func58, Try.ntmps58
    go_wp2_with fail
    refine (end_quiet b s a 0 _ HH.out (by omega)).mono ?_
    rintro e w' ⟨rfl, m, rfl⟩
    go_wp2_with fail
    refine (one_any insideSet 132 b s a _ (Blk.drewN HH.out _) hs h).mono ?_
    rintro e w' ⟨rfl, hB, hc⟩
    go_wp2
    go_ret
    exact ⟨rfl, hB, ((Chg.refl _ _).drewN _).trans hc⟩
  · have hE := hid (show itemS s a = .bad a 133 from by unfold itemS; rw [if_neg h, show s.size = a from by omega])
    rw [hE.out]
    have he : decide ((s.size : Int) ≤ (a : Int)) = true := decide_eq_true (by omega)
    go_enter Try.func58, Try.ntmps58
    go_wp2_with fail
    refine (end_quiet b s a 0 _ HH.out (by omega)).mono ?_
    rintro e w' ⟨rfl, m, rfl⟩
    go_wp2_with fail
    refine (fails_any b s a 0 a 133 _ (Blk.drewN HH.out _)).mono ?_
    rintro e w' ⟨rfl, hB, hc⟩
    go_wp2
    go_ret
    exact ⟨rfl, hB, ((Chg.refl _ _).drewN _).trans hc⟩
end Go.Proofs.Ytpndjehiacmngaa
