/- Layer 13: the scanner: has. -/
import Derived.Test.YtpndjehiacmngaaTokB
import Derived.Deep.QuietTactic
import Derived.BigQuiet
namespace Go.Proofs.Ytpndjehiacmngaa
open Go.RowKit
set_option linter.unusedVariables false

theorem has_any (b : Nat) (s : ByteArray) (a x : Nat) (no : Int) (w : World) (H : SBox w b s a no) (hs : s.size ≤ 9223372036854775806) (ha : a ≤ s.size) (hx : (x : Int) ≤ 255) :
    Calls Try.prog 21 #[.pointer (some ⟨b, 0, none⟩), .int .u8 x] w fun e w' => e = .returned (.bool (hasB s a x)) ∧ SBox w' b s (if hasB s a x = true then ((a + 1 : Nat) : Int) else (a : Int)) no ∧ Chg (One b) w w' := by
  obtain ⟨r0, r1, r2, f0, f1, f2, hlt⟩ := H.at_
  have HH := hid H
  clear H
  have hE := hid (fun n => end_quiet b s a no (w.drewN n) (Blk.drewN HH.out n) (by omega))
  by_cases hl : a < s.size
  · have hend : decide ((s.size : Int) ≤ (a : Int)) = false := decide_eq_false (by omega)
    rw [hend] at hE
    by_cases he : s[a].toNat = x
    · have hh := hid (show hasB s a x = true from by unfold hasB; rw [dif_pos hl]; exact beq_iff_eq.2 he)
      have hd : (((s[a].toNat : Nat) : Int) == (x : Int)) = true := beq_iff_eq.2 (by omega)
      have he := hid he
      rw [hh.out]
      go_enter Try.func21, Try.ntmps21
      go_wp2_with fail
      go_quiet ((go_at_call 20; exact Calls.quiet_of (hE.out _)))
      go_wp2
      go_ret
      exact ⟨rfl, Blk.set (Blk.drewN HH.out _) 1 _, ((Chg.refl _ _).drewN _).setOne _ _⟩
    · have hh := hid (show hasB s a x = false from by unfold hasB; rw [dif_pos hl]; exact beq_eq_false_iff_ne.2 he)
      have hd : (((s[a].toNat : Nat) : Int) == (x : Int)) = false := beq_eq_false_iff_ne.2 (by omega)
      have he := hid he
      rw [hh.out]
      go_enter Try.func21, Try.ntmps21
      go_wp2_with fail
      go_quiet ((go_at_call 20; exact Calls.quiet_of (hE.out _)))
      go_wp2
      go_ret
      exact ⟨rfl, Blk.drewN HH.out _, (Chg.refl _ _).drewN _⟩
  · have hend : decide ((s.size : Int) ≤ (a : Int)) = true := decide_eq_true (by omega)
    rw [hend] at hE
    have hh := hid (show hasB s a x = false from by unfold hasB; rw [dif_neg hl])
    rw [hh.out]
    go_enter Try.func21, Try.ntmps21
    go_wp2_with fail
    go_quiet ((go_at_call 20; exact Calls.quiet_of (hE.out _)))
    go_wp2
    go_ret
    exact ⟨rfl, Blk.drewN HH.out _, (Chg.refl _ _).drewN _⟩
end Go.Proofs.Ytpndjehiacmngaa
