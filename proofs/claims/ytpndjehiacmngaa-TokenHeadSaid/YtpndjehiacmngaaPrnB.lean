/- Layer 13: printing: the document's written, Digits; the program's digits. -/
import Derived.Test.YtpndjehiacmngaaPrnA
namespace Go.Proofs.Ytpndjehiacmngaa
open Go.RowKit
set_option linter.unusedVariables false
attribute [local go_sem ↓] Go.wp_at_zero Go.wp_at_succ
theorem refDigit_of (z : Int) (n : Nat) (hz : z = n) (w : World) (hn : n < 16) :
    Calls Try.prog 49 #[.int .i64 z] w fun e w' => e = .returned (.string (digS n)) ∧ w' = w := by subst hz; exact refDigit_any n w hn
theorem digS_size (n : Nat) : (digS n).size ≤ 1 := by unfold digS; simp; omega
theorem byteS_size (b : Nat) : (byteS b).size = 1 := by unfold byteS; rw [strOfNums_size]; rfl
set_option maxHeartbeats 1000000 in
set_option maxRecDepth 100000 in
theorem refWritten_any (b : Nat) (ap : ByteArray) (w : World) (hb : (b : Int) < 256) (hs : ap.size ≤ 9223372036854775807) :
    Calls Try.prog 30 #[.int .u8 b, .string ap] w fun e w' => e = .returned (.string (writtenS b ap)) ∧ Chg Nothing w w' := by
  cases hsg : signB b with
  | false =>
    have hE := hid (show writtenS b ap = (⟨#[92, 120]⟩ ++ digS (b / 16)) ++ digS (b % 16) from by unfold writtenS; rw [if_pos hsg])
    have hg := hid (fun w => by have := refSign_any b w (by omega); rw [hsg] at this; exact this : ∀ w, Calls Try.prog 48 #[.int .u8 b] w fun e w' => e = .returned (.bool false) ∧ w' = w)
    clear hsg
    rw [hE.out]
    have m1 : 0 ≤ (b : Int) / 16 := by omega
    have m2 : (b : Int) / 16 ≤ 15 := by omega
    have m3 : 0 ≤ (b : Int) % 16 := by omega
    have m4 : (b : Int) % 16 ≤ 15 := by omega
    have d1 := digS_size (b / 16)
    have d2 := digS_size (b % 16)
    go_enter Try.func30, Try.ntmps30
    go_wp2_with fail
    refine (hg.out _).mono ?_
    rintro e w' ⟨rfl, rfl⟩
    go_wp2_with fail
    refine (refDigit_of _ (b / 16) (by omega) _ (by omega)).mono ?_
    rintro e w' ⟨rfl, hw⟩
    subst hw
    go_wp2_with fail
    refine (refDigit_of _ (b % 16) (by omega) _ (by omega)).mono ?_
    rintro e w' ⟨rfl, hw⟩
    subst hw
    go_wp2
    go_ret
    exact ⟨rfl, Chg.refl _ _⟩
  | true =>
    have hg := hid (fun w => by have := refSign_any b w (by omega); rw [hsg] at this; exact this : ∀ w, Calls Try.prog 48 #[.int .u8 b] w fun e w' => e = .returned (.bool true) ∧ w' = w)
    have hcv := conv_one w b
    cases hi : inS ap b with
    | true =>
      have hE := hid (show writtenS b ap = ⟨#[92]⟩ ++ byteS b from by unfold writtenS; rw [if_neg (by rw [hsg]; simp), if_pos hi])
      have hin := hid (fun w => by have := refIn_any ap b w (by omega) hs; rw [hi] at this; exact this : ∀ w, Calls Try.prog 50 #[.string ap, .int .u8 b] w fun e w' => e = .returned (.bool true) ∧ w' = w)
      clear hsg hi
      rw [hE.out]
      go_enter Try.func30, Try.ntmps30
      go_wp2_with fail
      refine (hg.out _).mono ?_
      rintro e w' ⟨rfl, hw⟩
      subst hw
      go_wp2_with fail
      refine (hin.out _).mono ?_
      rintro e w' ⟨rfl, hw⟩
      subst hw
      go_wp2
      go_ret
      exact ⟨rfl, (Chg.refl _ _).alloc _⟩
    | false =>
      have hE := hid (show writtenS b ap = byteS b from by unfold writtenS; rw [if_neg (by rw [hsg]; simp), if_neg (by rw [hi]; simp)])
      have hin := hid (fun w => by have := refIn_any ap b w (by omega) hs; rw [hi] at this; exact this : ∀ w, Calls Try.prog 50 #[.string ap, .int .u8 b] w fun e w' => e = .returned (.bool false) ∧ w' = w)
      clear hsg hi
      rw [hE.out]
      go_enter Try.func30, Try.ntmps30
      go_wp2_with fail
      refine (hg.out _).mono ?_
      rintro e w' ⟨rfl, hw⟩
      subst hw
      go_wp2_with fail
      refine (hin.out _).mono ?_
      rintro e w' ⟨rfl, hw⟩
      subst hw
      go_wp2
      go_ret
      exact ⟨rfl, (Chg.refl _ _).alloc _⟩
/-- The digits of a number. -/
def decS (n : Nat) : ByteArray := if h : n < 10 then byteS (48 + n) else decS (n / 10) ++ byteS (48 + n % 10)
theorem decS_few {n : Nat} (h : n < 10) : decS n = byteS (48 + n) := by rw [decS, dif_pos h]
theorem decS_more {n : Nat} (h : ¬ n < 10) : decS n = decS (n / 10) ++ byteS (48 + n % 10) := by rw [decS, dif_neg h]
theorem decS_size (n : Nat) : (decS n).size ≤ n + 1 := by
  induction n using Nat.strongRecOn with
  | _ n ih =>
    by_cases h : n < 10
    · rw [decS_few h]; unfold byteS; rw [strOfNums_size]; simp
    · rw [decS_more h, ByteArray.size_append]
      have := ih (n / 10) (by omega)
      have : (byteS (48 + n % 10)).size = 1 := by unfold byteS; rw [strOfNums_size]; rfl
      omega
set_option maxHeartbeats 1000000 in
theorem tokDigits_any (n : Nat) (hn : n ≤ 1000000000) : ∀ (w : World),
    Calls Try.prog 33 #[.int .i64 n] w fun e w' => e = .returned (.string (decS n)) ∧ Chg Nothing w w' := by
  induction n using Nat.strongRecOn with
  | _ n ih =>
    intro w
    by_cases h : n < 10
    · have hE := hid (decS_few h)
      rw [hE.out]
      have k1 := IntWalk.u8_in ((48 : Int) + n) (by omega)
      have hcv := conv_one w (48 + n)
      rw [show ((48 + n : Nat) : Int) = 48 + (n : Int) from by omega] at hcv
      go_enter Try.func33, Try.ntmps33
      go_wp2
      go_ret
      exact ⟨rfl, (Chg.refl _ _).alloc _⟩
    · have hE := hid (decS_more h)
      rw [hE.out]
      have h1 := hid (ih (n / 10) (by omega) (by omega))
      have h2 := hid (ih (n % 10) (by omega) (by omega))
      have h3 := hid (decS_few (n := n % 10) (by omega))
      have m1 : 0 ≤ (n : Int) / 10 := by omega
      have m3 : 0 ≤ (n : Int) % 10 := by omega
      have e1 : (decS (n / 10)).size ≤ 1000000001 := by have := decS_size (n / 10); omega
      have e2 := byteS_size (48 + n % 10)
      have e3 : (byteS (48 + n % 10)).size ≤ 1 := by omega
      clear ih e2
      go_enter Try.func33, Try.ntmps33
      go_wp2_with fail
      rw [show (n : Int) / 10 = ((n / 10 : Nat) : Int) from by omega]
      refine (h1.out _).mono ?_
      rintro e w1 ⟨rfl, hc⟩
      go_wp2_with fail
      rw [show (n : Int) % 10 = ((n % 10 : Nat) : Int) from by omega]
      refine (h2.out _).mono ?_
      rintro e w2 ⟨rfl, hc2⟩
      rw [h3.out]
      go_wp2
      go_ret
      exact ⟨rfl, hc.trans hc2⟩
end Go.Proofs.Ytpndjehiacmngaa
