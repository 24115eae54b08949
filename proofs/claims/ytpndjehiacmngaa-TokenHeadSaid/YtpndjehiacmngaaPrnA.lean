/- Layer 13: printing: digit, written. -/
import Derived.Test.YtpndjehiacmngaaTokI
import Derived.Test.YtpndjehiacmngaaLibB
import Derived.Laws.BytesArg
import Derived.Deep.DrawnRows
namespace Go.Proofs.Ytpndjehiacmngaa
open Go.RowKit
set_option linter.unusedVariables false
attribute [local go_sem ↓] Go.wp_at_zero Go.wp_at_succ
def digS (n : Nat) : ByteArray := hexs.extract n (n + 1)
theorem refDigit_any (n : Nat) (w : World) (hn : n < 16) :
    Calls Try.prog 49 #[.int .i64 n] w fun e w' => e = .returned (.string (digS n)) ∧ w' = w := by
  go_enter Try.func49, Try.ntmps49
  go_wp2
  go_ret
  exact ⟨rfl, rfl⟩
def byteS (b : Nat) : ByteArray := strOfNums [(b : Int)]
def writtenS (b : Nat) (ap : ByteArray) : ByteArray :=
  if signB b = false then (⟨#[92, 120]⟩ ++ digS (b / 16)) ++ digS (b % 16) else if inS ap b = true then ⟨#[92]⟩ ++ byteS b else byteS b
theorem conv_one (w : World) (b : Nat) : (convert 81 9 (.slice (some ⟨w.heap.size, 0, none⟩) 1 1)).run Try.prog (w.alloc (.cells #[.int .u8 b] 5)) = .ok (.string (byteS b)) (w.alloc (.cells #[.int .u8 b] 5)) := by
  have hcl : ∀ i, i < 1 → (w.alloc (.cells #[.int .u8 b] 5)).cell? ⟨w.heap.size, 0 + i, none⟩ = some (.int .u8 ([(b : Int)].getD i 0)) := by
    intro i hi
    obtain rfl : i = 0 := by omega
    exact (Blk.new w _ _).cell 0 rfl
  exact run_convert_bytes_arg (P := Try.prog) _ _ _ Try.underlying81 Try.underlying5 _ 0 1 1 [(b : Int)] rfl hcl _ Try.underlying9
theorem dig_hi (b : Nat) : (digS (b / 16)) = hexs.extract ((b : Int) / 16).toNat (((b : Int) / 16).toNat + 1) := by
  unfold digS; rw [show ((b : Int) / 16).toNat = b / 16 from by omega]
set_option maxHeartbeats 1000000 in
set_option maxRecDepth 100000 in
theorem tokWritten_any (b : Nat) (ap : ByteArray) (w : World) (hb : (b : Int) < 256) :
    Calls Try.prog 26 #[.int .u8 b, .string ap] w fun e w' => e = .returned (.string (writtenS b ap)) ∧ Chg Nothing w w' := by
  cases hs : signB b with
  | false =>
    have hE := hid (show writtenS b ap = (⟨#[92, 120]⟩ ++ digS (b / 16)) ++ digS (b % 16) from by unfold writtenS; rw [if_pos hs])
    have hg := hid (fun w => by have := tokSign_any b w (by omega); rw [hs] at this; exact this : ∀ w, Calls Try.prog 45 #[.int .u8 b] w fun e w' => e = .returned (.bool false) ∧ w' = w)
    clear hs
    rw [hE.out]
    have k1 := IntWalk.u8_in ((b : Int) / 16) (by omega)
    have k2 := IntWalk.u8_in ((b : Int) / 16 + 1) (by omega)
    have k3 := IntWalk.u8_in ((b : Int) % 16) (by omega)
    have k4 := IntWalk.u8_in ((b : Int) % 16 + 1) (by omega)
    have m1 : 0 ≤ (b : Int) / 16 := by omega
    have m2 : (b : Int) / 16 ≤ 15 := by omega
    have m3 : 0 ≤ (b : Int) % 16 := by omega
    have m4 : (b : Int) % 16 ≤ 15 := by omega
    go_enter Try.func26, Try.ntmps26
    go_wp2_with fail
    refine (hg.out _).mono ?_
    rintro e w' ⟨rfl, rfl⟩
    go_wp2_with fail
    go_quiet (fail)
    go_wp2
    go_ret
    exact ⟨rfl, (Chg.refl _ _).drewN _⟩
  | true =>
    have hg := hid (fun w => by have := tokSign_any b w (by omega); rw [hs] at this; exact this : ∀ w, Calls Try.prog 45 #[.int .u8 b] w fun e w' => e = .returned (.bool true) ∧ w' = w)
    have hcv := conv_one w b
    cases hi : inS ap b with
    | true =>
      have hE := hid (show writtenS b ap = ⟨#[92]⟩ ++ byteS b from by unfold writtenS; rw [if_neg (by rw [hs]; simp), if_pos hi])
      have hd : decide (0 ≤ idxV ap b) = true := by rw [in_idx _ _ (by omega), hi]
      have hd' : 0 ≤ idxV ap b := of_decide_eq_true hd
      clear hs hi
      rw [hE.out]
      go_enter Try.func26, Try.ntmps26
      go_wp2_with fail
      refine (hg.out _).mono ?_
      rintro e w' ⟨rfl, hw⟩
      subst hw
      go_wp2_with fail
      refine (idx_any ap b _).mono ?_
      rintro e w' ⟨rfl, hw⟩
      subst hw
      go_wp2
      go_ret
      exact ⟨rfl, (Chg.refl _ _).alloc _⟩
    | false =>
      have hE := hid (show writtenS b ap = byteS b from by unfold writtenS; rw [if_neg (by rw [hs]; simp), if_neg (by rw [hi]; simp)])
      have hd : decide (0 ≤ idxV ap b) = false := by rw [in_idx _ _ (by omega), hi]
      have hd' : ¬ 0 ≤ idxV ap b := of_decide_eq_false hd
      clear hs hi
      rw [hE.out]
      go_enter Try.func26, Try.ntmps26
      go_wp2_with fail
      refine (hg.out _).mono ?_
      rintro e w' ⟨rfl, hw⟩
      subst hw
      go_wp2_with fail
      refine (idx_any ap b _).mono ?_
      rintro e w' ⟨rfl, hw⟩
      subst hw
      go_wp2
      go_ret
      exact ⟨rfl, (Chg.refl _ _).alloc _⟩
end Go.Proofs.Ytpndjehiacmngaa
