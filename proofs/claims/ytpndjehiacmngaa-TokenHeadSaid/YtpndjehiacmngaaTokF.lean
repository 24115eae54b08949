/- Layer 13: pure words: what is read at a place. -/
import Derived.Test.YtpndjehiacmngaaTokE
namespace Go.Proofs.Ytpndjehiacmngaa
open Go.RowKit

/-- The byte at a place, 0 behind the end. -/
def byteAt (s : ByteArray) (i : Nat) : Nat := if h : i < s.size then s[i].toNat else 0
/-- What was read: a value and the place behind it; or the place of what is amiss, and why. -/
inductive Rd (α : Type) where
  | ok (v : α) (next : Nat)
  | bad (at_ : Nat) (e : Int)
def escSet : ByteArray := ⟨#[92, 34, 63, 91, 93, 45, 94]⟩
/-- Escape at a place at which there is a backslash. -/
def escS (s : ByteArray) (a : Nat) : Rd Nat :=
  if a + 1 < s.size ∧ inS escSet (byteAt s (a + 1)) = true then .ok (byteAt s (a + 1)) (a + 2)
  else if a + 3 < s.size ∧ byteAt s (a + 1) = 120 ∧ 0 ≤ hexV (byteAt s (a + 2)) ∧ 0 ≤ hexV (byteAt s (a + 3)) then .ok ((16 * hexV (byteAt s (a + 2)) + hexV (byteAt s (a + 3))).toNat) (a + 4)
  else .bad a 131
theorem hexV_le (b : Nat) : hexV b ≤ 15 := by
  unfold hexV; split
  · omega
  · split <;> omega
theorem byteAt_lt (s : ByteArray) (i : Nat) : byteAt s i < 256 := by
  unfold byteAt; split
  · exact UInt8.toNat_lt _
  · omega
end Go.Proofs.Ytpndjehiacmngaa
