/- Layer 13: small functions of bytes: sign, hex, in. -/
import Derived.Test.YtpndjehiacmngaaRefH
namespace Go.Proofs.Ytpndjehiacmngaa
open Go.RowKit
set_option linter.unusedVariables false

def signB (b : Nat) : Bool := decide (32 ≤ (b : Int)) && decide ((b : Int) ≤ 126)
def hexV (b : Nat) : Int := if 48 ≤ (b : Int) ∧ (b : Int) ≤ 57 then (b : Int) - 48 else if 97 ≤ (b : Int) ∧ (b : Int) ≤ 102 then (b : Int) - 87 else -1
def inS (s : ByteArray) (b : Nat) : Bool := s.data.toList.any fun x => x.toNat == b
def inTo (s : ByteArray) (b k : Nat) : Bool := (s.data.toList.take k).any fun x => x.toNat == b
theorem inTo_succ (s : ByteArray) (b k : Nat) (h : k < s.size) : inTo s b (k + 1) = (inTo s b k || s[k].toNat == b) := by
  unfold inTo
  rw [List.take_succ_eq_append_getElem (by simpa using h), List.any_append]
  simp; rfl
theorem inTo_all (s : ByteArray) (b k : Nat) (h : s.size ≤ k) : inTo s b k = inS s b := by
  unfold inTo inS; rw [List.take_of_length_le (by simpa using h)]
theorem inS_hit (s : ByteArray) (b k : Nat) (h : k < s.size) (e : s[k].toNat = b) : inS s b = true := by
  unfold inS
  rw [List.any_eq_true]
  exact ⟨s[k], by simp [ByteArray.getElem_eq_getElem_data], by simp [e]⟩

theorem tokSign_any (b : Nat) (w : World) (hb : (b : Int) ≤ 255) :
    Calls Try.prog 45 #[.int .u8 b] w fun e w' => e = .returned (.bool (signB b)) ∧ w' = w := by
  have h : (32 ≤ (b : Int) ∧ (b : Int) ≤ 126) ∨ ¬ (32 ≤ (b : Int)) ∨ ¬ ((b : Int) ≤ 126) := by omega
  rcases h with ⟨h1, h2⟩ | h1 | h1
  all_goals
    go_enter Try.func45, Try.ntmps45
    go_wp2
    go_ret
    refine ⟨?_, rfl⟩
    unfold signB
    refine congrArg (fun r => Ending.returned (.bool r)) ?_
    simp; omega
theorem refSign_any (b : Nat) (w : World) (hb : (b : Int) ≤ 255) :
    Calls Try.prog 48 #[.int .u8 b] w fun e w' => e = .returned (.bool (signB b)) ∧ w' = w := by
  have h : (32 ≤ (b : Int) ∧ (b : Int) ≤ 126) ∨ ¬ (32 ≤ (b : Int)) ∨ ¬ ((b : Int) ≤ 126) := by omega
  rcases h with ⟨h1, h2⟩ | h1 | h1
  all_goals
    go_enter Try.func48, Try.ntmps48
    go_wp2
    go_ret
    refine ⟨?_, rfl⟩
    unfold signB
    refine congrArg (fun r => Ending.returned (.bool r)) ?_
    simp; omega
theorem refHex_any (b : Nat) (w : World) (hb : (b : Int) ≤ 255) :
    Calls Try.prog 69 #[.int .u8 b] w fun e w' => e = .returned (.int .i64 (hexV b)) ∧ w' = w := by
  have h : (48 ≤ (b : Int) ∧ (b : Int) ≤ 57) ∨ (97 ≤ (b : Int) ∧ (b : Int) ≤ 102) ∨ (b : Int) < 48 ∨ (57 < (b : Int) ∧ (b : Int) < 97) ∨ 102 < (b : Int) := by omega
  have hz : hexV b = if 48 ≤ (b : Int) ∧ (b : Int) ≤ 57 then (b : Int) - 48 else if 97 ≤ (b : Int) ∧ (b : Int) ≤ 102 then (b : Int) - 87 else -1 := rfl
  rcases h with ⟨h1, h2⟩ | ⟨h1, h2⟩ | h1 | ⟨h1, h2⟩ | h1
  · rw [if_pos ⟨h1, h2⟩] at hz
    have hz := hid hz
    go_enter Try.func69, Try.ntmps69
    go_wp2
    go_ret
    exact ⟨by first | (rw [hz.out]; rfl) | rfl, rfl⟩
  · rw [if_neg (by omega), if_pos ⟨h1, h2⟩] at hz
    have hz := hid hz
    go_enter Try.func69, Try.ntmps69
    go_wp2
    go_ret
    exact ⟨by first | (rw [hz.out]; rfl) | rfl, rfl⟩
  all_goals
    rw [if_neg (by omega), if_neg (by omega)] at hz
    have hz := hid hz
    go_enter Try.func69, Try.ntmps69
    go_wp2
    go_ret
    exact ⟨by first | (rw [hz.out]; rfl) | rfl, rfl⟩

theorem refIn_any (s : ByteArray) (b : Nat) (w : World) (hb : (b : Int) ≤ 255) (hs : s.size ≤ 9223372036854775807) :
    Calls Try.prog 50 #[.string s, .int .u8 b] w fun e w' => e = .returned (.bool (inS s b)) ∧ w' = w := by
  go_enter Try.func50, Try.ntmps50
  go_wp2
  go_loop [5] (fun i => ∃ k : Nat, k ≤ s.size ∧ i = .int .i64 k ∧ Hid (inTo s b k = false)) (fun i => s.size - (intOf i).toNat)
  case atStart => exact ⟨0, Nat.zero_le _, rfl, hid rfl⟩
  case round =>
    obtain ⟨k, hk, rfl, hin⟩ := hrel
    by_cases hlt : k < s.size
    · have hsn := hid (inTo_succ s b k hlt)
      by_cases he : s[k].toNat = b
      · have hd : (((s[k].toNat : Nat) : Int) == (b : Int)) = true := beq_iff_eq.2 (by omega)
        have hh := hid (inS_hit s b k hlt he)
        have he := hid he
        go_wp2
        go_ret
        exact ⟨by rw [hh.out]; rfl, rfl⟩
      · have hd : (((s[k].toNat : Nat) : Int) == (b : Int)) = false := by rw [beq_eq_false_iff_ne]; omega
        have hx := hid (show inTo s b (k + 1) = false from by rw [hsn.out, hin.out]; simpa using he)
        clear he
        go_wp2
        go_round
        case rel => exact ⟨k + 1, by omega, by go_num, hx⟩
        case measure => simp [intOf]; omega
    · have hh := hid (inTo_all s b k (by omega))
      go_wp2
      go_ret
      exact ⟨by rw [← hh.out, hin.out]; rfl, rfl⟩
end Go.Proofs.Ytpndjehiacmngaa
