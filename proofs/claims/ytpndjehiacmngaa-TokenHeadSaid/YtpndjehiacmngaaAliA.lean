/- Layer 13's laws: what the two texts of 'alive' are read as. -/
import Derived.Test.YtpndjehiacmngaaTokP
import Derived.Test.YtpndjehiacmngaaPrnC
import Derived.Test.YtpndjehiacmngaaRefE
namespace Go.Proofs.Ytpndjehiacmngaa
open Go.RowKit
set_option linter.unusedVariables false
def sA : ByteArray := ⟨#[34, 97, 63, 91, 98, 45, 100, 93, 34, 126, 50]⟩
def sB : ByteArray := ⟨#[34, 91, 94, 92, 120, 48, 48, 45, 92, 120, 102, 102, 93, 34]⟩
def tA1 : Tok := ⟨8, 0, 0, [BitVec.twoPow 256 97, fullC, rangeC 98 100]⟩
def tA2 : Tok := ⟨7, 9, 2, []⟩
theorem bd_ne : rangeC 98 100 ≠ 0 := by
  intro h
  have : (rangeC 98 100).getLsbD 98 = (0 : Cls).getLsbD 98 := by rw [h]
  rw [show (rangeC 98 100).getLsbD 98 = true from by unfold rangeC; rw [setC_get _ (by decide)]; rfl] at this
  simp at this
theorem finC_none (op n b : Nat) (x : Cls) (h : ~~~ x = 0) : finC true op (.ok (x, n) b) = .bad op 132 := by
  show (if n = 0 ∨ ~~~ x = 0 then Rd.bad op 132 else Rd.ok (~~~ x) b) = _
  rw [if_pos (.inr h)]
theorem clsA : ClassRun sA 4 0 0 (.ok (rangeC 98 100, 1) 8) := by
  refine ClassRun.two (v := 98) (b := 5) (u := 100) (d := 7) (by intro h; exact absurd h.2 (by decide +kernel)) (by kernel_rfl) ⟨by decide, by decide +kernel⟩ (by kernel_rfl) (by decide) ?_
  rw [show (0 : Cls) ||| rangeC 98 100 = rangeC 98 100 from by simp]
  exact ClassRun.stop (by decide) (by decide +kernel)
theorem elA3 : ElemRd sA 3 (.ok (rangeC 98 100) 8) := by
  have h := ElemRd.cls (s := sA) (a := 3) (by decide +kernel) (show ClassRun sA (beginS sA 3) 0 0 _ from by
    rw [show beginS sA 3 = 4 from by decide +kernel]; exact clsA)
  rw [show negS sA 3 = false from by decide +kernel] at h
  have e : finC false 3 (.ok (rangeC 98 100, 1) 8) = .ok (rangeC 98 100) 8 := by
    show (if 1 = 0 ∨ rangeC 98 100 = 0 then Rd.bad 3 132 else Rd.ok (rangeC 98 100) 8) = _
    rw [if_neg (by intro h; rcases h with h | h; exact absurd h (by decide); exact bd_ne h)]
  rw [e] at h; exact h
theorem elA1 : ElemRd sA 1 (.ok (BitVec.twoPow 256 97) 2) := by
  have h := ElemRd.byte (s := sA) (a := 1) (by decide +kernel) (by decide +kernel)
  rw [show oneS ByteArray.empty 130 sA 1 = .ok 97 2 from by kernel_rfl] at h; exact h
theorem lexA : LexRun sA 0 [] (.ok [tA1, tA2] 11) := by
  refine LexRun.step (t := tA1) (b := 9) (by decide) (by decide +kernel) ?_ ?_
  · refine TokRd.pat (R := .ok [BitVec.twoPow 256 97, fullC, rangeC 98 100] 9) (by decide +kernel) ?_
    refine PatRun.step (by decide) (by decide +kernel) (by decide) elA1 ?_
    refine PatRun.step (b := 3) (by decide) (by decide +kernel) (by decide) (ElemRd.full (by decide +kernel)) ?_
    refine PatRun.step (by decide) (by decide +kernel) (by decide) elA3 ?_
    exact PatRun.close (by decide) (by decide +kernel) (by decide)
  · refine LexRun.step (t := tA2) (b := 11) (by decide) (by decide +kernel) ?_ ?_
    · have h := TokRd.num (s := sA) (a := 9) (k := 7) (m := 1) (by decide +kernel) (by decide +kernel) (by decide) ⟨fun j hj => by
        obtain rfl : j = 0 := by omega
        unfold isDig; decide +kernel, by unfold isDig; decide +kernel⟩
      rw [show numS sA (9 + 1) 1 = .ok 2 11 from by kernel_rfl] at h; exact h
    · exact LexRun.stop (by decide)
theorem full_zero : rangeC 0 255 = fullC := range_full
theorem lexB : LexRun sB 0 [] (.bad 1 132) := by
  refine LexRun.bad (by decide) (by decide +kernel) ?_
  refine TokRd.pat (R := .bad 1 132) (by decide +kernel) ?_
  refine PatRun.bad (by decide) (by decide +kernel) (by decide) ?_
  have h := ElemRd.cls (s := sB) (a := 1) (R := .ok (rangeC 0 255, 1) 13) (by decide +kernel) (by
    rw [show beginS sB 1 = 3 from by decide +kernel]
    refine ClassRun.two (v := 0) (b := 7) (u := 255) (d := 12) (by intro h; exact absurd h.2 (by decide +kernel)) (by kernel_rfl) ⟨by decide, by decide +kernel⟩ (by kernel_rfl) (by decide) ?_
    rw [show (0 : Cls) ||| rangeC 0 255 = rangeC 0 255 from by simp]
    exact ClassRun.stop (by decide) (by decide +kernel))
  rw [show negS sB 1 = true from by decide +kernel] at h
  have e : finC true 1 (.ok (rangeC 0 255, 1) 13) = .bad 1 132 := finC_none 1 1 13 _ (by rw [full_zero, ← fullC_eq]; simp)
  rw [e] at h; exact h
theorem elemA : elemV (rangeC 98 100) = #[.string ⟨#[91, 98, 45, 100, 93]⟩, .bool true] := by kernel_rfl
end Go.Proofs.Ytpndjehiacmngaa
