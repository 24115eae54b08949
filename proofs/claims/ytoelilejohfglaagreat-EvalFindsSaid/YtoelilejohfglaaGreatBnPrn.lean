/- Joined texts: PrnA PrnB PrnC PrnD PrnE PrnF PrnG PrnH PrnI PrnJ. -/
import Derived.Test.YtoelilejohfglaaGreatBunC
import Derived.Test.YtoelilejohfglaaGreatBunA
import Derived.Laws.BytesArg
import Derived.Deep.DrawnRows
import Derived.Test.YtoelilejohfglaaGreatBunD
import Derived.Deep.DeepCutAuto
import Derived.Test.YtoelilejohfglaaGreatBunF
namespace Go.Proofs.YtoelilejohfglaaGreat
open Go.RowKit
set_option linter.unusedVariables false
set_option linter.unusedSimpArgs false
attribute [local go_sem ↓] Go.wp_at_zero Go.wp_at_succ
def digS (n : Nat) : ByteArray := hexs.extract n (n + 1)
def byteS (b : Nat) : ByteArray := strOfNums [(b : Int)]
def writtenS (b : Nat) (ap : ByteArray) : ByteArray :=
 if signB b = false then (⟨#[92, 120]⟩ ++ digS (b / 16)) ++ digS (b % 16) else if inS ap b = true then ⟨#[92]⟩ ++ byteS b else byteS b
end Go.Proofs.YtoelilejohfglaaGreat
namespace Go.Proofs.YtoelilejohfglaaGreat
open Go.RowKit
set_option linter.unusedVariables false
set_option linter.unusedSimpArgs false
attribute [local go_sem ↓] Go.wp_at_zero Go.wp_at_succ
theorem digS_size (n : Nat) : (digS n).size ≤ 1 := by unfold digS; simp; omega
theorem byteS_size (b : Nat) : (byteS b).size = 1 := by unfold byteS; rw [strOfNums_size]; rfl
def decS (n : Nat) : ByteArray := if h : n < 10 then byteS (48 + n) else decS (n / 10) ++ byteS (48 + n % 10)
theorem decS_few {n : Nat} (h : n < 10) : decS n = byteS (48 + n) := by rw [decS, dif_pos h]
theorem decS_more {n : Nat} (h : ¬ n < 10) : decS n = decS (n / 10) ++ byteS (48 + n % 10) := by rw [decS, dif_neg h]
end Go.Proofs.YtoelilejohfglaaGreat
namespace Go.Proofs.YtoelilejohfglaaGreat
open Go.RowKit
set_option linter.unusedVariables false
set_option linter.unusedSimpArgs false
attribute [local go_sem ↓] Go.wp_at_zero Go.wp_at_succ
def outsideSet : ByteArray := ⟨#[92, 34, 63, 91]⟩
def runT (out : ByteArray) (r : Nat × Nat) : ByteArray :=
 let o1 := out ++ writtenS r.1 insideSet
 let o2 := if 1 < r.2 - r.1 then o1 ++ ⟨#[45]⟩ else o1
 if r.1 < r.2 then o2 ++ writtenS r.2 insideSet else o2
def runsT (rs : List (Nat × Nat)) : ByteArray := rs.foldl runT ⟨#[91]⟩
theorem writtenS_size (b : Nat) (ap : ByteArray) : 1 ≤ (writtenS b ap).size ∧ (writtenS b ap).size ≤ 4 := by
 unfold writtenS
 split
 ·rw [ByteArray.size_append, ByteArray.size_append]
  have h1 := digS_size (b / 16); have h2 := digS_size (b % 16)
  have h3 : (⟨#[92, 120]⟩ : ByteArray).size = 2 := rfl
  omega
 ·split
  ·rw [ByteArray.size_append, byteS_size]
   have h3 : (⟨#[92]⟩ : ByteArray).size = 1 := rfl
   omega
  ·rw [byteS_size]; omega
theorem runs_ok (x : Cls) (k : Nat) : ∀ r ∈ runsTo x k, r.1 ≤ r.2 ∧ r.2 < k := by
 induction k with
 | zero => intro r hr; simp [runsTo] at hr
 | succ k ih =>
  intro r hr
  rw [runsTo_succ] at hr
  unfold runsStep at hr
  split at hr
  ·split at hr
   ·rw [List.mem_append] at hr
    rcases hr with hr | hr
    ·have := ih r (List.dropLast_subset _ hr); omega
    ·simp only [List.mem_singleton] at hr
     subst hr
     have hl : (runsTo x k).getLastD (0, 0) ∈ (0, 0) :: runsTo x k := List.getLastD_mem_cons
     rw [List.mem_cons] at hl
     rcases hl with hl | hl
     ·rw [hl]; exact ⟨Nat.zero_le _, by simp⟩
     ·have := ih _ hl; exact ⟨by simp only []; omega, by simp⟩
   ·rw [List.mem_append] at hr
    rcases hr with hr | hr
    ·have := ih r hr; omega
    ·simp only [List.mem_singleton] at hr; subst hr; exact ⟨Nat.le_refl _, by simp⟩
  ·have := ih r hr; omega
theorem runs_nil (x : Cls) (k : Nat) : runsTo x k = [] ↔ ∀ i, i < k → x.getLsbD i = false := by
  induction k with
  | zero => constructor
            · intro _ i hi; omega
            · intro _; rfl
  | succ k ih =>
    rw [runsTo_succ]
    unfold runsStep
    by_cases hb : x.getLsbD k = true
    · rw [if_pos hb]
      constructor
      · intro h; exfalso; split at h <;> simp at h
      · intro h; have := h k (by omega); rw [hb] at this; cases this
    · rw [if_neg hb, ih]
      constructor
      · intro h i hi
        rcases Nat.lt_or_ge i k with h1 | h1
        · exact h i h1
        · have : i = k := by omega
          subst this; simpa using hb
      · intro h i hi; exact h i (by omega)
theorem runsC_nil (x : Cls) : runsC x = [] ↔ x = 0 := by
 unfold runsC
 rw [runs_nil]
 constructor
 ·intro h; exact cls_ext fun i hi => by rw [h i hi]; simp
 ·rintro rfl i hi; simp
theorem singleC_lt {x : Cls} {b : Nat} (h : singleC x = some b) : b < 256 := by
 unfold singleC at h
 cases hf : (List.range 256).find? fun b => x.getLsbD b with
 | none => rw [hf] at h; cases h
 | some q =>
  rw [hf] at h
  have hm := List.mem_of_find?_eq_some hf
  rw [List.mem_range] at hm
  simp only [Option.bind_some] at h
  split at h
  ·injection h with h; omega
  ·cases h
def elemS (x : Cls) : Option ByteArray :=
 if x = fullC then some ⟨#[63]⟩
 else match singleC x with
  | some b => some (writtenS b outsideSet)
  | none => if x = 0 then none else some (runsT (runsC x) ++ ⟨#[93]⟩)
end Go.Proofs.YtoelilejohfglaaGreat
namespace Go.Proofs.YtoelilejohfglaaGreat
open Go.RowKit
set_option linter.unusedVariables false
set_option linter.unusedSimpArgs false
attribute [local go_sem ↓] Go.wp_at_zero Go.wp_at_succ
end Go.Proofs.YtoelilejohfglaaGreat
namespace Go.Proofs.YtoelilejohfglaaGreat
open Go.RowKit
set_option linter.unusedVariables false
set_option linter.unusedSimpArgs false
attribute [local go_sem ↓] Go.wp_at_zero Go.wp_at_succ
def sgnS (kd : Int) : ByteArray := signSet.extract (kd.toNat - 1) kd.toNat
def elemD (x : Cls) : ByteArray := (elemS x).getD ByteArray.empty
def elemsT (xs : List Cls) : ByteArray := xs.foldl (fun out x => out ++ elemD x) ⟨#[34]⟩
def printS (kd n : Int) (xs : List Cls) : Option ByteArray :=
 if kd < 1 ∨ 8 < kd ∨ n < 0 ∨ 1000000 < n then none
 else if kd = 8 then (if n = 0 ∧ rightB xs 0 = true then some (elemsT xs ++ ⟨#[34]⟩) else none)
 else if 0 < xs.length then none
 else if 6 ≤ kd then some (sgnS kd ++ decS n.toNat)
 else if n = 0 then some (sgnS kd) else none
end Go.Proofs.YtoelilejohfglaaGreat
namespace Go.Proofs.YtoelilejohfglaaGreat
open Go.RowKit
set_option linter.unusedVariables false
set_option linter.unusedSimpArgs false
attribute [local go_sem ↓] Go.wp_at_zero Go.wp_at_succ
end Go.Proofs.YtoelilejohfglaaGreat
namespace Go.Proofs.YtoelilejohfglaaGreat
open Go.RowKit
set_option linter.unusedVariables false
set_option linter.unusedSimpArgs false
attribute [local go_sem ↓] Go.wp_at_zero Go.wp_at_succ
end Go.Proofs.YtoelilejohfglaaGreat
namespace Go.Proofs.YtoelilejohfglaaGreat
open Go.RowKit
set_option linter.unusedVariables false
set_option linter.unusedSimpArgs false
attribute [local go_sem ↓] Go.wp_at_zero Go.wp_at_succ
end Go.Proofs.YtoelilejohfglaaGreat
namespace Go.Proofs.YtoelilejohfglaaGreat
open Go.RowKit
set_option linter.unusedVariables false
set_option linter.unusedSimpArgs false
attribute [local go_sem ↓] Go.wp_at_zero Go.wp_at_succ
end Go.Proofs.YtoelilejohfglaaGreat
namespace Go.Proofs.YtoelilejohfglaaGreat
open Go.RowKit
set_option linter.unusedVariables false
set_option linter.unusedSimpArgs false
theorem printS_out {kd n : Int} {xs : List Cls} (h : kd < 1 ∨ 8 < kd ∨ n < 0 ∨ 1000000 < n) : printS kd n xs = none := by unfold printS; rw [if_pos h]
theorem printS_in {kd n : Int} {xs : List Cls} (h : ¬ (kd < 1 ∨ 8 < kd ∨ n < 0 ∨ 1000000 < n)) : printS kd n xs = (if kd = 8 then (if n = 0 ∧ rightB xs 0 = true then some (elemsT xs ++ ⟨#[34]⟩) else none)
 else if 0 < xs.length then none
 else if 6 ≤ kd then some (sgnS kd ++ decS n.toNat)
 else if n = 0 then some (sgnS kd) else none) := by unfold printS; rw [if_neg h]
end Go.Proofs.YtoelilejohfglaaGreat
