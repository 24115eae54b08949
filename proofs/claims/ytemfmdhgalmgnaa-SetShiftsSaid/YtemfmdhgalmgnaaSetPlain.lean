/- Layer 15: the plain laws on rising rows. -/
import Derived.Test.YtemfmdhgalmgnaaSetE
import Derived.Test.YtemfmdhgalmgnaaSetG
import Derived.Test.YtemfmdhgalmgnaaSetC
namespace Go.Proofs.Ytemfmdhgalmgnaa
set_option linter.unusedVariables false
theorem right_iff {a : Int} {xs : List Int} : rightB a xs = true ↔ (∀ z ∈ xs, a < z) ∧ xs.Pairwise (· < ·) := by
  constructor
  · intro h
    refine ⟨rightB_lt h, ?_⟩
    induction xs generalizing a with
    | nil => exact List.Pairwise.nil
    | cons z zs ih =>
      simp only [rightB] at h
      split at h
      · cases h
      · exact List.pairwise_cons.2 ⟨fun u hu => rightB_lt h u hu, ih h⟩
  · induction xs generalizing a with
    | nil => intro _; rfl
    | cons z zs ih =>
      rintro ⟨h1, h2⟩
      have hp := List.pairwise_cons.1 h2
      simp only [rightB]
      rw [if_neg (by have := h1 z (by simp); omega)]
      exact ih ⟨hp.1, hp.2⟩
/-- Two rising rows of the same numbers are the same. -/
theorem rising_ext {xs ys : List Int} (h1 : xs.Pairwise (· < ·)) (h2 : ys.Pairwise (· < ·)) (h : ∀ z, z ∈ xs ↔ z ∈ ys) : xs = ys := by
  induction xs generalizing ys with
  | nil =>
    cases ys with
    | nil => rfl
    | cons y ys => have := (h y).2 (by simp); simp at this
  | cons x xs ih =>
    cases ys with
    | nil => have := (h x).1 (by simp); simp at this
    | cons y ys =>
      have p1 := List.pairwise_cons.1 h1
      have p2 := List.pairwise_cons.1 h2
      have hxy : x = y := by
        have a := (h x).1 (by simp)
        have b := (h y).2 (by simp)
        simp only [List.mem_cons] at a b
        rcases a with rfl | a
        · rfl
        · rcases b with rfl | b
          · rfl
          · have := p2.1 x a; have := p1.1 y b; omega
      subst hxy
      congr 1
      refine ih p1.2 p2.2 fun z => ?_
      have hz := h z
      simp only [List.mem_cons] at hz
      constructor
      · intro hm
        rcases hz.1 (.inr hm) with rfl | h
        · have := p1.1 z hm; omega
        · exact h
      · intro hm
        rcases hz.2 (.inr hm) with rfl | h
        · have := p2.1 z hm; omega
        · exact h
theorem mem_merge {xs ys : List Int} {z : Int} : z ∈ mergeL xs ys ↔ z ∈ xs ∨ z ∈ ys := by
  fun_induction mergeL xs ys <;> simp_all <;> (try grind)
theorem merge_rising {xs ys : List Int} (h1 : xs.Pairwise (· < ·)) (h2 : ys.Pairwise (· < ·)) : (mergeL xs ys).Pairwise (· < ·) := by
  fun_induction mergeL xs ys with
  | case1 ys => exact h2
  | case2 x xs => exact h1
  | case3 x xs y ys hxy ih =>
    have p1 := List.pairwise_cons.1 h1
    have p2 := List.pairwise_cons.1 h2
    refine List.pairwise_cons.2 ⟨fun u hu => ?_, ih p1.2 h2⟩
    rcases mem_merge.1 hu with hu | hu
    · exact p1.1 u hu
    · rcases List.mem_cons.1 hu with rfl | hu
      · exact hxy
      · have := p2.1 u hu; omega
  | case4 x xs y ys hxy hyx ih =>
    have p1 := List.pairwise_cons.1 h1
    have p2 := List.pairwise_cons.1 h2
    refine List.pairwise_cons.2 ⟨fun u hu => ?_, ih h1 p2.2⟩
    rcases mem_merge.1 hu with hu | hu
    · rcases List.mem_cons.1 hu with rfl | hu
      · exact hyx
      · have := p1.1 u hu; omega
    · exact p2.1 u hu
  | case5 x xs y ys hxy hyx ih =>
    have p1 := List.pairwise_cons.1 h1
    have p2 := List.pairwise_cons.1 h2
    refine List.pairwise_cons.2 ⟨fun u hu => ?_, ih p1.2 p2.2⟩
    rcases mem_merge.1 hu with hu | hu
    · exact p1.1 u hu
    · have := p2.1 u hu; omega
/-- putGo over a rising row, once it went in: nothing happens any more. -/
theorem putGo_done {x : Int} {ys : List Int} (h : ∀ z ∈ ys, x < z) : putGo x ys true = ys := by
  induction ys with
  | nil => simp [putGo]
  | cons y ys ih =>
    have hy := h y (by simp)
    simp only [putGo]
    rw [if_neg (by simp), if_pos (by omega), Bool.true_or, ih (fun z hz => h z (by simp [hz]))]
    rfl
theorem putGo_merge {x : Int} {ys : List Int} (h : ys.Pairwise (· < ·)) : putGo x ys false = mergeL [x] ys := by
  induction ys with
  | nil => simp [putGo, mergeL_nil]
  | cons y ys ih =>
    have p := List.pairwise_cons.1 h
    simp only [putGo]
    rcases Int.lt_trichotomy x y with hxy | hxy | hxy
    · rw [if_pos ⟨by omega, trivial⟩, if_pos (by omega), mergeL_lt _ _ hxy, mergeL_nil', show (false || decide (x ≤ y)) = true from by simp; omega, putGo_done (fun z hz => by have := p.1 z hz; omega)]
      rfl
    · subst hxy
      rw [if_pos ⟨by omega, trivial⟩, if_neg (by simp), mergeL_eq, mergeL_nil', show (false || decide (x ≤ x)) = true from by simp, putGo_done (fun z hz => p.1 z hz)]
      rfl
    · rw [if_neg (by omega), if_pos (by omega), mergeL_gt _ _ hxy, show (false || decide (x ≤ y)) = false from by simp; omega, ih p.2]
      rfl
theorem orGo_rising {xs ys : List Int} (h1 : xs.Pairwise (· < ·)) : (orGo xs ys).Pairwise (· < ·) ∧ ∀ z, z ∈ orGo xs ys ↔ z ∈ xs ∨ z ∈ ys := by
  induction ys generalizing xs with
  | nil => exact ⟨h1, fun z => by simp [orGo]⟩
  | cons y ys ih =>
    have hm := putGo_merge (x := y) h1
    have hr : (putGo y xs false).Pairwise (· < ·) := by rw [hm]; exact merge_rising (List.pairwise_singleton _ _) h1
    obtain ⟨a, b⟩ := ih hr
    refine ⟨a, fun z => ?_⟩
    show z ∈ orGo (putGo y xs false) ys ↔ _
    rw [b z, hm, mem_merge]
    simp only [List.mem_cons, List.not_mem_nil, or_false]
    grind
theorem orR_eq (a b : List Int) : orR a b = orL a b := by
  unfold orR orL
  by_cases ha : rightB (-1) a = true
  · by_cases hb : rightB (-1) b = true
    · rw [ha, hb]
      simp only [Bool.and_self, if_true]
      have pa := (right_iff.1 ha).2
      have pb := (right_iff.1 hb).2
      obtain ⟨h1, h2⟩ := orGo_rising (ys := b) pa
      exact rising_ext h1 (merge_rising pa pb) (fun z => by rw [h2, mem_merge])
    · simp [hb]
  · simp [ha]
end Go.Proofs.Ytemfmdhgalmgnaa
