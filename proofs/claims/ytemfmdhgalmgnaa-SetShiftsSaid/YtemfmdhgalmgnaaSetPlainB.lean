/- Layer 15: the plain laws on rows of places, for SetNots, SetTells, SetShifts. -/
import Derived.Test.YtemfmdhgalmgnaaSetPlain
namespace Go.Proofs.Ytemfmdhgalmgnaa
set_option linter.unusedVariables false
theorem below_rising (k : Nat) : (below_ k).Pairwise (· < ·) := by
  induction k with
  | zero => exact List.Pairwise.nil
  | succ k ih =>
    rw [below_succ, List.pairwise_append]
    refine ⟨ih, List.pairwise_singleton _ _, fun a ha b hb => ?_⟩
    simp at hb; subst hb
    unfold below_ at ha
    simp at ha
    obtain ⟨j, hj, rfl⟩ := ha; omega
theorem mem_below {k : Nat} {z : Int} : z ∈ below_ k ↔ 0 ≤ z ∧ z < k := by
  unfold below_
  simp only [List.mem_map, List.mem_range]
  constructor
  · rintro ⟨j, hj, rfl⟩; omega
  · rintro ⟨h1, h2⟩; exact ⟨z.toNat, by omega, by omega⟩
theorem right_kept {p : Int → Bool} {xs : List Int} : rightB (-1) (keptL p xs) = true := by
  unfold keptL
  split
  · rename_i h
    obtain ⟨h1, h2⟩ := right_iff.1 h
    exact right_iff.2 ⟨fun z hz => h1 z ((List.mem_filter.1 hz).1), h2.filter _⟩
  · rfl
theorem right_and (a b : List Int) : rightB (-1) (andL a b) = true := by
  unfold andL; split
  · exact right_kept
  · rfl
theorem right_below (a : List Int) (n : Int) : rightB (-1) (belowL a n) = true := right_kept
theorem right_not (a : List Int) (n : Int) : rightB (-1) (notL a n) = true := by
  unfold notL; split
  · refine right_iff.2 ⟨fun z hz => ?_, (below_rising _).filter _⟩
    have := (mem_below.1 ((List.mem_filter.1 hz).1)).1; omega
  · rfl
theorem right_or (a b : List Int) : rightB (-1) (orL a b) = true := by
  unfold orL; split
  · rename_i h
    simp only [Bool.and_eq_true] at h
    obtain ⟨a1, a2⟩ := right_iff.1 h.1
    obtain ⟨b1, b2⟩ := right_iff.1 h.2
    refine right_iff.2 ⟨fun z hz => ?_, merge_rising a2 b2⟩
    rcases mem_merge.1 hz with h | h
    · exact a1 z h
    · exact b1 z h
  · rfl
theorem right_shift (a : List Int) (n : Int) : rightB (-1) (shiftL a n) = true := by
  unfold shiftL; split
  · rfl
  · obtain ⟨h1, h2⟩ := right_iff.1 (right_kept (p := fun x => decide (n ≤ x)) (xs := a))
    refine right_iff.2 ⟨fun z hz => ?_, ?_⟩
    · obtain ⟨y, hy, rfl⟩ := List.mem_map.1 hz
      have := (keptL_nonneg y hy).2.2
      simp at this; omega
    · rw [List.pairwise_map]; exact h2.imp (fun h => by omega)
theorem mem_and {a b : List Int} (ha : rightB (-1) a = true) (hb : rightB (-1) b = true) {z : Int} : z ∈ andL a b ↔ z ∈ a ∧ z ∈ b := by
  unfold andL keptL; rw [if_pos hb, if_pos ha, List.mem_filter]; simp
theorem mem_or {a b : List Int} (ha : rightB (-1) a = true) (hb : rightB (-1) b = true) {z : Int} : z ∈ orL a b ↔ z ∈ a ∨ z ∈ b := by
  unfold orL; rw [ha, hb]; simp only [Bool.and_self, if_true]; exact mem_merge
theorem mem_not {a : List Int} {n : Int} (ha : rightB (-1) a = true) {z : Int} : z ∈ notL a n ↔ (0 ≤ z ∧ z < clip n) ∧ z ∉ a := by
  have : notL a n = (below_ (clip n)).filter (fun x => !decide (x ∈ a)) := by unfold notL; rw [if_pos ha]; rfl
  rw [this, List.mem_filter, mem_below]; simp
theorem mem_belowL {a : List Int} {n : Int} (ha : rightB (-1) a = true) {z : Int} : z ∈ belowL a n ↔ z ∈ a ∧ z < n := by
  unfold belowL keptL; rw [if_pos ha, List.mem_filter]; simp
theorem not_and {a b : List Int} (ha : rightB (-1) a = true) (hb : rightB (-1) b = true) (n : Int) : notL (andL a b) n = orL (notL a n) (notL b n) :=
  rising_ext (right_iff.1 (right_not _ _)).2 (right_iff.1 (right_or _ _)).2 fun z => by
    rw [mem_not (right_and a b), mem_or (right_not a n) (right_not b n), mem_not ha, mem_not hb, mem_and ha hb]; grind
theorem not_or {a b : List Int} (ha : rightB (-1) a = true) (hb : rightB (-1) b = true) (n : Int) : notL (orL a b) n = andL (notL a n) (notL b n) :=
  rising_ext (right_iff.1 (right_not _ _)).2 (right_iff.1 (right_and _ _)).2 fun z => by
    rw [mem_not (right_or a b), mem_and (right_not a n) (right_not b n), mem_not ha, mem_not hb, mem_or ha hb]; grind
theorem not_not {a : List Int} (ha : rightB (-1) a = true) {n : Int} (h0 : 0 ≤ n) (h1 : n ≤ 1000) : notL (notL a n) n = belowL a n :=
  rising_ext (right_iff.1 (right_not _ _)).2 (right_iff.1 (right_below _ _)).2 fun z => by
    have hc : (clip n : Int) = n := by unfold clip; omega
    have hz := (right_iff.1 ha).1 z
    rw [mem_not (right_not a n), mem_not ha, mem_belowL ha, hc]
    constructor
    · rintro ⟨⟨h1, h2⟩, h3⟩
      refine ⟨?_, h2⟩
      apply Classical.byContradiction
      intro h4; exact h3 ⟨⟨h1, h2⟩, h4⟩
    · rintro ⟨h1, h2⟩
      have := hz h1
      exact ⟨⟨by omega, h2⟩, fun h => h.2 h1⟩
theorem len_and_or {a b : List Int} (ha : rightB (-1) a = true) (hb : rightB (-1) b = true) : (andL a b).length + (orL a b).length = a.length + b.length := by
  have h1 : andL a b = a.filter (fun x => decide (x ∈ b)) := by unfold andL keptL; rw [if_pos hb, if_pos ha]
  have h2 : orL a b = mergeL a b := by unfold orL; rw [ha, hb]; rfl
  rw [h1, h2]
  have pa := (right_iff.1 ha).2
  have pb := (right_iff.1 hb).2
  clear h1 h2 ha hb
  fun_induction mergeL a b with
  | case1 ys => simp
  | case2 x xs => simp
  | case3 x xs y ys hxy ih =>
    have p1 := List.pairwise_cons.1 pa
    have p2 := List.pairwise_cons.1 pb
    have := ih p1.2 pb
    have hn : x ∉ y :: ys := by
      intro h; rcases List.mem_cons.1 h with rfl | h
      · omega
      · have := p2.1 x h; omega
    rw [List.filter_cons, if_neg (by simpa using hn)]
    simp only [List.length_cons] at this ⊢; omega
  | case4 x xs y ys hxy hyx ih =>
    have p1 := List.pairwise_cons.1 pa
    have p2 := List.pairwise_cons.1 pb
    have := ih pa p2.2
    have hf : (x :: xs).filter (fun z => decide (z ∈ y :: ys)) = (x :: xs).filter (fun z => decide (z ∈ ys)) := by
      apply List.filter_congr
      intro z hz
      have : z ≠ y := by
        rcases List.mem_cons.1 hz with rfl | h
        · omega
        · have := p1.1 z h; omega
      simp [this]
    rw [hf]
    simp only [List.length_cons] at this ⊢; omega
  | case5 x xs y ys hxy hyx ih =>
    have e : x = y := by omega
    subst e
    have p1 := List.pairwise_cons.1 pa
    have p2 := List.pairwise_cons.1 pb
    have := ih p1.2 p2.2
    have hf : xs.filter (fun z => decide (z ∈ x :: ys)) = xs.filter (fun z => decide (z ∈ ys)) := by
      apply List.filter_congr
      intro z hz
      have : z ≠ x := by have := p1.1 z hz; omega
      simp [this]
    rw [List.filter_cons, if_pos (by simp), hf]
    simp only [List.length_cons] at this ⊢; omega
theorem bad_and_or {a b : List Int} (h : ¬ (rightB (-1) a = true ∧ rightB (-1) b = true)) : andL a b = [] ∧ orL a b = [] := by
  unfold andL orL keptL
  cases ha : rightB (-1) a <;> cases hb : rightB (-1) b <;> simp_all
theorem shift_shift (a : List Int) {m n : Int} (hm : 0 ≤ m) (hn : 0 ≤ n) : shiftL (shiftL a m) n = shiftL a (m + n) := by
  have h1 : ∀ (l : List Int) (k : Int), 0 ≤ k → rightB (-1) l = true → shiftL l k = (l.filter (fun x => decide (k ≤ x))).map (fun x => x - k) := by
    intro l k hk hl; unfold shiftL keptL; rw [if_neg (by omega), if_pos hl]
  by_cases ha : rightB (-1) a = true
  · rw [h1 _ n hn (right_shift a m), h1 a m hm ha, h1 a (m + n) (by omega) ha, List.filter_map, List.filter_filter, List.map_map]
    have e1 : a.filter (fun x => ((fun x => decide (n ≤ x)) ∘ fun x => x - m) x && decide (m ≤ x)) = a.filter (fun x => decide (m + n ≤ x)) := by
      apply List.filter_congr
      intro x _
      simp only [Function.comp]
      by_cases h : m + n ≤ x <;> simp [h] <;> omega
    rw [e1]
    apply List.map_congr_left
    intro x _; simp; omega
  · have h2 : ∀ k, shiftL a k = [] := by intro k; unfold shiftL keptL; rw [if_neg ha]; simp
    rw [h2 m, h2 (m + n)]
    unfold shiftL keptL; simp [rightB]
/-- What is moved is the end of the row. -/
theorem shift_drop {a : List Int} (ha : rightB (-1) a = true) {k : Int} (hk : 0 ≤ k) : ∃ j, j ≤ a.length ∧ shiftL a k = (a.drop j).map (fun x => x - k) := by
  have h1 : shiftL a k = (a.filter (fun x => decide (k ≤ x))).map (fun x => x - k) := by unfold shiftL keptL; rw [if_neg (by omega), if_pos ha]
  rw [h1]
  have pa := (right_iff.1 ha).2
  clear h1 ha
  induction a with
  | nil => exact ⟨0, by simp, rfl⟩
  | cons x xs ih =>
    have p := List.pairwise_cons.1 pa
    by_cases hx : k ≤ x
    · refine ⟨0, by simp, ?_⟩
      have : (x :: xs).filter (fun x => decide (k ≤ x)) = x :: xs := by
        rw [List.filter_eq_self]
        intro z hz
        rcases List.mem_cons.1 hz with rfl | h
        · simpa using hx
        · have := p.1 z h; simp; omega
      rw [this, List.drop_zero]
    · obtain ⟨j, hj, e⟩ := ih p.2
      refine ⟨j + 1, by simp; omega, ?_⟩
      rw [List.filter_cons, if_neg (by simpa using hx)]
      exact e
end Go.Proofs.Ytemfmdhgalmgnaa
