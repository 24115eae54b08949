/- Layer 15: few, alive. -/
import Derived.Test.YtemfmdhgalmgnaaSetPlain
namespace Go.Proofs.Ytemfmdhgalmgnaa
open Go.RowKit
set_option linter.unusedVariables false
theorem aL1 : andL [1, 3, 5] [3, 4, 5] = [3, 5] := by decide
theorem aL2 : orL [1, 3, 5] [3, 4, 5] = [1, 3, 4, 5] := by simp [orL, rightB, mergeL]
theorem aL3 : notL [1, 3, 5] 5 = [0, 2, 4] := by decide
theorem aL4 : shiftL [1, 3, 5] 2 = [1, 3] := by decide
theorem aL5 : belowL [1, 3, 5] 5 = [1, 3] := by decide
theorem aL6 : orL [2, 1] [3, 4, 5] = [] := by simp [orL, rightB]

/-- A row that is told reads as the list. -/
theorem GivesInts.out {b : Nat} {w : World} {e : Ending} {xs : List Int} (h : GivesInts b w e xs) : ∃ A c, e = .returned (.slice A xs.length c) ∧ IntsAt (fun k => b ≤ k ∧ k < w.heap.size) w A xs.length c xs := by
  obtain ⟨A, c, he, hown⟩ := h
  exact ⟨A, c, he, (ElsAt.of_own (d := (0 : Int)) hown).mono (fun k hk h => ⟨h.2, hk⟩)⟩
/-- Blocks below a number. -/
def Lt (n : Nat) : Nat → Prop := fun k => k < n
theorem ltF {m n : Nat} (h : m ≤ n) : ∀ k, Lt m k → k < n := fun k hk => Nat.lt_of_lt_of_le hk h
theorem newInts (w : World) (xs : List Int) (n : Nat) (hn : xs.length = n) (hm : n ≤ 9223372036854775807) : IntsAt (Lt (w.heap.size + 1)) (w.alloc (.cells (xs.map (Value.int .i64)).toArray 3)) (some ⟨w.heap.size, 0, none⟩) n n xs :=
  ElsAt.new w _ _ xs n rfl hn hm (by unfold Lt; omega)
theorem chgN {w w' : World} (h : Chg Nothing w w') {F : Nat → Prop} {A : Option Addr} {n c : Nat} {xs : List Int} (hI : IntsAt F w A n c xs) : IntsAt F w' A n c xs := hI.chg h (fun _ _ _ h => h)

set_option maxHeartbeats 400000 in
theorem fewS_yes (A : Option Addr) (n c : Nat) (w : World) (h : (n : Int) ≤ 200) :
    Calls Try.prog 15 #[.slice A n c] w fun e w' => e = .returned (.bool true) ∧ w = w' := by
  go_enter Try.func15, Try.ntmps15
  go_wp2_with fail
  go_ret
  exact ⟨by simp, rfl⟩
set_option maxHeartbeats 400000 in
theorem fewS_no (A : Option Addr) (n c : Nat) (w : World) (h : (200 : Int) < n) :
    Calls Try.prog 15 #[.slice A n c] w fun e w' => e = .returned (.bool false) ∧ w = w' := by
  go_enter Try.func15, Try.ntmps15
  go_wp2_with fail
  go_ret
  exact ⟨by simp [h], rfl⟩

theorem setRight_chg {F : Nat → Prop} {A : Option Addr} {n c : Nat} {xs : List Int} {w : World} (h : IntsAt F w A n c xs) {r : Bool} (hr : rightB (-1) xs = r) :
    Calls Try.prog 17 #[.slice A n c] w fun e w' => e = .returned (.bool r) ∧ Chg Nothing w w' := by
  refine (setRight_any F A n c xs w h).mono ?_
  rintro e w' ⟨rfl, rfl⟩
  exact ⟨by rw [hr], Chg.refl _ _⟩
/-- The places that are told are those of a literal. -/
theorem places_yes {F G : Nat → Prop} {A B : Option Addr} {n c m d : Nat} {xs ys : List Int} {w : World} (h : IntsAt F w A n c xs) (h' : IntsAt G w B m d ys) (e : xs = ys) :
    Calls Try.prog 21 #[.slice A n c, .slice B m d] w fun e w' => e = .returned (.bool true) ∧ Chg Nothing w w' := by
  refine (places_any F G A B n c m d xs ys w h h').mono ?_
  rintro e w' ⟨rfl, q, rfl⟩
  exact ⟨by simp [e], (Chg.refl _ _).drewN q⟩

set_option maxHeartbeats 4000000 in
set_option maxRecDepth 100000 in
theorem aliveS (w : World) : Calls Try.prog 16 #[] w fun e w' => e = .returned (.bool true) ∧ Chg Nothing w w' := by
  have a1 := hid (newInts w [1, 3, 5] 3 rfl (by omega))
  have b1 := hid (newInts (w.alloc (.cells ([1, 3, 5].map (Value.int .i64)).toArray 3)) [3, 4, 5] 3 rfl (by omega))
  go_enter Try.func16, Try.ntmps16
  go_wp2_with fail
  have hA := chgN ((Chg.refl Nothing _).alloc (.cells ([3, 4, 5].map (Value.int .i64)).toArray 3)) a1.out
  have hB := b1.out
  rw [World.size_alloc] at hB
  have hC := ((Chg.refl Nothing w).alloc (.cells ([1, 3, 5].map (Value.int .i64)).toArray 3)).alloc (.cells ([3, 4, 5].map (Value.int .i64)).toArray 3)
  have hs : w.heap.size + 2 ≤ ((w.alloc (.cells ([1, 3, 5].map (Value.int .i64)).toArray 3)).alloc (.cells ([3, 4, 5].map (Value.int .i64)).toArray 3)).heap.size := by simp [World.size_alloc]
  clear a1 b1
  refine (setRight_chg hA (r := true) (by decide)).mono ?_
  rintro e W ⟨rfl, hc⟩
  replace hA := hid (chgN hc hA)
  replace hB := hid (chgN hc hB)
  replace hC := hC.trans hc
  replace hs := Nat.le_trans hs hc.size
  clear hc
  go_wp2_with fail
  refine (setRight_chg (newInts W [1, 1] 2 rfl (by omega)) (r := false) (by decide)).mono ?_
  rintro e W' ⟨rfl, hc⟩
  have hk := (Chg.alloc (Chg.refl Nothing W) (.cells ([1, 1].map (Value.int .i64)).toArray 3)).trans hc
  replace hA := hid (chgN hk hA.out)
  replace hB := hid (chgN hk hB.out)
  replace hC := hC.trans hk
  replace hs := Nat.le_trans hs hk.size
  clear hc hk
  go_wp2_with fail
  refine (setRight_chg (newInts W' [-1] 1 rfl (by omega)) (r := false) (by decide)).mono ?_
  rintro e W'' ⟨rfl, hc⟩
  have hk := (Chg.alloc (Chg.refl Nothing W') (.cells ([-1].map (Value.int .i64)).toArray 3)).trans hc
  replace hA := hid (chgN hk hA.out)
  replace hB := hid (chgN hk hB.out)
  replace hC := hC.trans hk
  replace hs := Nat.le_trans hs hk.size
  clear hc hk
  go_wp2_with fail
  refine (setAnd_any _ _ _ _ _ _ _ _ [1, 3, 5] [3, 4, 5] _ hA.out hB.out (ltF (by omega)) (ltF (by omega)) (by omega)).mono ?_
  rintro e W''' ⟨hg, hc⟩
  rw [aL1] at hg
  obtain ⟨X, cx, rfl, hX⟩ := hg.out
  simp only [List.length_cons, List.length_nil, Nat.reduceAdd] at hX ⊢
  replace hA := hid (chgN hc hA.out)
  replace hB := hid (chgN hc hB.out)
  replace hC := hC.trans hc
  replace hs := Nat.le_trans hs hc.size
  clear hc hg
  replace hX := hid hX
  go_wp2_with fail
  refine (places_yes (chgN ((Chg.refl Nothing W''').alloc (.cells ([3, 5].map (Value.int .i64)).toArray 3)) hX.out) (newInts W''' [3, 5] 2 rfl (by omega)) rfl).mono ?_
  rintro e W'''' ⟨rfl, hc⟩
  have hk := ((Chg.refl Nothing W''').alloc (.cells ([3, 5].map (Value.int .i64)).toArray 3)).trans hc
  replace hA := hid (chgN hk hA.out)
  replace hB := hid (chgN hk hB.out)
  replace hC := hC.trans hk
  replace hs := Nat.le_trans hs hk.size
  clear hc hk hX
  go_wp2_with fail
  refine (setOr_any _ _ _ _ _ _ _ _ [1, 3, 5] [3, 4, 5] _ hA.out hB.out (ltF (by omega)) (ltF (by omega)) (by omega) (by omega)).mono ?_
  rintro e W''''' ⟨hg, hc⟩
  rw [aL2] at hg
  obtain ⟨X, cx, rfl, hX⟩ := hg.out
  simp only [List.length_cons, List.length_nil, Nat.reduceAdd] at hX ⊢
  replace hA := hid (chgN hc hA.out)
  replace hB := hid (chgN hc hB.out)
  replace hC := hC.trans hc
  replace hs := Nat.le_trans hs hc.size
  clear hc hg
  replace hX := hid hX
  go_wp2_with fail
  refine (places_yes (chgN ((Chg.refl Nothing W''''').alloc (.cells ([1, 3, 4, 5].map (Value.int .i64)).toArray 3)) hX.out) (newInts W''''' [1, 3, 4, 5] 4 rfl (by omega)) rfl).mono ?_
  rintro e W'''''' ⟨rfl, hc⟩
  have hk := ((Chg.refl Nothing W''''').alloc (.cells ([1, 3, 4, 5].map (Value.int .i64)).toArray 3)).trans hc
  replace hA := hid (chgN hk hA.out)
  replace hB := hid (chgN hk hB.out)
  replace hC := hC.trans hk
  replace hs := Nat.le_trans hs hk.size
  clear hc hk hX
  go_wp2_with fail
  refine (setNot_any _ _ _ _ [1, 3, 5] 5 _ hA.out (ltF (by omega))).mono ?_
  rintro e W''''''' ⟨hg, hc⟩
  rw [aL3] at hg
  obtain ⟨X, cx, rfl, hX⟩ := hg.out
  simp only [List.length_cons, List.length_nil, Nat.reduceAdd] at hX ⊢
  replace hA := hid (chgN hc hA.out)
  replace hB := hid (chgN hc hB.out)
  replace hC := hC.trans hc
  replace hs := Nat.le_trans hs hc.size
  clear hc hg
  replace hX := hid hX
  go_wp2_with fail
  refine (places_yes (chgN ((Chg.refl Nothing W''''''').alloc (.cells ([0, 2, 4].map (Value.int .i64)).toArray 3)) hX.out) (newInts W''''''' [0, 2, 4] 3 rfl (by omega)) rfl).mono ?_
  rintro e W'''''''' ⟨rfl, hc⟩
  have hk := ((Chg.refl Nothing W''''''').alloc (.cells ([0, 2, 4].map (Value.int .i64)).toArray 3)).trans hc
  replace hA := hid (chgN hk hA.out)
  replace hB := hid (chgN hk hB.out)
  replace hC := hC.trans hk
  replace hs := Nat.le_trans hs hk.size
  clear hc hk hX
  go_wp2_with fail
  refine (setShift_any _ _ _ _ [1, 3, 5] 2 _ hA.out (ltF (by omega)) (by omega) (by omega) (by decide)).mono ?_
  rintro e W''''''''' ⟨hg, hc⟩
  rw [aL4] at hg
  obtain ⟨X, cx, rfl, hX⟩ := hg.out
  simp only [List.length_cons, List.length_nil, Nat.reduceAdd] at hX ⊢
  replace hA := hid (chgN hc hA.out)
  replace hB := hid (chgN hc hB.out)
  replace hC := hC.trans hc
  replace hs := Nat.le_trans hs hc.size
  clear hc hg
  replace hX := hid hX
  go_wp2_with fail
  refine (places_yes (chgN ((Chg.refl Nothing W''''''''').alloc (.cells ([1, 3].map (Value.int .i64)).toArray 3)) hX.out) (newInts W''''''''' [1, 3] 2 rfl (by omega)) rfl).mono ?_
  rintro e W'''''''''' ⟨rfl, hc⟩
  have hk := ((Chg.refl Nothing W''''''''').alloc (.cells ([1, 3].map (Value.int .i64)).toArray 3)).trans hc
  replace hA := hid (chgN hk hA.out)
  replace hB := hid (chgN hk hB.out)
  replace hC := hC.trans hk
  replace hs := Nat.le_trans hs hk.size
  clear hc hk hX
  go_wp2_with fail
  refine (setBelow_any _ _ _ _ [1, 3, 5] 5 _ hA.out (ltF (by omega)) (by omega)).mono ?_
  rintro e W''''''''''' ⟨hg, hc⟩
  rw [aL5] at hg
  obtain ⟨X, cx, rfl, hX⟩ := hg.out
  simp only [List.length_cons, List.length_nil, Nat.reduceAdd] at hX ⊢
  replace hA := hid (chgN hc hA.out)
  replace hB := hid (chgN hc hB.out)
  replace hC := hC.trans hc
  replace hs := Nat.le_trans hs hc.size
  clear hc hg
  replace hX := hid hX
  go_wp2_with fail
  refine (places_yes (chgN ((Chg.refl Nothing W''''''''''').alloc (.cells ([1, 3].map (Value.int .i64)).toArray 3)) hX.out) (newInts W''''''''''' [1, 3] 2 rfl (by omega)) rfl).mono ?_
  rintro e W'''''''''''' ⟨rfl, hc⟩
  have hk := ((Chg.refl Nothing W''''''''''').alloc (.cells ([1, 3].map (Value.int .i64)).toArray 3)).trans hc
  replace hA := hid (chgN hk hA.out)
  replace hB := hid (chgN hk hB.out)
  replace hC := hC.trans hk
  replace hs := Nat.le_trans hs hk.size
  clear hc hk hX
  go_wp2_with fail
  refine (setOr_any _ _ _ _ _ _ _ _ [2, 1] [3, 4, 5] _ (newInts W'''''''''''' [2, 1] 2 rfl (by omega)) (chgN ((Chg.refl Nothing W'''''''''''').alloc (.cells ([2, 1].map (Value.int .i64)).toArray 3)) hB.out) (ltF (by rw [World.size_alloc]; omega)) (ltF (by rw [World.size_alloc]; omega)) (by omega) (by omega)).mono ?_
  rintro e V ⟨hg, hc⟩
  rw [aL6] at hg
  obtain ⟨X, cx, rfl, hX⟩ := hg.out
  have hk := ((Chg.refl Nothing W'''''''''''').alloc (.cells ([2, 1].map (Value.int .i64)).toArray 3)).trans hc
  replace hC := hC.trans hk
  clear hc hk hX hg
  go_wp2
  go_ret
  exact ⟨rfl, hC⟩
end Go.Proofs.Ytemfmdhgalmgnaa
