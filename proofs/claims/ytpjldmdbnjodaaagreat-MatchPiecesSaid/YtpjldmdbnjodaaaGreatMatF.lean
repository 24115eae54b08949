/- Layer 17: few, alive. -/
import Derived.Test.YtpjldmdbnjodaaaGreatBunZ
import Derived.Test.YtpjldmdbnjodaaaGreatBunF
import Derived.Test.YtpjldmdbnjodaaaGreatBunR
import Derived.Deep.RegionHeld3
namespace Go.Proofs.YtpjldmdbnjodaaaGreat
open Go.RowKit
set_option linter.unusedVariables false
set_option linter.unusedSimpArgs false
abbrev s17a : ByteArray := ⟨#[97, 98]⟩
abbrev s17b : ByteArray := ⟨#[97, 98, 98, 98]⟩
theorem dec17a : mF (textC s17a) 1 4 s17b 4 = [0, 1, 2] ∧ mN (textC s17a) 1 4 (s17b.size : Nat) 4 = 18 ∧ mE (textC s17a) 1 4 (s17b.size : Nat) 4 = 0 := by decide +kernel
theorem dec17b : mC (textC s17a) 1 5 s17b 0 = [0, 1, 1] ∧ mNc (textC s17a) 1 5 (s17b.size : Nat) 0 = 0 ∧ mEc (textC s17a) 1 5 (s17b.size : Nat) 0 = 0 := by decide +kernel
theorem dec17c : mF (textC s17a) 1 (chooseM (textC s17a) 1 (s17b.size : Nat) 4) s17b 4 = [0, 1, 2] ∧ mE (textC s17a) 1 (chooseM (textC s17a) 1 (s17b.size : Nat) 4) (s17b.size : Nat) 4 = 0 := by decide +kernel
theorem dec17d : mE (textC s17a) 1 3 (s17b.size : Nat) 4 = 170 := by decide +kernel
theorem dec17e : mE (textC s17a) 1 4 (s17b.size : Nat) 1 = 50 := by decide +kernel
theorem dec17f : mEc (textC s17a) 0 2 (s17a.size : Nat) 4 = 170 := by decide +kernel
theorem dec17g : mE [] 0 (chooseM [] 0 (s17a.size : Nat) 4) (s17a.size : Nat) 4 = 170 := by decide +kernel
theorem lit012m (w : World) : IntsAt (fun _ => True) (w.alloc (.cells #[.int .i64 0, .int .i64 1, .int .i64 2] 3)) (some ⟨w.heap.size, 0, none⟩) 3 3 [0, 1, 2] := ElsAt.new w _ _ _ 3 rfl rfl (by decide) trivial
theorem lit011m (w : World) : IntsAt (fun _ => True) (w.alloc (.cells #[.int .i64 0, .int .i64 1, .int .i64 1] 3)) (some ⟨w.heap.size, 0, none⟩) 3 3 [0, 1, 1] := ElsAt.new w _ _ _ 3 rfl rfl (by decide) trivial
theorem same_intsM {w' : World} {A B : Option Addr} {n c m d : Nat} {xs : List Int} {F G : Nat → Prop} (h : IntsAt F w' A n c xs) (h' : IntsAt G w' B m d xs) : Calls Tryz.prog 13 #[.slice A n c, .slice B m d] w' fun e w'' => e = .returned (.bool true) ∧ Chg Nothing w' w'' :=
  (samePlaces_any F G A B n c m d xs xs w' h h').mono (fun e w'' ⟨he, q, hq⟩ => ⟨by rw [he]; simp, hq ▸ (Chg.refl _ _).drewN q⟩)
set_option maxHeartbeats 4000000 in
set_option maxRecDepth 100000 in
theorem few17_any (A : Option Addr) (n c : Nat) (K : Int) (s : ByteArray) (w : World) (hs : s.size ≤ 9223372036854775807) (hn : n ≤ 9223372036854775807) :
    Calls Tryz.prog 9 #[.agg #[.slice A n c, .int .i64 K], .string s] w fun e w' => e = .returned (.bool (decide (n ≤ 100) && decide (s.size ≤ 300))) ∧ Chg Nothing w w' := by
  have hX := Blk.new w #[.slice A n c, .int .i64 K] 24
  have x0 := hX.cell 0 (v := .slice A n c) rfl
  have hlx := hX.lt
  by_cases h1 : n ≤ 100
  · have e1 : decide ((n : Int) ≤ 100) = true := decide_eq_true (by omega)
    by_cases h2 : s.size ≤ 300
    · have e2 : decide ((s.size : Int) ≤ 300) = true := decide_eq_true (by omega)
      have e3 := hid (show (decide (n ≤ 100) && decide (s.size ≤ 300)) = true from by simp [h1, h2])
      rw [e3.out]
      clear hX h1 h2
      go_enter Tryz.func9, Tryz.ntmps9
      go_wp2
      go_ret
      exact ⟨rfl, (Chg.refl _ _).alloc _⟩
    · have e2 : decide ((s.size : Int) ≤ 300) = false := decide_eq_false (by omega)
      have e3 := hid (show (decide (n ≤ 100) && decide (s.size ≤ 300)) = false from by simp [h2])
      rw [e3.out]
      clear hX h1 h2
      go_enter Tryz.func9, Tryz.ntmps9
      go_wp2
      go_ret
      exact ⟨rfl, (Chg.refl _ _).alloc _⟩
  · have e1 : decide ((n : Int) ≤ 100) = false := decide_eq_false (by omega)
    have e3 := hid (show (decide (n ≤ 100) && decide (s.size ≤ 300)) = false from by simp [h1])
    rw [e3.out]
    clear hX h1
    go_enter Tryz.func9, Tryz.ntmps9
    go_wp2
    go_ret
    exact ⟨rfl, (Chg.refl _ _).alloc _⟩
end Go.Proofs.YtpjldmdbnjodaaaGreat
