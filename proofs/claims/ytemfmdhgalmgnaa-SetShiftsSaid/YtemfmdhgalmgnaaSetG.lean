/- Layer 15: the reference's Or. -/
import Derived.Test.YtemfmdhgalmgnaaSetE
namespace Go.Proofs.Ytemfmdhgalmgnaa
open Go.RowKit
set_option linter.unusedVariables false
def orGo (a b : List Int) : List Int := b.foldl (fun o y => putGo y o false) a
def orR (a b : List Int) : List Int := if rightB (-1) a && rightB (-1) b then orGo a b else []
theorem orGo_snoc (a b : List Int) (y : Int) : orGo a (b ++ [y]) = putGo y (orGo a b) false := by simp [orGo]
theorem putGo_len1 (x : Int) (ys : List Int) : (putGo x ys false).length ≤ ys.length + 1 := by have := putGo_len x ys false; simpa using this

def ReadInts (F : Nat → Prop) (w : World) (e : Ending) (xs : List Int) : Prop := ∃ A n c, e = .returned (.slice A n c) ∧ IntsAt F w A n c xs
theorem GivesInts.read {b : Nat} {w : World} {e : Ending} {xs : List Int} (h : GivesInts b w e xs) : ReadInts (fun k => b ≤ k ∧ k < w.heap.size) w e xs := by
  obtain ⟨A, c, he, hown⟩ := h
  exact ⟨A, _, c, he, (ElsAt.of_own (d := (0 : Int)) hown).mono (fun k hk h => ⟨h.2, hk⟩)⟩

def ROInv (w : World) (F : Nat → Prop) (xs ys : List Int) (n m : Nat) (v i : Value) (wr : World) : Prop :=
  ∃ (k : Nat) (X : Option Addr) (p cx : Nat), k ≤ m ∧ p ≤ n + k ∧ i = .int .i64 k ∧ v = .slice X p cx ∧ IntsAt (fun j => F j ∨ w.heap.size ≤ j) wr X p cx (orGo xs (ys.take k)) ∧ Chg Nothing w wr

set_option maxHeartbeats 1000000 in
theorem refOr_any (F G : Nat → Prop) (A B : Option Addr) (n c m d : Nat) (xs ys : List Int) (w : World) (h : IntsAt F w A n c xs) (h' : IntsAt G w B m d ys) (hF : ∀ k, F k → k < w.heap.size) (hb : (n + m + 1) * 8 ≤ 140737488355328) :
    Calls Try.prog 23 #[.slice A n c, .slice B m d] w fun e w' => ReadInts (fun j => F j ∨ w.heap.size ≤ j) w' e (orR xs ys) ∧ Chg Nothing w w' := by
  have hln := hid h'.2.2.2.1
  have hn := h'.2.1
  have hc := h'.2.2.1
  have H := hid h; clear h
  have H' := hid h'; clear h'
  have hFF := hid hF; clear hF
  unfold orR
  by_cases hr : rightB (-1) xs = true
  · have h1 := refRight_any F A n c xs w H.out
    rw [hr] at h1
    have H1 := hid h1; clear h1
    by_cases hr' : rightB (-1) ys = true
    · rw [hr, hr']
      simp only [Bool.and_self, if_true]
      have h2 := fun q => refRight_any G B m d ys (w.drewN q) (H'.out.chg ((Chg.refl Nothing w).drewN q) (fun _ _ _ h => h))
      rw [hr'] at h2
      have H2 := hid h2; clear h2
      clear hr hr'
      go_enter Try.func23, Try.ntmps23
      go_wp2_with fail
      refine H1.out.mono ?_
      rintro e w' ⟨rfl, q, rfl⟩
      go_wp2_with fail
      refine (H2.out q).mono ?_
      rintro e w' ⟨rfl, q2, rfl⟩
      go_wp2_with fail
      go_loopw [5, 6] (fun v i wr => ROInv w F xs ys n m v i wr) (fun _ i _ => m - (intOf i).toNat)
      case atStart => exact ⟨0, A, n, c, Nat.zero_le _, Nat.le_refl _, rfl, rfl, (H.out.mono (fun _ _ h => .inl h)).chg ((Chg.refl Nothing w).drewN _) (fun _ _ _ h => h), (Chg.refl _ _).drewN _⟩
      case round =>
        obtain ⟨k, X, p, cx, hk, hpk, rfl, rfl, hI, hcr⟩ := hrel
        have hwr := hcr.size
        by_cases hlt : k < m
        · obtain ⟨g, o, rfl, _, hgs, hcell⟩ := (H'.out.chg hcr (fun _ _ _ h => h)).at_ hlt
          have htk := take_succ' (d := (0 : Int)) (xs := ys) (k := k) (by rw [hln.out]; exact hlt)
          have hos := orGo_snoc xs (ys.take k) (ys.getD k 0)
          rw [← htk] at hos
          have HOS := hid hos; clear hos htk
          generalize hy : ys.getD k 0 = y at *
          clear hy
          have hp9 := hI.2.1
          have hp8 := hI.2.2.1
          have HI := hid hI; clear hI
          go_wp2_with fail
          refine (put_any (fun j => (F j ∨ w.heap.size ≤ j) ∧ j < wr.heap.size) X p cx (orGo xs (ys.take k)) y wr (HI.out.mono (fun j hj h => ⟨h, hj⟩)) (fun j hj => hj.2) (by omega)).mono ?_
          rintro e w3 ⟨hg, hc3⟩
          have hlen := putGo_len1 y (orGo xs (ys.take k))
          rw [HI.out.2.2.2.1] at hlen
          obtain ⟨X3, p3, cx3, rfl, hI3⟩ := hg.read
          have hp3 : p3 ≤ n + (k + 1) := by rw [← hI3.2.2.2.1]; omega
          have hcr3 := hcr.trans hc3
          clear hc3 hlen hg
          go_wp2
          go_roundw
          case rel => exact ⟨k + 1, X3, p3, cx3, by omega, by omega, by go_num, rfl, by rw [HOS.out]; exact hI3.mono (fun j _ h => .inr (by have := h.1; omega)), hcr3⟩
          case measure => simp [intOf]; omega
        · have htk : ys.take k = ys := List.take_of_length_le (by rw [hln.out]; omega)
          rw [htk] at hI
          clear htk
          go_wp2
          go_ret
          exact ⟨⟨X, p, cx, rfl, hI⟩, hcr⟩
    · have hrf : rightB (-1) ys = false := by simpa using hr'
      rw [hr, hrf]
      have h2 := fun q => refRight_any G B m d ys (w.drewN q) (H'.out.chg ((Chg.refl Nothing w).drewN q) (fun _ _ _ h => h))
      rw [hrf] at h2
      have H2 := hid h2; clear h2
      clear hr hr' hrf
      go_enter Try.func23, Try.ntmps23
      go_wp2_with fail
      refine H1.out.mono ?_
      rintro e w' ⟨rfl, q, rfl⟩
      go_wp2_with fail
      refine (H2.out q).mono ?_
      rintro e w' ⟨rfl, q2, rfl⟩
      go_wp2_with fail
      go_ret
      exact ⟨⟨none, 0, 0, rfl, ElsAt.nil _ _⟩, (Chg.refl _ _).drewN _⟩
  · have hrf : rightB (-1) xs = false := by simpa using hr
    rw [hrf]
    have h1 := refRight_any F A n c xs w H.out
    rw [hrf] at h1
    have H1 := hid h1; clear h1
    clear hr hrf
    go_enter Try.func23, Try.ntmps23
    go_wp2_with fail
    refine H1.out.mono ?_
    rintro e w' ⟨rfl, q, rfl⟩
    go_wp2_with fail
    go_ret
    exact ⟨⟨none, 0, 0, rfl, ElsAt.nil _ _⟩, (Chg.refl _ _).drewN _⟩
end Go.Proofs.Ytemfmdhgalmgnaa
