import Derived.Test.YtaniaeibaklbgaaFeedC
namespace Go.Proofs.Ytaniaeibaklbgaa
open Go.RowKit

/-! ### few, alive -/
set_option maxHeartbeats 400000 in
theorem fewF_yes (t : ByteArray) (A : Option Addr) (n c : Nat) (w : World) (h1 : (t.size : Int) ≤ 500) (h2 : (n : Int) ≤ 500) :
    Calls Try.prog 16 #[.string t, .slice A n c] w fun e w' => e = .returned (.bool true) ∧ w = w' := by
  go_enter Try.func16, Try.ntmps16
  go_wp2_with fail
  go_ret
  exact ⟨by simp, rfl⟩
set_option maxHeartbeats 400000 in
theorem fewF_no (t : ByteArray) (A : Option Addr) (n c : Nat) (w : World) (h : ¬ ((t.size : Int) ≤ 500 ∧ (n : Int) ≤ 500)) :
    Calls Try.prog 16 #[.string t, .slice A n c] w fun e w' => e = .returned (.bool false) ∧ w = w' := by
  by_cases h1 : (t.size : Int) ≤ 500
  · have h2 : (500 : Int) < n := by omega
    clear h
    go_enter Try.func16, Try.ntmps16
    go_wp2_with fail
    go_ret
    exact ⟨by simp [h2], rfl⟩
  · clear h
    go_enter Try.func16, Try.ntmps16
    go_wp2_with fail
    go_ret
    exact ⟨rfl, rfl⟩

def abT : ByteArray := ⟨#[97, 98, 99, 100, 101]⟩
def fA0 : Fd := ⟨abT, [2, 0, 9], 0, 4, 2⟩
def fA1 : Fd := ⟨abT, [0, 9], 2, 4, 2⟩
def fA2 : Fd := ⟨abT, [9], 2, 4, 2⟩
def fA3 : Fd := ⟨abT, [], 4, 4, 2⟩
theorem read_as {f f' : Fd} {s : ByteArray} {x : Int} (h1 : f.got = s) (h2 : f.tells = x) (h3 : f.next = f') (F : Nat → Prop) (b : Nat) (w : World) (h : FeedAt F w b f) :
    Calls Try.prog 19 #[.pointer (some ⟨b, 0, none⟩)] w fun e' w' => e' = .returned (.tuple #[.string s, .int .i64 x]) ∧ FeedAt F w' b f' ∧ Chg (One b) w w' := by
  subst h1 h2 h3; exact read_any F b f w h
theorem readA0 (F : Nat → Prop) (b : Nat) (w : World) (h : FeedAt F w b fA0) : Calls Try.prog 19 #[.pointer (some ⟨b, 0, none⟩)] w fun e' w' => e' = .returned (.tuple #[.string ⟨#[97, 98]⟩, .int .i64 0]) ∧ FeedAt F w' b fA1 ∧ Chg (One b) w w' :=
  read_as (by rfl) rfl rfl F b w h
theorem readA1 (F : Nat → Prop) (b : Nat) (w : World) (h : FeedAt F w b fA1) : Calls Try.prog 19 #[.pointer (some ⟨b, 0, none⟩)] w fun e' w' => e' = .returned (.tuple #[.string ⟨#[]⟩, .int .i64 0]) ∧ FeedAt F w' b fA2 ∧ Chg (One b) w w' :=
  read_as (by rfl) rfl rfl F b w h
theorem readA2 (F : Nat → Prop) (b : Nat) (w : World) (h : FeedAt F w b fA2) : Calls Try.prog 19 #[.pointer (some ⟨b, 0, none⟩)] w fun e' w' => e' = .returned (.tuple #[.string ⟨#[99, 100]⟩, .int .i64 0]) ∧ FeedAt F w' b fA3 ∧ Chg (One b) w w' :=
  read_as (by rfl) rfl rfl F b w h
theorem readA3 (F : Nat → Prop) (b : Nat) (w : World) (h : FeedAt F w b fA3) : Calls Try.prog 19 #[.pointer (some ⟨b, 0, none⟩)] w fun e' w' => e' = .returned (.tuple #[.string ⟨#[]⟩, .int .i64 2]) ∧ FeedAt F w' b fA3 ∧ Chg (One b) w w' :=
  read_as (by rfl) rfl rfl F b w h

set_option maxHeartbeats 1000000 in
theorem aliveF (w : World) : Calls Try.prog 17 #[] w fun e w' => e = .returned (.bool true) ∧ Chg Nothing w w' := by
  go_enter Try.func17, Try.ntmps17
  go_wp2_with fail
  refine (new_any (fun k => k = w.heap.size) _ _ 3 3 [2, 0, 9] 4 _ (by decide) (ElsAt.new w _ _ _ _ rfl rfl (by omega) rfl) (by omega)).mono ?_
  rintro e w1 ⟨b, rfl, hb1, hb2, hf, hc⟩
  rw [show Fd.new _ [2, 0, 9] 4 = fA0 from rfl] at hf
  have hC1 := ((Chg.refl Nothing w).alloc (.cells #[.int .i64 2, .int .i64 0, .int .i64 9] 3)).trans hc
  have hb0 : w.heap.size < b := by rw [World.size_alloc] at hb1; omega
  clear hc hb1
  go_wp2_with fail
  refine (readA0 _ b w1 hf).mono ?_
  rintro e w2 ⟨rfl, hf2, hc2⟩
  clear hf
  go_wp2_with fail
  refine (readA1 _ b w2 hf2).mono ?_
  rintro e w3 ⟨rfl, hf3, hc3⟩
  clear hf2
  go_wp2_with fail
  refine (given_any _ b _ w3 hf3).mono ?_
  rintro e w4 ⟨rfl, n4, rfl⟩
  replace hf3 := hf3.chg (S := Nothing) (Chg.drewN (Chg.refl _ _) n4) id (fun _ _ _ h => h)
  go_wp2_with fail
  refine (readA2 _ b _ hf3).mono ?_
  rintro e w5 ⟨rfl, hf5, hc5⟩
  clear hf3
  go_wp2_with fail
  refine (readA3 _ b _ hf5).mono ?_
  rintro e w6 ⟨rfl, hf6, hc6⟩
  clear hf5
  go_wp2_with fail
  refine (whole_any _ b _ w6 hf6).mono ?_
  rintro e w7 ⟨rfl, n7, rfl⟩
  replace hf6 := hf6.chg (S := Nothing) (Chg.drewN (Chg.refl _ _) n7) id (fun _ _ _ h => h)
  rw [show ByteArray.extract fA3.t 0 fA3.q = ⟨#[97, 98, 99, 100]⟩ from by rfl, show (fA3.e == 2) = true from rfl]
  go_wp2_with fail
  refine (given_any _ b _ _ hf6).mono ?_
  rintro e w8 ⟨rfl, n8, rfl⟩
  go_wp2_with fail
  go_ret
  refine ⟨by rfl, ?_⟩
  have hS : ∀ k, k < w.heap.size → One b k → Nothing k := fun k hk e => by unfold One at e; omega
  exact Chg.drewN (((((hC1.then hc2 hS).then hc3 hS).drewN n4).then hc5 hS).then hc6 hS) (n7 + n8)

/-! ### The reference reads as the feed does -/
structure Fd.good (f : Fd) : Prop where
  ok : f.ok
  e : f.e = 1 ∨ f.e = 2
def Fd.T (f : Fd) : ByteArray := f.t.extract 0 f.q
theorem Fd.T_size {f : Fd} (h : f.ok) : f.T.size = f.q := by obtain ⟨h1, h2, h3⟩ := h; simp [Fd.T]; omega
theorem Fd.n_step (f : Fd) (h : f.ok) : f.n = stepN (f.q - f.p) f.ps := by
  obtain ⟨h1, h2, h3⟩ := h
  unfold Fd.n stepN
  cases f.ps with
  | nil => rfl
  | cons x xs => simp only; congr 2; omega
theorem Fd.n_le (f : Fd) (h : f.ok) : f.p + f.n ≤ f.q := by
  obtain ⟨h1, h2, h3⟩ := h
  unfold Fd.n
  cases f.ps with
  | nil => simp only; omega
  | cons x xs => simp only; omega
theorem Fd.next_ok (f : Fd) (h : f.ok) : f.next.ok := by
  have := Fd.n_le f h
  obtain ⟨h1, h2, h3⟩ := h
  unfold Fd.next
  split
  · exact ⟨h1, h2, h3⟩
  · exact ⟨this, h2, h3⟩
theorem Fd.next_t (f : Fd) : f.next.t = f.t := by unfold Fd.next; split <;> rfl
theorem Fd.next_q (f : Fd) : f.next.q = f.q := by unfold Fd.next; split <;> rfl
theorem Fd.next_e (f : Fd) : f.next.e = f.e := by unfold Fd.next; split <;> rfl
theorem Fd.next_T (f : Fd) : f.next.T = f.T := by unfold Fd.T; rw [Fd.next_t, Fd.next_q]
theorem Fd.next_good (f : Fd) (h : f.good) : f.next.good := ⟨f.next_ok h.ok, by rw [Fd.next_e]; exact h.e⟩
theorem Fd.new_good (t : ByteArray) (ps : List Int) (fail : Int) (h : t.size ≤ 9223372036854775807) : (Fd.new t ps fail).good := by
  unfold Fd.new
  split
  · exact ⟨⟨Nat.zero_le _, by simp only; omega, h⟩, .inr rfl⟩
  · exact ⟨⟨Nat.zero_le _, Nat.le_refl _, h⟩, .inl rfl⟩

theorem refRead_f (F : Nat → Prop) (f : Fd) (A : Option Addr) (n c : Nat) (w : World) (hf : f.good) (hI : IntsAt F w A n c f.ps) :
    Calls Try.prog 20 #[rfAgg f.T (f.e == 2) A n c f.p] w fun e w' => ∃ A' n' c', e = .returned (.tuple #[rfAgg f.T (f.e == 2) A' n' c' f.next.p, .string f.got, .int .i64 f.tells]) ∧ IntsAt F w' A' n' c' f.next.ps ∧ Chg Nothing w w' := by
  obtain ⟨h1, h2, h3⟩ := hf.ok
  have hT := Fd.T_size hf.ok
  refine (refRead_any F f.T (f.e == 2) A n c f.p f.ps w (by omega) (by omega) hI).mono ?_
  rintro e w' ⟨A', n', c', rfl, hI', hc⟩
  rw [hT] at hI' ⊢
  rw [← Fd.n_step f hf.ok]
  by_cases hpq : f.p = f.q
  · refine ⟨A', n', c', ?_, ?_, hc⟩
    · have e1 : f.e = if (f.e == 2) = true then 2 else 1 := by rcases hf.e with h | h <;> rw [h] <;> rfl
      have e2 : f.q - f.p = 0 := by omega
      have e3 : f.T.extract f.p f.p = ⟨#[]⟩ := by simp; rfl
      simp only [Fd.next, Fd.got, Fd.tells, if_pos hpq, e2, if_true, ← e1, Nat.mul_zero, Nat.add_zero, e3]
    · simpa [Fd.next, restP, hpq] using hI'
  · have hne : ¬ (f.q - f.p = 0) := by omega
    have hn := Fd.n_le f hf.ok
    refine ⟨A', n', c', ?_, ?_, hc⟩
    · have e3 : f.T.extract f.p (f.p + f.n) = f.t.extract f.p (f.p + f.n) := by
        unfold Fd.T
        rw [ByteArray.extract_extract]
        congr 1 <;> omega
      simp only [Fd.next, Fd.got, Fd.tells, if_neg hpq, if_neg hne, Nat.mul_one, e3]
    · simpa [Fd.next, restP, hpq, hne] using hI'

end Go.Proofs.Ytaniaeibaklbgaa
