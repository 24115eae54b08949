import Derived.Test.YtaniaeibaklbgaaFeedB
namespace Go.Proofs.Ytaniaeibaklbgaa
open Go.RowKit

/-- How long the next piece is, of what is left. -/
def stepN (left : Nat) (ps : List Int) : Nat := match ps with | [] => left | x :: _ => (max 0 (min (left : Int) x)).toNat

def rfAgg (T : ByteArray) (fl : Bool) (A : Option Addr) (n c : Nat) (g : Int) : Value := .agg #[.string T, .bool fl, .slice A n c, .int .i64 g]

set_option maxHeartbeats 400000 in
theorem refNew_any (t : ByteArray) (A : Option Addr) (n c : Nat) (fail : Int) (w : World) :
    Calls Try.prog 18 #[.string t, .slice A n c, .int .i64 fail] w fun e w' => e = .returned (rfAgg (t.extract 0 (Fd.new t [] fail).q) ((Fd.new t [] fail).e == 2) A n c 0) ∧ Chg Nothing w w' := by
  by_cases hf : 0 ≤ fail ∧ fail ≤ t.size
  · have e := new_fails (t := t) (ps := []) hf.1 hf.2
    rw [e]; clear e
    obtain ⟨hf, hf2⟩ := hf
    obtain ⟨q, rfl⟩ := Int.eq_ofNat_of_zero_le hf
    go_enter Try.func18, Try.ntmps18
    go_wp2_with fail
    exact bodyPost_ret (v := rfAgg (t.extract 0 q) true A n c 0) (by simp [results, rfAgg, Try.results18, go_sem]) rfl ⟨by simp, (Chg.refl _ _).alloc _⟩
  · have e := new_ends (t := t) (ps := []) hf
    rw [e]; clear e
    have hex : t.extract 0 t.size = t := by simp
    simp only
    rw [hex]; clear hex
    have hf' : fail < 0 ∨ (0 ≤ fail ∧ t.size < fail) := by omega
    clear hf
    rcases hf' with hf | ⟨hf, hf2⟩
    all_goals
      go_enter Try.func18, Try.ntmps18
      go_wp2_with fail
      exact bodyPost_ret (v := rfAgg t false A n c 0) (by simp [results, rfAgg, Try.results18, go_sem]) rfl ⟨by simp, (Chg.refl _ _).alloc _⟩

set_option maxHeartbeats 400000 in
theorem refRead_end (T : ByteArray) (fl : Bool) (A : Option Addr) (n c : Nat) (w : World) (hT : T.size ≤ 9223372036854775807) :
    Calls Try.prog 20 #[rfAgg T fl A n c T.size] w fun e w' => e = .returned (.tuple #[rfAgg T fl A n c T.size, .string ⟨#[]⟩, .int .i64 (if fl then 2 else 1)]) ∧ Chg Nothing w w' := by
  unfold rfAgg
  cases fl
  · go_enter Try.func20, Try.ntmps20
    go_wp2_with fail
    exact bodyPost_ret (v := .tuple #[rfAgg T false A n c T.size, .string ⟨#[]⟩, .int .i64 1]) (by simp [results, rfAgg, Try.results20, go_sem]) rfl ⟨rfl, ((Chg.refl _ _).alloc _).alloc _⟩
  · go_enter Try.func20, Try.ntmps20
    go_wp2_with fail
    exact bodyPost_ret (v := .tuple #[rfAgg T true A n c T.size, .string ⟨#[]⟩, .int .i64 2]) (by simp [results, rfAgg, Try.results20, go_sem]) rfl ⟨rfl, ((Chg.refl _ _).alloc _).alloc _⟩

set_option maxHeartbeats 400000 in
theorem refRead_rest (T : ByteArray) (fl : Bool) (A : Option Addr) (c g : Nat) (w : World) (hT : T.size ≤ 9223372036854775807) (hg : g < T.size) :
    Calls Try.prog 20 #[rfAgg T fl A 0 c g] w fun e w' => e = .returned (.tuple #[rfAgg T fl A 0 c (g + (T.size - g)), .string (T.extract g (g + (T.size - g))), .int .i64 0]) ∧ Chg Nothing w w' := by
  unfold rfAgg
  go_enter Try.func20, Try.ntmps20
  go_wp2_with fail
  go_region
  go_wp2
  exact bodyPost_ret (v := .tuple #[rfAgg T fl A 0 c (g + (T.size - g)), .string (T.extract g (g + (T.size - g))), .int .i64 0]) (by simp [results, rfAgg, Try.results20, go_sem]) rfl ⟨rfl, by repeat (first | exact Chg.refl _ _ | with_reducible apply Chg.alloc | with_reducible apply Chg.drewN | with_reducible apply Chg.drew)⟩

theorem ref_close {T : ByteArray} {fl : Bool} {gb o : Nat} {n c g : Nat} {x : Int} {xs : List Int} {w W : World} (k : Nat) {A' : Option Addr} {c' : Nat} {y : Int} {S : ByteArray}
    (hk : k = (max 0 (min ((T.size : Int) - g) x)).toNat) (hgT : g < T.size) (hy : y = g + k) (hS : S = T.extract g (g + k)) (hc : c' = c - 1) (hA : c ≠ 1 → A' = some ⟨gb, o + 1, none⟩) (hC : Chg Nothing w W) :
    ∃ A'', (∀ g' o', (some ⟨gb, o, none⟩ : Option Addr) = some ⟨g', o', none⟩ → c ≠ 1 → A'' = some ⟨g', o' + 1, none⟩) ∧
      Ending.returned (.tuple #[rfAgg T fl A' (n - 1) c' y, .string S, .int .i64 0]) = .returned (.tuple #[.agg #[.string T, .bool fl, .slice A'' (n - 1) (c - 1), .int .i64 ((g + stepN (T.size - g) (x :: xs) : Nat) : Int)], .string (T.extract g (g + stepN (T.size - g) (x :: xs))), .int .i64 0]) ∧ Chg Nothing w W := by
  have hs : stepN (T.size - g) (x :: xs) = k := by simp only [stepN]; omega
  rw [hs]
  refine ⟨A', ?_, by rw [hy, hS, hc]; rfl, hC⟩
  intro g' o' e hne
  injection e with e
  injection e with e1 e2
  subst e1 e2
  exact hA hne

set_option maxHeartbeats 1600000 in
theorem refRead_piece (F : Nat → Prop) (T : ByteArray) (fl : Bool) (A : Option Addr) (n c g : Nat) (x : Int) (xs : List Int) (w : World) (hT : T.size ≤ 9223372036854775807) (hg : g < T.size) (hI : IntsAt F w A n c (x :: xs)) :
    Calls Try.prog 20 #[rfAgg T fl A n c g] w fun e w' => ∃ A', (∀ g o, A = some ⟨g, o, none⟩ → c ≠ 1 → A' = some ⟨g, o + 1, none⟩) ∧ e = .returned (.tuple #[rfAgg T fl A' (n - 1) (c - 1) ((g + stepN (T.size - g) (x :: xs) : Nat) : Int), .string (T.extract g (g + stepN (T.size - g) (x :: xs))), .int .i64 0]) ∧ Chg Nothing w w' := by
  have HI := hid hI
  obtain ⟨_, hc1, hc2, hn, hrow⟩ := hI
  simp only [List.length_cons] at hn
  have hr := hrow (by omega)
  clear hrow
  obtain ⟨gb, o, rfl, _, hglt, hcell⟩ := hr
  have hg0 : w.cell? ⟨gb, o, none⟩ = some (.int .i64 x) := hcell 0 (by omega)
  have hn0 : 0 < n := by omega
  have hc0 : 1 ≤ c := by omega
  clear hcell hn
  have hcc : c = 1 ∨ 1 < c := by omega
  have hxx : x < 0 ∨ (0 ≤ x ∧ x < (T.size : Int) - g) ∨ (T.size : Int) - g ≤ x := by omega
  unfold rfAgg
  rcases hcc with hcc | hcc
  all_goals rcases hxx with hxx | ⟨hxx, hxy⟩ | hxx
  all_goals
    go_enter Try.func20, Try.ntmps20
    go_wp2_with fail
    go_region
    go_wp2
  · exact bodyPost_ret (v := .tuple #[rfAgg T fl (some ⟨gb, o, none⟩) (n - 1) 0 g, .string ByteArray.empty, .int .i64 0]) (by simp [results, rfAgg, Try.results20, go_sem]) rfl (ref_close 0 (by omega) hg (by omega) (by simp) (by omega) (fun h => absurd hcc h) (((Chg.refl _ _).alloc _).alloc _).drew)
  · exact bodyPost_ret (v := .tuple #[rfAgg T fl (some ⟨gb, o, none⟩) (n - 1) 0 (g + x), .string (T.extract g (g + x).toNat), .int .i64 0]) (by simp [results, rfAgg, Try.results20, go_sem]) rfl (ref_close x.toNat (by omega) hg (by omega) (by congr 1; omega) (by omega) (fun h => absurd hcc h) (((Chg.refl _ _).alloc _).alloc _).drew)
  · exact bodyPost_ret (v := .tuple #[rfAgg T fl (some ⟨gb, o, none⟩) (n - 1) 0 (g + (T.size - g)), .string (T.extract g (g + (T.size - g))), .int .i64 0]) (by simp [results, rfAgg, Try.results20, go_sem]) rfl (ref_close (T.size - g) (by omega) hg (by omega) rfl (by omega) (fun h => absurd hcc h) (((Chg.refl _ _).alloc _).alloc _).drew)
  · exact bodyPost_ret (v := .tuple #[rfAgg T fl (some ⟨gb, o + 1, none⟩) (n - 1) (c - 1) g, .string ByteArray.empty, .int .i64 0]) (by simp [results, rfAgg, Try.results20, go_sem]) rfl (ref_close 0 (by omega) hg (by omega) (by simp) (by omega) (fun _ => rfl) (((Chg.refl _ _).alloc _).alloc _).drew)
  · exact bodyPost_ret (v := .tuple #[rfAgg T fl (some ⟨gb, o + 1, none⟩) (n - 1) (c - 1) (g + x), .string (T.extract g (g + x).toNat), .int .i64 0]) (by simp [results, rfAgg, Try.results20, go_sem]) rfl (ref_close x.toNat (by omega) hg (by omega) (by congr 1; omega) (by omega) (fun _ => rfl) (((Chg.refl _ _).alloc _).alloc _).drew)
  · exact bodyPost_ret (v := .tuple #[rfAgg T fl (some ⟨gb, o + 1, none⟩) (n - 1) (c - 1) (g + (T.size - g)), .string (T.extract g (g + (T.size - g))), .int .i64 0]) (by simp [results, rfAgg, Try.results20, go_sem]) rfl (ref_close (T.size - g) (by omega) hg (by omega) rfl (by omega) (fun _ => rfl) (((Chg.refl _ _).alloc _).alloc _).drew)

/-- The pieces behind a read. -/
def restP (left : Nat) (ps : List Int) : List Int := if left = 0 then ps else ps.tail

/-- Reading, whatever the feed: the pieces that are left, what was given, what it tells. -/
theorem refRead_any (F : Nat → Prop) (T : ByteArray) (fl : Bool) (A : Option Addr) (n c g : Nat) (ps : List Int) (w : World) (hT : T.size ≤ 9223372036854775807) (hg : g ≤ T.size) (hI : IntsAt F w A n c ps) :
    Calls Try.prog 20 #[rfAgg T fl A n c g] w fun e w' => ∃ A' n' c', e = .returned (.tuple #[rfAgg T fl A' n' c' ((g + stepN (T.size - g) ps * (if T.size - g = 0 then 0 else 1) : Nat) : Int), .string (T.extract g (g + stepN (T.size - g) ps * (if T.size - g = 0 then 0 else 1))), .int .i64 (if T.size - g = 0 then (if fl then 2 else 1) else 0)]) ∧ IntsAt F w' A' n' c' (restP (T.size - g) ps) ∧ Chg Nothing w w' := by
  by_cases hl : g = T.size
  · subst hl
    refine (refRead_end T fl A n c w hT).mono fun e w' ⟨he, hc⟩ => ⟨A, n, c, ?_, ?_, hc⟩
    · rw [he]; simp; rfl
    · simp only [restP, Nat.sub_self, if_true]; exact hI.chg hc (fun _ _ _ h => h)
  · have hl' : T.size - g ≠ 0 := by omega
    simp only [restP, hl', if_false, Nat.mul_one]
    cases ps with
    | nil =>
      have hn : n = 0 := by have := hI.2.2.2.1; simpa using this.symm
      subst hn
      refine (refRead_rest T fl A c g w hT (by omega)).mono fun e w' ⟨he, hc⟩ => ⟨A, 0, c, ?_, hI.chg hc (fun _ _ _ h => h), hc⟩
      rw [he]
      have : ((g : Int) + ((T.size : Int) - g)) = ((g + (T.size - g) : Nat) : Int) := by omega
      simp only [stepN, this]
    | cons x xs =>
      refine (refRead_piece F T fl A n c g x xs w hT (by omega) hI).mono fun e w' ⟨A', hA, he, hc⟩ => ⟨A', n - 1, c - 1, he, (hI.tail hA).chg hc (fun _ _ _ h => h), hc⟩

end Go.Proofs.Ytaniaeibaklbgaa
