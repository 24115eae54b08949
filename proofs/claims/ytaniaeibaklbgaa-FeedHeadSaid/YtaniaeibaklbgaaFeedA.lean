import Derived.Test.YtaniaeibaklbgaaRows
import Derived.Test.YtaniaeibaklbgaaLib
import Derived.Deep.QuietTactic
import Derived.BigQuiet
import Derived.BigRegion
namespace Go.Proofs.Ytaniaeibaklbgaa
open Go.RowKit

/-- What a feed holds: its text, the pieces that are left, how much was given, where it ends, and how. -/
structure Fd where
  t : ByteArray
  ps : List Int
  p : Nat
  q : Nat
  e : Int

def Fd.ok (f : Fd) : Prop := f.p ≤ f.q ∧ f.q ≤ f.t.size ∧ f.t.size ≤ 9223372036854775807

def fdBlk (f : Fd) (A : Option Addr) (n c : Nat) : Array Value := #[.string f.t, .slice A n c, .int .i64 f.p, .int .i64 f.q, .int .i64 f.e]

/-- The pieces: a slice of the feed's own, cut from the front. -/
def FeedAt (F : Nat → Prop) (w : World) (b : Nat) (f : Fd) : Prop := f.ok ∧ ¬ F b ∧ ∃ A n c, Blk w b (fdBlk f A n c) 52 ∧ IntsAt F w A n c f.ps
theorem FeedAt.chg {F S : Nat → Prop} {w w' : World} {b : Nat} {f : Fd} (h : FeedAt F w b f) (hc : Chg S w w') (hb : ¬ S b) (hd : ∀ k, k < w.heap.size → F k → ¬ S k) : FeedAt F w' b f := by
  obtain ⟨h1, h2, A, n, c, hB, hP⟩ := h
  exact ⟨h1, h2, A, n, c, hB.chg hc hb, hP.chg hc hd⟩
theorem FeedAt.lt {F : Nat → Prop} {w : World} {b : Nat} {f : Fd} (h : FeedAt F w b f) : b < w.heap.size := by obtain ⟨_, _, A, n, c, hB, _⟩ := h; exact hB.lt
theorem not_one {F : Nat → Prop} {b : Nat} (h : ¬ F b) : ∀ (n k : Nat), k < n → F k → ¬ One b k := fun _ k _ hk e => h (by unfold One at e; rw [← e]; exact hk)

def Fd.n (f : Fd) : Nat := match f.ps with | [] => f.q - f.p | x :: _ => (max 0 (min ((f.q : Int) - f.p) x)).toNat
def Fd.got (f : Fd) : ByteArray := if f.p = f.q then ⟨#[]⟩ else f.t.extract f.p (f.p + f.n)
def Fd.tells (f : Fd) : Int := if f.p = f.q then f.e else 0
def Fd.next (f : Fd) : Fd := if f.p = f.q then f else { f with ps := f.ps.tail, p := f.p + f.n }

set_option maxHeartbeats 400000 in
theorem read_end (F : Nat → Prop) (b : Nat) (f : Fd) (w : World) (h : FeedAt F w b f) (hpq : f.p = f.q) :
    Calls Try.prog 19 #[.pointer (some ⟨b, 0, none⟩)] w fun e' w' => e' = .returned (.tuple #[.string ⟨#[]⟩, .int .i64 f.e]) ∧ Chg Nothing w w' := by
  obtain ⟨_, _, A, n, c, hB, _⟩ := h
  have hb := hB.lt
  have h0 := hB.cell 0 (v := .string f.t) rfl
  have h2 := hB.cell 2 (v := .int .i64 f.p) rfl
  have h3 : w.cell? ⟨b, 3, none⟩ = some (.int .i64 f.p) := hB.cell 3 (by simp [fdBlk, hpq])
  have h4 := hB.cell 4 (v := .int .i64 f.e) rfl
  have HB := hid hB; clear hB hpq
  go_enter Try.func19, Try.ntmps19
  go_wp2_with fail
  go_region
  go_wp2
  go_quiet (fail)
  go_wp2
  go_quiet (fail)
  go_wp2
  go_ret2
  exact ⟨rfl, ((((Chg.refl _ _).alloc _).drew).drewN _).drewN _⟩

theorem fdBlk_set2 (f : Fd) (A : Option Addr) (n c : Nat) (x : Int) (p' : Nat) (h : x = p') : (fdBlk f A n c).setIfInBounds 2 (.int .i64 x) = fdBlk { f with p := p' } A n c := by subst h; rfl
theorem fdBlk_set1 (f : Fd) (A A' : Option Addr) (n n' c c' : Nat) (ps : List Int) : (fdBlk f A n c).setIfInBounds 1 (.slice A' n' c') = fdBlk { f with ps := ps } A' n' c' := rfl

set_option maxHeartbeats 400000 in
theorem read_rest (F : Nat → Prop) (b : Nat) (f : Fd) (w : World) (h : FeedAt F w b f) (hpq : f.p ≠ f.q) (hps : f.ps = []) :
    Calls Try.prog 19 #[.pointer (some ⟨b, 0, none⟩)] w fun e' w' => e' = .returned (.tuple #[.string (f.t.extract f.p (f.p + f.n)), .int .i64 0]) ∧ FeedAt F w' b { f with ps := f.ps.tail, p := f.p + f.n } ∧ Chg (One b) w w' := by
  obtain ⟨⟨hp1, hp2, hp3⟩, hF, A, n, c, hB, hP⟩ := h
  obtain ⟨t, ps, p, q, en⟩ := f
  simp only at hp1 hp2 hp3 hP hpq hps
  subst hps
  obtain ⟨_, _, _, rfl, _⟩ := id hP
  have hb := hB.lt
  have hx : p < q := by omega
  have h0 := hB.cell 0 (v := .string t) rfl
  have h1 : w.cell? ⟨b, 1, none⟩ = some (.slice A 0 c) := hB.cell 1 rfl
  have h2 := hB.cell 2 (v := .int .i64 p) rfl
  have h3 := hB.cell 3 (v := .int .i64 q) rfl
  have h4 := hB.cell 4 (v := .int .i64 en) rfl
  have f2 := hB.free 2
  have HB := hid hB; clear hB hpq
  have HP := hid hP; clear hP
  go_enter Try.func19, Try.ntmps19
  go_wp2_with fail
  repeat (first | (go_quiet (fail); go_wp2) | (go_region; go_wp2))
  go_ret2
  have hgo : ∀ W, Chg (One b) w W → Blk W b (fdBlk ⟨t, [], p + (q - p), q, en⟩ A 0 c) 52 → FeedAt F W b ⟨t, [], p + (q - p), q, en⟩ := fun W hW hb => ⟨⟨by simp only; omega, hp2, hp3⟩, hF, A, 0, c, hb, HP.out.chg hW (not_one hF _)⟩
  refine ⟨rfl, hgo _ ?_ ?_, ?_⟩
  rotate_left
  · rw [← fdBlk_set2 ⟨t, [], p, q, en⟩ A 0 c (p + (q - p)) _ (by simp; omega)]
    exact ((HB.out.alloc _).drewN _).set 2 _
  all_goals exact Chg.setCell (Chg.drewN (Chg.alloc (Chg.refl (One b) _) _) _) ⟨b, 2, none⟩ (fun _ => rfl) _

theorem tuple_str {s s' : ByteArray} {x : Int} (h : s = s') : Ending.returned (.tuple #[.string s, .int .i64 x]) = .returned (.tuple #[.string s', .int .i64 x]) := by rw [h]
theorem extract_n {t : ByteArray} {x : Int} {xs : List Int} {p q k : Nat} {en : Int} {s : ByteArray} (hk : k = (max 0 (min ((q : Int) - p) x)).toNat) (h : s = t.extract p (p + k)) :
    s = t.extract p (p + Fd.n ⟨t, x :: xs, p, q, en⟩) := by
  rw [show Fd.n ⟨t, x :: xs, p, q, en⟩ = k by simp only [Fd.n]; omega]; exact h

theorem piece_close {F : Nat → Prop} {b : Nat} {t : ByteArray} {x : Int} {xs : List Int} {p q : Nat} {en : Int} {w W : World} {g o n c : Nat} (k : Nat) {V : Value} {y : Int} (A' : Option Addr)
    (hp2 : q ≤ t.size) (hp3 : t.size ≤ 9223372036854775807) (hx : p < q)
    (hk : k = (max 0 (min ((q : Int) - p) x)).toNat) (hy : y = p + k)
    (hF : ¬ F b) (hP : IntsAt F w (some ⟨g, o, none⟩) n c (x :: xs)) (hA : c ≠ 1 → A' = some ⟨g, o + 1, none⟩) (hV : V = .slice A' (n - 1) (c - 1))
    (hB : Blk W b (fdBlk ⟨t, x :: xs, p, q, en⟩ (some ⟨g, o, none⟩) n c) 52)
    (hC : Chg (One b) w W) :
    FeedAt F ((W.setCell ⟨b, 1, none⟩ V).setCell ⟨b, 2, none⟩ (.int .i64 y)) b ⟨t, xs, p + Fd.n ⟨t, x :: xs, p, q, en⟩, q, en⟩ ∧ Chg (One b) w ((W.setCell ⟨b, 1, none⟩ V).setCell ⟨b, 2, none⟩ (.int .i64 y)) := by
  have hkn : Fd.n ⟨t, x :: xs, p, q, en⟩ = k := by simp only [Fd.n]; omega
  have hC' : Chg (One b) w ((W.setCell ⟨b, 1, none⟩ V).setCell ⟨b, 2, none⟩ (.int .i64 y)) := (hC.setCell ⟨b, 1, none⟩ (fun _ => rfl) _).setCell ⟨b, 2, none⟩ (fun _ => rfl) _
  rw [hkn]
  have hkq : p + k ≤ q := by omega
  refine ⟨⟨⟨hkq, hp2, hp3⟩, hF, A', n - 1, c - 1, ?_, ?_⟩, hC'⟩
  · have := (hB.set 1 V).set 2 (.int .i64 y)
    rw [hV, fdBlk_set1 _ _ A' _ _ _ _ xs, fdBlk_set2 _ _ _ _ _ (p + k) (by omega)] at this
    rw [hV]
    exact this
  · refine (hP.tail (A' := A') ?_).chg hC' (not_one hF _)
    intro g' o' e hc
    injection e with e
    injection e with e1 e2
    subst e1 e2
    exact hA hc

set_option maxHeartbeats 1600000 in
theorem read_piece (F : Nat → Prop) (b : Nat) (f : Fd) (w : World) (h : FeedAt F w b f) (hpq : f.p ≠ f.q) (x : Int) (xs : List Int) (hps : f.ps = x :: xs) :
    Calls Try.prog 19 #[.pointer (some ⟨b, 0, none⟩)] w fun e' w' => e' = .returned (.tuple #[.string (f.t.extract f.p (f.p + f.n)), .int .i64 0]) ∧ FeedAt F w' b { f with ps := f.ps.tail, p := f.p + f.n } ∧ Chg (One b) w w' := by
  obtain ⟨⟨hp1, hp2, hp3⟩, hF, A, n, c, hB, hP⟩ := h
  obtain ⟨t, ps, p, q, en⟩ := f
  simp only at hp1 hp2 hp3 hP hpq hps
  subst hps
  obtain ⟨_, hc1, hc2, hn, hrow⟩ := id hP
  simp only [List.length_cons] at hn
  have hr := hrow (by omega)
  clear hrow
  obtain ⟨g, o, rfl, hgF, hglt, hcell⟩ := hr
  have hgb : g ≠ b := fun e => hF (e ▸ hgF)
  clear hgF
  have hg0 : w.cell? ⟨g, o, none⟩ = some (.int .i64 x) := hcell 0 (by omega)
  have hb := hB.lt
  have hx : p < q := by omega
  have h0 := hB.cell 0 (v := .string t) rfl
  have h1 : w.cell? ⟨b, 1, none⟩ = some (.slice (some ⟨g, o, none⟩) n c) := hB.cell 1 rfl
  have h2 := hB.cell 2 (v := .int .i64 p) rfl
  have h3 := hB.cell 3 (v := .int .i64 q) rfl
  have h4 := hB.cell 4 (v := .int .i64 en) rfl
  have f1 := hB.free 1
  have f2 := hB.free 2
  have hn0 : 0 < n := by omega
  have hc0 : 1 ≤ c := by omega
  have HB := hid hB; clear hB hpq
  have HP := hid hP; clear hP
  clear hn
  clear hcell
  have hcc : c = 1 ∨ 1 < c := by omega
  have hxx : x ≤ 0 ∨ (0 < x ∧ x < (q : Int) - p) ∨ (q : Int) - p ≤ x := by omega
  rcases hcc with hcc | hcc
  all_goals rcases hxx with hxx | ⟨hxx, hxy⟩ | hxx
  all_goals
    go_enter Try.func19, Try.ntmps19
    go_wp2_with fail
    repeat (first | (go_quiet (fail); go_wp2) | (go_region; go_wp2))
  all_goals go_ret2
  · exact ⟨tuple_str (extract_n (k := 0) (by omega) (by simp)), piece_close 0 _ hp2 hp3 hx (by omega) (by omega) hF HP.out (fun h => absurd hcc h) (by rw [hcc]) ((HB.out.alloc _).drewN _) (Chg.drewN (Chg.alloc (Chg.refl (One b) _) _) _)⟩
  · exact ⟨tuple_str (extract_n (k := x.toNat) (by omega) (by congr 1; omega)), piece_close x.toNat _ hp2 hp3 hx (by omega) (by omega) hF HP.out (fun h => absurd hcc h) (by rw [hcc]) ((HB.out.alloc _).drewN _) (Chg.drewN (Chg.alloc (Chg.refl (One b) _) _) _)⟩
  · exact ⟨tuple_str (extract_n (k := q - p) (by omega) rfl), piece_close (q - p) _ hp2 hp3 hx (by omega) (by omega) hF HP.out (fun h => absurd hcc h) (by rw [hcc]) ((HB.out.alloc _).drewN _) (Chg.drewN (Chg.alloc (Chg.refl (One b) _) _) _)⟩
  · exact ⟨tuple_str (extract_n (k := 0) (by omega) (by simp)), piece_close 0 _ hp2 hp3 hx (by omega) (by omega) hF HP.out (fun _ => rfl) rfl ((HB.out.alloc _).drewN _) (Chg.drewN (Chg.alloc (Chg.refl (One b) _) _) _)⟩
  · exact ⟨tuple_str (extract_n (k := x.toNat) (by omega) (by congr 1; omega)), piece_close x.toNat _ hp2 hp3 hx (by omega) (by omega) hF HP.out (fun _ => rfl) rfl ((HB.out.alloc _).drewN _) (Chg.drewN (Chg.alloc (Chg.refl (One b) _) _) _)⟩
  · exact ⟨tuple_str (extract_n (k := q - p) (by omega) rfl), piece_close (q - p) _ hp2 hp3 hx (by omega) (by omega) hF HP.out (fun _ => rfl) rfl ((HB.out.alloc _).drewN _) (Chg.drewN (Chg.alloc (Chg.refl (One b) _) _) _)⟩

theorem read_any (F : Nat → Prop) (b : Nat) (f : Fd) (w : World) (h : FeedAt F w b f) :
    Calls Try.prog 19 #[.pointer (some ⟨b, 0, none⟩)] w fun e' w' => e' = .returned (.tuple #[.string f.got, .int .i64 f.tells]) ∧ FeedAt F w' b f.next ∧ Chg (One b) w w' := by
  by_cases hpq : f.p = f.q
  · simp only [Fd.got, Fd.tells, Fd.next, hpq, if_true]
    refine (read_end F b f w h hpq).mono fun e' w' ⟨h1, h2⟩ => ⟨h1, h.chg h2 id (fun _ _ _ h => h), h2.mono (fun _ _ h => h.elim)⟩
  · simp only [Fd.got, Fd.tells, Fd.next, hpq, if_false]
    cases hps : f.ps with
    | nil => simpa [hps] using read_rest F b f w h hpq hps
    | cons x xs => simpa [hps] using read_piece F b f w h hpq x xs hps

end Go.Proofs.Ytaniaeibaklbgaa
