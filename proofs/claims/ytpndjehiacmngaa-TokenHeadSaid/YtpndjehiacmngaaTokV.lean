/- Layer 13: the document's one token. -/
import Derived.Test.YtpndjehiacmngaaTokU
namespace Go.Proofs.Ytpndjehiacmngaa
open Go.RowKit
set_option linter.unusedVariables false
attribute [local go_sem ↓] Go.wp_at_zero Go.wp_at_succ
theorem infoT : (Try.prog.info? 42).map (·.size) = some 4 := by kernel_rfl
def OneAns (R : Rd Tok) (w : World) (e : Ending) (w' : World) : Prop :=
  ∃ (kd at_ n : Int) (A : Option Addr) (l c : Nat) (B : Nat) (x : Cls) (A2 : Option Addr) (l2 c2 : Nat) (N : Int), e = .returned (.tuple #[.agg #[.int .i64 kd, .int .i64 at_, .int .i64 n, .slice A l c], .agg #[.int .u8 B, .int .u64 (wd x 0), .int .u64 (wd x 1), .int .u64 (wd x 2), .int .u64 (wd x 3), .slice A2 l2 c2, .int .i64 N, .int .i64 (R.at_ : Nat), .int .i64 R.no]]) ∧ (∀ t nx, R = .ok t nx → kd = t.kind ∧ at_ = t.at_ ∧ n = t.n ∧ POwn w' (w.heap.size + 2) A l c t.p) ∧ Chg Nothing w w'
theorem Blk.new2 (w : World) (o : Obj) (cs : Array Value) (T : TypeId) : Blk ((w.alloc o).alloc (.cells cs T)) (w.heap.size + 1) cs T := by
  have := Blk.new (w.alloc o) cs T
  rwa [World.size_alloc] at this
structure FourAt (w : World) (b : Nat) (v0 v1 v2 v3 : Value) : Prop where
  r0 : w.cell? ⟨b, 0, none⟩ = some v0
  r1 : w.cell? ⟨b, 1, none⟩ = some v1
  r2 : w.cell? ⟨b, 2, none⟩ = some v2
  r3 : w.cell? ⟨b, 3, none⟩ = some v3
  f0 : w.frozen? ⟨b, 0, none⟩ = false
  f1 : w.frozen? ⟨b, 1, none⟩ = false
  f2 : w.frozen? ⟨b, 2, none⟩ = false
  f3 : w.frozen? ⟨b, 3, none⟩ = false
  lt : b < w.heap.size
theorem Blk.four {w : World} {b : Nat} {v0 v1 v2 v3 : Value} {T : TypeId} (h : Blk w b #[v0, v1, v2, v3] T) : FourAt w b v0 v1 v2 v3 :=
  ⟨h.cell 0 rfl, h.cell 1 rfl, h.cell 2 rfl, h.cell 3 rfl, h.free 0, h.free 1, h.free 2, h.free 3, h.lt⟩
set_option maxHeartbeats 8000000 in
set_option maxRecDepth 100000 in
theorem refOne_any (s : ByteArray) (a : Nat) (R : Rd Tok) (hR : TokRd s a R) (w : World) (hs : s.size ≤ 9223372036854775000) (ha : a < s.size) :
    Calls Try.prog 23 #[.string s, .int .i64 a] w (OneAns R w) := by
  have hlt1 := byteAt_lt s a
  have hg := byteAt_eq ha
  have hT := Blk.new w #[.int .i64 0, .int .i64 0, .int .i64 0, .slice none 0 0] 42
  have hG := Blk.new (w.alloc (.cells #[.int .i64 0, .int .i64 0, .int .i64 0, .slice none 0 0] 42)) #[.int .u8 0, .int .u64 0, .int .u64 0, .int .u64 0, .int .u64 0, .slice none 0 0, .int .i64 0, .int .i64 0, .int .i64 0] 57
  rw [World.size_alloc] at hG
  have HT0 := hid (hT.alloc (.cells #[.int .u8 0, .int .u64 0, .int .u64 0, .int .u64 0, .int .u64 0, .slice none 0 0, .int .i64 0, .int .i64 0, .int .i64 0] 57))
  have HG0 := hid hG
  have hC0 := hid (((Chg.refl Nothing w).alloc (.cells #[.int .i64 0, .int .i64 0, .int .i64 0, .slice none 0 0] 42)).alloc (.cells #[.int .u8 0, .int .u64 0, .int .u64 0, .int .u64 0, .int .u64 0, .slice none 0 0, .int .i64 0, .int .i64 0, .int .i64 0] 57))
  clear hT hG
  cases hR with
  | @pat R0 h k =>
    have hd : (((byteAt s a : Nat) : Int) == 34) = true := beq_iff_eq.2 (by omega)
    replace h := hid h
    go_enter Try.func23, Try.ntmps23
    go_wp2_with fail
    refine (refPattern_any s (a + 1) R0 k _ hs (by omega)).mono ?_
    rintro e w1 ⟨B, x, A, l, c, rfl, hx, hc⟩
    have HT1 := hid (HT0.out.chg hc id)
    have HG1 := hid (HG0.out.chg hc id)
    have hC1 := hid (hC0.out.trans hc)
    have hs1 := hc.size
    simp only [World.size_alloc] at hs1
    replace hx := hid hx
    clear hc HT0 HG0 hC0
    obtain ⟨t0, t1, t2, t3, u0, u1, u2, u3, hlt⟩ := HT1.out.four
    obtain ⟨g0, g1, g2, g3, g4, g5, g6, g7, g8, e0, e1, e2, e3, e4, e5, e6, e7, e8, hlg⟩ := HG1.out.nine
    go_wp2_with fail
    go_region_with (fail)
    all_goals
      go_wp2
      --Z
      exact bodyPost_ret (v := .tuple #[.agg #[.int .i64 8, .int .i64 a, .int .i64 0, .slice A l c], .agg #[.int .u8 B, .int .u64 (wd x 0), .int .u64 (wd x 1), .int .u64 (wd x 2), .int .u64 (wd x 3), .slice A l c, .int .i64 0, .int .i64 (R0.at_ : Nat), .int .i64 R0.no]]) (results_cells2 Try.results23 _ _ _ _ _ _ 42 57 _ _ (by rfl) (by rfl) (by repeat (first | with_reducible exact HT1.out | with_reducible exact HG1.out | with_reducible exact Blk.new2 _ _ _ _ | with_reducible exact Blk.new _ _ _ | with_reducible refine Blk.drewN ?_ _ | with_reducible refine Blk.drew ?_ | with_reducible refine Blk.alloc ?_ _ | with_reducible refine Blk.other ?_ (by dsimp only; omega) _ | with_reducible apply Blk.put4 | with_reducible apply Blk.put9)) (by repeat (first | with_reducible exact HT1.out | with_reducible exact HG1.out | with_reducible exact Blk.new2 _ _ _ _ | with_reducible exact Blk.new _ _ _ | with_reducible refine Blk.drewN ?_ _ | with_reducible refine Blk.drew ?_ | with_reducible refine Blk.alloc ?_ _ | with_reducible refine Blk.other ?_ (by dsimp only; omega) _ | with_reducible apply Blk.put4 | with_reducible apply Blk.put9)) Try.underlying42 rfl (by exact infoT) Try.underlying57 rfl (by exact infoG)) rfl ⟨8, a, 0, A, l, c, B, x, A, l, c, 0, by rw [Rd.map_at, Rd.map_no], (fun t nx h => by
        cases hR0 : R0 with
        | bad p e => rw [hR0] at h; cases h
        | ok ys n =>
          rw [hR0] at h; injection h with h1 h2; subst h1
          have HP0 := hx.out ys n hR0
          simp only [World.size_alloc] at HP0
          have HP : POwn w1 (w.heap.size + 2) A l c ys := ⟨HP0.1, own_base_less HP0.2 (by omega)⟩
          exact ⟨rfl, rfl, rfl, HP.1, (own_chg HP.2 (S := fun k => k = w.heap.size ∨ k = w.heap.size + 1) (by repeat (first | with_reducible exact Chg.refl _ _ | with_reducible refine Chg.drewN ?_ _ | with_reducible refine Chg.drew ?_ | with_reducible refine Chg.alloc ?_ _ | with_reducible refine Chg.setCell ?_ _ (fun _ => by dsimp only; omega) _)) (fun k hk => by have := own_of HP.2 k hk; omega))⟩), (by repeat (first | with_reducible exact hC1.out | with_reducible exact Chg.refl _ _ | with_reducible refine Chg.drewN ?_ _ | with_reducible refine Chg.drew ?_ | with_reducible refine Chg.alloc ?_ _ | with_reducible refine Chg.setNew ?_ (Nat.le_refl _) _ _ | with_reducible refine Chg.setNew ?_ (Nat.le_succ _) _ _))⟩
  | none h h1 =>
    have hd : (((byteAt s a : Nat) : Int) == 34) = false := by rw [beq_eq_false_iff_ne]; omega
    have hk0 : Hid (kind0 (byteAt s a) = 0) := hid (by unfold kind0; rw [if_pos h1])
    replace h := hid h
    replace h1 := hid h1
    have HT1 := HT0
    have HG1 := HG0
    have hC1 := hC0
    obtain ⟨t0, t1, t2, t3, u0, u1, u2, u3, hlt⟩ := HT1.out.four
    obtain ⟨g0, g1, g2, g3, g4, g5, g6, g7, g8, e0, e1, e2, e3, e4, e5, e6, e7, e8, hlg⟩ := HG1.out.nine
    go_enter Try.func23, Try.ntmps23
    go_wp2_with fail
    refine (refKind_any (byteAt s a) _ (byteAt_lt s a)).mono ?_
    rintro e w' ⟨rfl, rfl⟩
    rw [hk0.out]
    go_wp2
    exact bodyPost_ret (v := .tuple #[.agg #[.int .i64 0, .int .i64 0, .int .i64 0, .slice none 0 0], .agg #[.int .u8 0, .int .u64 0, .int .u64 0, .int .u64 0, .int .u64 0, .slice none 0 0, .int .i64 0, .int .i64 a, .int .i64 130]]) (results_cells2 Try.results23 _ _ _ _ _ _ 42 57 _ _ (by rfl) (by rfl) (by repeat (first | with_reducible exact HT1.out | with_reducible exact HG1.out | with_reducible exact Blk.new2 _ _ _ _ | with_reducible exact Blk.new _ _ _ | with_reducible refine Blk.drewN ?_ _ | with_reducible refine Blk.drew ?_ | with_reducible refine Blk.alloc ?_ _ | with_reducible refine Blk.other ?_ (by dsimp only; omega) _ | with_reducible apply Blk.put4 | with_reducible apply Blk.put9)) (by repeat (first | with_reducible exact HT1.out | with_reducible exact HG1.out | with_reducible exact Blk.new2 _ _ _ _ | with_reducible exact Blk.new _ _ _ | with_reducible refine Blk.drewN ?_ _ | with_reducible refine Blk.drew ?_ | with_reducible refine Blk.alloc ?_ _ | with_reducible refine Blk.other ?_ (by dsimp only; omega) _ | with_reducible apply Blk.put4 | with_reducible apply Blk.put9)) Try.underlying42 rfl (by exact infoT) Try.underlying57 rfl (by exact infoG)) rfl ⟨0, 0, 0, none, 0, 0, 0, 0, none, 0, 0, 0, by simp only [wd_zero]; rfl, (fun t nx h => by cases h), (by repeat (first | with_reducible exact hC1.out | with_reducible exact Chg.refl _ _ | with_reducible refine Chg.drewN ?_ _ | with_reducible refine Chg.drew ?_ | with_reducible refine Chg.alloc ?_ _ | with_reducible refine Chg.setNew ?_ (Nat.le_refl _) _ _ | with_reducible refine Chg.setNew ?_ (Nat.le_succ _) _ _))⟩
  | @sign k h h1 h2 h3 =>
    have hd : (((byteAt s a : Nat) : Int) == 34) = false := by rw [beq_eq_false_iff_ne]; omega
    have hk0 : Hid (kind0 (byteAt s a) = k) := hid (by unfold kind0; rw [if_neg (by omega), h1])
    have hk1 : (((k : Nat) : Int) == 0) = false := by rw [beq_eq_false_iff_ne]; omega
    have hk2 : ((k : Int) < 6) := by omega
    replace h := hid h
    replace h1 := hid h1
    have HT1 := HT0
    have HG1 := HG0
    have hC1 := hC0
    obtain ⟨t0, t1, t2, t3, u0, u1, u2, u3, hlt⟩ := HT1.out.four
    obtain ⟨g0, g1, g2, g3, g4, g5, g6, g7, g8, e0, e1, e2, e3, e4, e5, e6, e7, e8, hlg⟩ := HG1.out.nine
    go_enter Try.func23, Try.ntmps23
    go_wp2_with fail
    refine (refKind_any (byteAt s a) _ (byteAt_lt s a)).mono ?_
    rintro e w' ⟨rfl, rfl⟩
    rw [hk0.out]
    go_wp2
    exact bodyPost_ret (v := .tuple #[.agg #[.int .i64 k, .int .i64 a, .int .i64 0, .slice none 0 0], .agg #[.int .u8 0, .int .u64 0, .int .u64 0, .int .u64 0, .int .u64 0, .slice none 0 0, .int .i64 0, .int .i64 ((a : Int) + 1), .int .i64 0]]) (results_cells2 Try.results23 _ _ _ _ _ _ 42 57 _ _ (by rfl) (by rfl) (by repeat (first | with_reducible exact HT1.out | with_reducible exact HG1.out | with_reducible exact Blk.new2 _ _ _ _ | with_reducible exact Blk.new _ _ _ | with_reducible refine Blk.drewN ?_ _ | with_reducible refine Blk.drew ?_ | with_reducible refine Blk.alloc ?_ _ | with_reducible refine Blk.other ?_ (by dsimp only; omega) _ | with_reducible apply Blk.put4 | with_reducible apply Blk.put9)) (by repeat (first | with_reducible exact HT1.out | with_reducible exact HG1.out | with_reducible exact Blk.new2 _ _ _ _ | with_reducible exact Blk.new _ _ _ | with_reducible refine Blk.drewN ?_ _ | with_reducible refine Blk.drew ?_ | with_reducible refine Blk.alloc ?_ _ | with_reducible refine Blk.other ?_ (by dsimp only; omega) _ | with_reducible apply Blk.put4 | with_reducible apply Blk.put9)) Try.underlying42 rfl (by exact infoT) Try.underlying57 rfl (by exact infoG)) rfl ⟨k, a, 0, none, 0, 0, 0, 0, none, 0, 0, 0, by simp only [wd_zero]; rfl, (fun t nx h => by injection h with h1 h2; subst h1; exact ⟨rfl, rfl, rfl, rfl, World.ownsRow_nil _ _ _ _⟩), (by repeat (first | with_reducible exact hC1.out | with_reducible exact Chg.refl _ _ | with_reducible refine Chg.drewN ?_ _ | with_reducible refine Chg.drew ?_ | with_reducible refine Chg.alloc ?_ _ | with_reducible refine Chg.setNew ?_ (Nat.le_refl _) _ _ | with_reducible refine Chg.setNew ?_ (Nat.le_succ _) _ _))⟩
  | @num k m h h1 h2 h3 =>
    have hd : (((byteAt s a : Nat) : Int) == 34) = false := by rw [beq_eq_false_iff_ne]; omega
    have hk0 : Hid (kind0 (byteAt s a) = k) := hid (by unfold kind0; rw [if_neg (by omega), h1])
    have hk1 : (((k : Nat) : Int) == 0) = false := by rw [beq_eq_false_iff_ne]; omega
    have hk2 : ¬ ((k : Int) < 6) := by omega
    replace h := hid h
    replace h1 := hid h1
    go_enter Try.func23, Try.ntmps23
    go_wp2_with fail
    refine (refKind_any (byteAt s a) _ (byteAt_lt s a)).mono ?_
    rintro e w' ⟨rfl, rfl⟩
    rw [hk0.out]
    go_wp2_with fail
    refine (refNumber_any s (a + 1) m _ hs (by omega) h3).mono ?_
    rintro e w1 ⟨rfl, hc⟩
    have HT1 := hid (HT0.out.chg hc id)
    have HG1 := hid (HG0.out.chg hc id)
    have hC1 := hid (hC0.out.trans hc)
    clear hc HT0 HG0 hC0
    unfold gotN
    obtain ⟨t0, t1, t2, t3, u0, u1, u2, u3, hlt⟩ := HT1.out.four
    obtain ⟨g0, g1, g2, g3, g4, g5, g6, g7, g8, e0, e1, e2, e3, e4, e5, e6, e7, e8, hlg⟩ := HG1.out.nine
    go_wp2_with fail
    go_region_with (fail)
    all_goals
      go_wp2
      exact bodyPost_ret (v := .tuple #[.agg #[.int .i64 k, .int .i64 a, .int .i64 ((numS s (a + 1) m).val 0 : Nat), .slice none 0 0], .agg #[.int .u8 0, .int .u64 0, .int .u64 0, .int .u64 0, .int .u64 0, .slice none 0 0, .int .i64 ((numS s (a + 1) m).val 0 : Nat), .int .i64 ((numS s (a + 1) m).at_ : Nat), .int .i64 (numS s (a + 1) m).no]]) (results_cells2 Try.results23 _ _ _ _ _ _ 42 57 _ _ (by rfl) (by rfl) (by repeat (first | with_reducible exact HT1.out | with_reducible exact HG1.out | with_reducible exact Blk.new2 _ _ _ _ | with_reducible exact Blk.new _ _ _ | with_reducible refine Blk.drewN ?_ _ | with_reducible refine Blk.drew ?_ | with_reducible refine Blk.alloc ?_ _ | with_reducible refine Blk.other ?_ (by dsimp only; omega) _ | with_reducible apply Blk.put4 | with_reducible apply Blk.put9)) (by repeat (first | with_reducible exact HT1.out | with_reducible exact HG1.out | with_reducible exact Blk.new2 _ _ _ _ | with_reducible exact Blk.new _ _ _ | with_reducible refine Blk.drewN ?_ _ | with_reducible refine Blk.drew ?_ | with_reducible refine Blk.alloc ?_ _ | with_reducible refine Blk.other ?_ (by dsimp only; omega) _ | with_reducible apply Blk.put4 | with_reducible apply Blk.put9)) Try.underlying42 rfl (by exact infoT) Try.underlying57 rfl (by exact infoG)) rfl ⟨k, a, ((numS s (a + 1) m).val 0 : Nat), none, 0, 0, 0, 0, none, 0, 0, ((numS s (a + 1) m).val 0 : Nat), by rw [Rd.map_at, Rd.map_no]; simp only [wd_zero]; rfl, (fun t nx h => by
        cases hR0 : numS s (a + 1) m with
        | bad p e => rw [hR0] at h; cases h
        | ok ys n => rw [hR0] at h; injection h with h1 h2; subst h1; exact ⟨rfl, rfl, rfl, rfl, World.ownsRow_nil _ _ _ _⟩), (by repeat (first | with_reducible exact hC1.out | with_reducible exact Chg.refl _ _ | with_reducible refine Chg.drewN ?_ _ | with_reducible refine Chg.drew ?_ | with_reducible refine Chg.alloc ?_ _ | with_reducible refine Chg.setNew ?_ (Nat.le_refl _) _ _ | with_reducible refine Chg.setNew ?_ (Nat.le_succ _) _ _))⟩
end Go.Proofs.Ytpndjehiacmngaa
