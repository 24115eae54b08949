/- Layer 13: the law TokenElements. -/
import Derived.Test.YtpndjehiacmngaaBunG
namespace Go.Proofs.Ytpndjehiacmngaa
open Go.RowKit
set_option linter.unusedVariables false
attribute [local go_sem ↓] Go.wp_at_zero Go.wp_at_succ
/-- The cells of a row of one token that has one element. -/
theorem one_tok {w w6 : World} {base : Nat} {T : TypeId} {A : Option Addr} {n c k a m : Nat} {ps : List TP} {x : Cls} (hT : TRow w base T A n c ps) (hps : ps.map TP.t = [⟨k, a, m, [x]⟩]) (hc : Chg Nothing w w6) :
    ∃ g o g1 o1 c1, n = 1 ∧ A = some ⟨g, o, none⟩ ∧ g < w6.heap.size ∧ g1 < w6.heap.size ∧ n ≤ c ∧ c ≤ 9223372036854775807 ∧ 1 ≤ c1 ∧ c1 ≤ 9223372036854775807 ∧ w6.cell? ⟨g, o, none⟩ = some (.int .i64 k) ∧ w6.cell? ⟨g, o + 3, none⟩ = some (.slice (some ⟨g1, o1, none⟩) 1 c1) ∧
      w6.cell? ⟨g1, o1, none⟩ = some (.int .u64 (wd x 0)) ∧ w6.cell? ⟨g1, o1 + 1, none⟩ = some (.int .u64 (wd x 1)) ∧ w6.cell? ⟨g1, o1 + 2, none⟩ = some (.int .u64 (wd x 2)) ∧ w6.cell? ⟨g1, o1 + 3, none⟩ = some (.int .u64 (wd x 3)) := by
  match ps, hps, hT with
  | [⟨t1, A1, l1, c1⟩], hps, hT =>
    simp only [List.map_cons, List.map_nil, List.cons.injEq, and_true] at hps
    subst hps
    obtain rfl : n = 1 := by have := hT.len; simpa using this.symm
    have hR := hT.read
    have h1 := (hT.els ⟨⟨k, a, m, [x]⟩, A1, l1, c1⟩ (by simp))
    obtain rfl : l1 = 1 := by have := h1.len; exact this.symm
    have hR6 := hR.chg hc (fun _ _ _ h => h)
    have h6 := h1.row.chg hc (fun _ _ _ h => h)
    obtain ⟨g, o, rfl, -, hgl, hca⟩ := hR6.row.cells (by decide)
    obtain ⟨g1, o1, e1, -, hgl1, hcp⟩ := h6.cells (show 0 < 1 from by decide)
    replace e1 : A1 = some ⟨g1, o1, none⟩ := e1
    subst e1
    have hle1 := h6.le
    have hmx1 := h6.max
    exact ⟨g, o, g1, o1, c1, rfl, rfl, hgl, hgl1, hR6.row.le, hR6.row.max, hle1, hmx1, hca 0 (by decide), hca 3 (by decide), hcp 0 (show 0 < 1 * 4 from by decide), hcp 1 (show 1 < 1 * 4 from by decide), hcp 2 (show 2 < 1 * 4 from by decide), hcp 3 (show 3 < 1 * 4 from by decide)⟩
set_option maxHeartbeats 8000000 in
set_option maxRecDepth 100000 in
theorem TokenElements_walk (x : Cls) (w : World) :
    Calls Try.prog 4 #[encC x] w fun e w' => e = .returned (.bool true) ∧ Chg Nothing w w' := by
  unfold encC
  have hX := Blk.new w (cellsC x) 35
  have HX := hid hX
  obtain ⟨r0, r1, r2, r3, f0, f1, f2, f3, hlt⟩ := CBox.at_ hX
  clear hX f0 f1 f2 f3
  by_cases hx : x = 0
  · have h1 := hid (show ∀ w, Calls Try.prog 14 #[.agg #[.int .u64 (wd x 0), .int .u64 (wd x 1), .int .u64 (wd x 2), .int .u64 (wd x 3)]] w fun e w' => e = .returned (.tuple #[.string ByteArray.empty, .bool false]) ∧ Chg Nothing w w' from fun w => by have := tokElement_any x w; rw [elem_none hx] at this; exact this)
    have h2 := hid (show ∀ w, Calls Try.prog 15 #[.agg #[.int .u64 (wd x 0), .int .u64 (wd x 1), .int .u64 (wd x 2), .int .u64 (wd x 3)]] w fun e w' => e = .returned (.tuple #[.string ByteArray.empty, .bool false]) ∧ Chg Nothing w w' from fun w => by have := refElement13_any x w; rw [elem_none hx] at this; exact this)
    replace hx := hid hx
    go_enter Try.func4, Try.ntmps4
    go_wp2_with fail
    refine (h1.out _).mono ?_
    rintro e w1 ⟨rfl, hc1⟩
    have q0 := (hc1.cells.1 _ _ hlt).trans r0
    have q1 := (hc1.cells.1 _ _ hlt).trans r1
    have q2 := (hc1.cells.1 _ _ hlt).trans r2
    have q3 := (hc1.cells.1 _ _ hlt).trans r3
    have hC1 := hid (((Chg.refl Nothing w).alloc _).trans hc1)
    clear hc1 r0 r1 r2 r3 hlt
    go_wp2_with fail
    refine (h2.out _).mono ?_
    rintro e w2 ⟨rfl, hc2⟩
    have hC2 := hid (hC1.out.trans hc2)
    clear hc2 q0 q1 q2 q3
    go_wp2_with fail
    refine (lex_any _ _ (Classical.choose_spec (lexS_total _)) _ (by decide)).mono ?_
    rintro e w3 ⟨A, n, c, ps, rfl, -, -, -, hc3⟩
    have hC3 := hid (hC2.out.trans hc3)
    clear hc3
    go_wp2_with fail
    refine (alive_any _).mono ?_
    rintro e w4 ⟨rfl, hc4⟩
    go_wp2
    go_ret
    exact ⟨rfl, hC3.out.trans hc4⟩
  · have h1 := hid (show ∀ w, Calls Try.prog 14 #[.agg #[.int .u64 (wd x 0), .int .u64 (wd x 1), .int .u64 (wd x 2), .int .u64 (wd x 3)]] w fun e w' => e = .returned (.tuple #[.string (elemD x), .bool true]) ∧ Chg Nothing w w' from fun w => by have := tokElement_any x w; rw [elem_some hx] at this; exact this)
    have h2 := hid (show ∀ w, Calls Try.prog 15 #[.agg #[.int .u64 (wd x 0), .int .u64 (wd x 1), .int .u64 (wd x 2), .int .u64 (wd x 3)]] w fun e w' => e = .returned (.tuple #[.string (elemD x), .bool true]) ∧ Chg Nothing w w' from fun w => by have := refElement13_any x w; rw [elem_some hx] at this; exact this)
    have hds := elemD_size x
    have hL : Hid ((elemD x).size ≤ 900 → lexS ((⟨#[34]⟩ ++ elemD x) ++ ⟨#[34]⟩) (.ok [⟨8, 0, 0, [x]⟩] ((elemD x).size + 2))) := hid (fun h => lexS_elem hx h)
    have hzz := hid (show ((⟨#[34]⟩ ++ elemD x) ++ ⟨#[34]⟩ : ByteArray).size ≤ 9000 from by
      have z1 : (⟨#[34]⟩ : ByteArray).size = 1 := rfl
      rw [ByteArray.size_append, ByteArray.size_append, z1]; omega)
    replace hx := hid hx
    obtain ⟨t, ht⟩ : ∃ t, t = elemD x := ⟨_, rfl⟩
    rw [← ht] at h1 h2 hds hL hzz
    replace ht := hid ht
    have hq := eq_class x x
    rw [decide_eq_true rfl] at hq
    unfold encC at hq
    by_cases hbig : 900 < t.size
    · have hb : (900 : Int) < (t.size : Int) := by omega
      clear hL
      go_enter Try.func4, Try.ntmps4
      go_wp2_with fail
      refine (h1.out _).mono ?_
      rintro e w1 ⟨rfl, hc1⟩
      have q0 := (hc1.cells.1 _ _ hlt).trans r0
      have q1 := (hc1.cells.1 _ _ hlt).trans r1
      have q2 := (hc1.cells.1 _ _ hlt).trans r2
      have q3 := (hc1.cells.1 _ _ hlt).trans r3
      have hC1 := hid (((Chg.refl Nothing w).alloc _).trans hc1)
      clear hc1 r0 r1 r2 r3 hlt
      go_wp2_with fail
      refine (h2.out _).mono ?_
      rintro e w2 ⟨rfl, hc2⟩
      have hC2 := hid (hC1.out.trans hc2)
      clear hc2 q0 q1 q2 q3
      go_wp2_with fail
      refine (lex_any _ _ (Classical.choose_spec (lexS_total _)) _ (by have := hzz.out; omega)).mono ?_
      rintro e w3 ⟨A, n, c, ps, rfl, -, -, -, hc3⟩
      have hC3 := hid (hC2.out.trans hc3)
      clear hc3
      go_wp2_with fail
      refine (alive_any _).mono ?_
      rintro e w4 ⟨rfl, hc4⟩
      go_wp2
      go_ret
      exact ⟨rfl, hC3.out.trans hc4⟩
    · have hb : ¬ (900 : Int) < (t.size : Int) := by omega
      replace hL := hid (hL.out (by omega))
      go_enter Try.func4, Try.ntmps4
      go_wp2_with fail
      refine (h1.out _).mono ?_
      rintro e w1 ⟨rfl, hc1⟩
      have q0 := (hc1.cells.1 _ _ hlt).trans r0
      have q1 := (hc1.cells.1 _ _ hlt).trans r1
      have q2 := (hc1.cells.1 _ _ hlt).trans r2
      have q3 := (hc1.cells.1 _ _ hlt).trans r3
      have hlt1 := Nat.lt_of_lt_of_le hlt hc1.size
      have hC1 := hid (((Chg.refl Nothing w).alloc _).trans hc1)
      clear hc1 r0 r1 r2 r3 hlt
      go_wp2_with fail
      refine (h2.out _).mono ?_
      rintro e w2 ⟨rfl, hc2⟩
      have r0 := (hc2.cells.1 _ _ hlt1).trans q0
      have r1 := (hc2.cells.1 _ _ hlt1).trans q1
      have r2 := (hc2.cells.1 _ _ hlt1).trans q2
      have r3 := (hc2.cells.1 _ _ hlt1).trans q3
      have hlt := Nat.lt_of_lt_of_le hlt1 hc2.size
      have hC2 := hid (hC1.out.trans hc2)
      clear hc2 q0 q1 q2 q3 hlt1
      go_wp2_with fail
      refine (lex_any _ _ hL.out _ (by have := hzz.out; omega)).mono ?_
      rintro e w3 ⟨A, n, c, ps, rfl, hT, hl, -, hc3⟩
      have hps := hl _ _ rfl
      clear hl
      simp only [Rd.at_, Rd.no]
      have q0 := Calm.cell (Nat.lt_of_lt_of_le hlt hc3.size) ((hc3.cells.1 _ _ hlt).trans r0)
      have q1 := Calm.cell (Nat.lt_of_lt_of_le hlt hc3.size) ((hc3.cells.1 _ _ hlt).trans r1)
      have q2 := Calm.cell (Nat.lt_of_lt_of_le hlt hc3.size) ((hc3.cells.1 _ _ hlt).trans r2)
      have q3 := Calm.cell (Nat.lt_of_lt_of_le hlt hc3.size) ((hc3.cells.1 _ _ hlt).trans r3)
      have hC3 := hid (hC2.out.trans hc3)
      obtain ⟨g, o, g1, o1, c1, rfl, rfl, hgl, hgl1, m1, m2, m3, m4, a0, a3, p0, p1, p2, p3⟩ := one_tok hT hps (Chg.refl _ _)
      replace a3 := Calm.cell hgl a3
      replace p0 := Calm.cell hgl1 p0
      replace p1 := Calm.cell hgl1 p1
      replace p2 := Calm.cell hgl1 p2
      replace p3 := Calm.cell hgl1 p3
      clear hc3 hT hps r0 r1 r2 r3 hlt hgl hgl1 a0
      go_wp2_with fail
      try simp only [List.append_eq, List.cons_append, List.nil_append]
      refine wp_region_calm_lit (by kernel_rfl) (by kernel_rfl) ?_
      repeat (go_big_quiet_step (((go_at_call 9; exact calm_of (alive_any _)))))
      refine wpQuiet_nil ?_
      intro _ hw'
      obtain ⟨nq, hw''⟩ := hw'
      subst hw''
      go_wp2
      go_ret
      exact ⟨rfl, hC3.out.trans nq.chg⟩
end Go.Proofs.Ytpndjehiacmngaa
