/- Layer 13's laws: alive. -/
import Derived.Test.YtpndjehiacmngaaSamB
import Derived.Test.YtpndjehiacmngaaAliA
import Derived.Test.YtpndjehiacmngaaCalm
namespace Go.Proofs.Ytpndjehiacmngaa
open Go.RowKit
set_option linter.unusedVariables false
attribute [local go_sem ↓] Go.wp_at_zero Go.wp_at_succ
theorem lexSA : lexS sA (.ok [tA1, tA2] 11) := by unfold lexS; rw [if_neg (by decide)]; exact lexA
theorem lexSB : lexS sB (.bad 1 132) := by unfold lexS; rw [if_neg (by decide)]; exact lexB
theorem elemA_any (w : World) : Calls Try.prog 14 #[.agg #[.int .u64 (wd (rangeC 98 100) 0), .int .u64 (wd (rangeC 98 100) 1), .int .u64 (wd (rangeC 98 100) 2), .int .u64 (wd (rangeC 98 100) 3)]] w fun e w' => e = .returned (.tuple #[.string ⟨#[91, 98, 45, 100, 93]⟩, .bool true]) ∧ Chg Nothing w w' := by
  have := tokElement_any (rangeC 98 100) w
  rw [elemA] at this; exact this
theorem rangeA_any (w : World) : Calls Try.prog 19 #[.int .u8 98, .int .u8 100] w fun e w' => e = .returned (.agg #[.int .u64 (wd (rangeC 98 100) 0), .int .u64 (wd (rangeC 98 100) 1), .int .u64 (wd (rangeC 98 100) 2), .int .u64 (wd (rangeC 98 100) 3)]) ∧ Chg Nothing w w' := classRangeL 98 100 w (by decide) (by decide)
set_option maxHeartbeats 80000000 in
set_option maxRecDepth 100000 in
theorem alive_any (w : World) : Calls Try.prog 9 #[] w fun e w' => e = .returned (.bool true) ∧ Chg Nothing w w' := by
  go_enter Try.func9, Try.ntmps9
  go_wp2_with fail
  refine (lex_any sA _ lexSA _ (by decide)).mono ?_
  rintro e w1 ⟨A, n, c, ps, rfl, hT, hl, -, hc1⟩
  have hps := hl _ _ rfl
  clear hl
  match ps, hps, hT with
  | [⟨t1, A1, l1, c1⟩, ⟨t2, A2, l2, c2⟩], hps, hT =>
    simp only [List.map_cons, List.map_nil, List.cons.injEq, and_true] at hps
    obtain ⟨rfl, rfl⟩ := hps
    obtain rfl : n = 2 := by have := hT.len; simpa using this.symm
    have hR := hid hT.read
    have h1 := hid ((hT.els ⟨tA1, A1, l1, c1⟩ (by simp)).row.mono (G := fun _ => True) (fun _ _ _ => trivial))
    obtain rfl : l1 = 3 := by have := (hT.els ⟨tA1, A1, l1, c1⟩ (by simp)).len; exact this.symm
    clear hT
    have hC := hid hc1
    clear hc1
    simp only [Rd.at_, Rd.no]
    go_wp2_with fail
    refine (lex_any sB _ lexSB _ (by decide)).mono ?_
    rintro e w2 ⟨A', n', c', ps', rfl, -, -, -, hc2⟩
    have hR2 := hid (hR.out.chg hc2 (fun _ _ _ h => h))
    have h2 := hid (h1.out.chg hc2 (fun _ _ _ h => h))
    have hC2 := hid (hC.out.trans hc2)
    clear hc2 hR h1 hC
    simp only [Rd.at_, Rd.no]
    go_wp2_with fail
    refine (rangeA_any _).mono ?_
    rintro e w3 ⟨rfl, hc3⟩
    go_wp2_with fail
    refine (elemA_any _).mono ?_
    rintro e w4 ⟨rfl, hc4⟩
    go_wp2_with fail
    refine (print_shift _).mono ?_
    rintro e w5 ⟨rfl, hc5⟩
    go_wp2_with fail
    refine (print_zero _).mono ?_
    rintro e w6 ⟨rfl, hc6⟩
    have hc := ((hc3.trans hc4).trans hc5).trans hc6
    have hR6 := hR2.out.chg hc (fun _ _ _ h => h)
    have h6 := h2.out.chg hc (fun _ _ _ h => h)
    have hC6 := hid (hC2.out.trans hc)
    clear hc hc3 hc4 hc5 hc6 hC2 hR2 h2
    obtain ⟨g, o, rfl, -, hgl, hca⟩ := hR6.row.cells (by decide)
    have hle := hR6.row.le
    have hmx := hR6.row.max
    have a0 := hca 0 (by decide)
    have a3 := hca 3 (by decide)
    have a4 := hca 4 (by decide)
    have a5 := hca 5 (by decide)
    have a6 := hca 6 (by decide)
    obtain ⟨g1, o1, e1, -, hgl1, hcp⟩ := h6.cells (by decide)
    replace e1 : A1 = some ⟨g1, o1, none⟩ := e1
    subst e1
    have hle1 := h6.le
    have hmx1 := h6.max
    replace hle1 : 3 ≤ c1 := hle1
    replace hmx1 : c1 ≤ 9223372036854775807 := hmx1
    have p0 := hcp 8 (by decide)
    have p1 := hcp 9 (by decide)
    have p2 := hcp 10 (by decide)
    have p3 := hcp 11 (by decide)
    simp only [tpL, clsL, tA1, tA2, List.flatMap_cons, List.flatMap_nil, List.append_nil, List.cons_append, List.nil_append, List.getD_cons_zero, List.getD_cons_succ] at a0 a3 a4 a5 a6 p0 p1 p2 p3
    clear hca hcp hR6 h6
    replace a0 : w6.cell? ⟨g, o, none⟩ = some (.int .i64 8) := a0
    replace a3 : w6.cell? ⟨g, o + 3, none⟩ = some (.slice (some ⟨g1, o1, none⟩) 3 c1) := a3
    replace a4 : w6.cell? ⟨g, o + 4, none⟩ = some (.int .i64 7) := a4
    replace a5 : w6.cell? ⟨g, o + 5, none⟩ = some (.int .i64 9) := a5
    replace a6 : w6.cell? ⟨g, o + 6, none⟩ = some (.int .i64 2) := a6
    replace a0 := Calm.cell hgl a0
    replace a3 := Calm.cell hgl a3
    replace a4 := Calm.cell hgl a4
    replace a5 := Calm.cell hgl a5
    replace a6 := Calm.cell hgl a6
    replace p0 := Calm.cell hgl1 p0
    replace p1 := Calm.cell hgl1 p1
    replace p2 := Calm.cell hgl1 p2
    replace p3 := Calm.cell hgl1 p3
    have a5' : ∀ n : Calm w6, n.val.cell? ⟨g, o + 4 + 1, none⟩ = some (.int .i64 9) := a5
    have a6' : ∀ n : Calm w6, n.val.cell? ⟨g, o + 4 + 2, none⟩ = some (.int .i64 2) := a6
    have p1' : ∀ n : Calm w6, n.val.cell? ⟨g1, o1 + 8 + 1, none⟩ = _ := p1
    have p2' : ∀ n : Calm w6, n.val.cell? ⟨g1, o1 + 8 + 2, none⟩ = _ := p2
    have p3' : ∀ n : Calm w6, n.val.cell? ⟨g1, o1 + 8 + 3, none⟩ = _ := p3
    have hq := eq_class (rangeC 98 100) (rangeC 98 100)
    rw [decide_eq_true rfl] at hq
    unfold encC at hq
    clear hgl hgl1
    go_wp2_with fail
    try simp only [List.append_eq, List.cons_append, List.nil_append]
    refine wp_region_calm_lit (by kernel_rfl) (by kernel_rfl) ?_
    repeat (go_big_quiet_step (((go_at_call 19; exact calm_of (rangeA_any _)))))
    refine wpQuiet_nil ?_
    intro _ hw'
    obtain ⟨nq, hw''⟩ := hw'
    subst hw''
    go_wp2
    go_ret
    exact ⟨rfl, hC6.out.trans nq.chg⟩
end Go.Proofs.Ytpndjehiacmngaa
