/- Layer 18: the walks of EvalChecks, EvalWays, EvalFinds, EvalSame. (printed by gen_evh.py) -/
import Derived.Test.YtoelilejohfglaaGreatBnEw
set_option maxHeartbeats 16000000
set_option maxRecDepth 100000
namespace Go.Proofs.YtoelilejohfglaaGreat
open Go.RowKit
set_option linter.unusedVariables false
set_option linter.unusedSimpArgs false
abbrev AnyRow (w : World) (A : Option Addr) (l c : Nat) (xs : List Cls) : Prop := RowAt 4 (fun k => k < w.heap.size) w A l c (xs.flatMap clsL)
theorem AnyRow.calm {w w' : World} {A : Option Addr} {l c : Nat} {xs : List Cls} (h : AnyRow w A l c xs) (hc : Chg Nothing w w') : AnyRow w' A l c xs := (h.chg hc (fun _ _ _ h => h)).mono (fun k hk _ => hk)
theorem revalFlat {V : List Int} {C E : Int} {f : FuncId} {args : Array Value} {w : World} (h : Calls Tryz.prog f args w (REvalAns V C E w)) : Calls Tryz.prog f args w fun e w' => ∃ A c, e = .returned (.tuple #[.slice A V.length c, .int .i64 C, .int .i64 E]) ∧ Rd18 w' A c V ∧ Chg Nothing w w' := h
theorem EvalChecks_walk (A : Option Addr) (n c : Nat) (ps : List NP) (force size : Int) (w : World) (H : NRow (fun k => k < w.heap.size) w A n c ps) (hl : ∀ p ∈ ps, p.l * 32 ≤ 140737488351232) (hn : n * 48 ≤ 140737488351232) (hz : (-9223372036854775808 ≤ force ∧ force ≤ 9223372036854775807) ∧ (-9223372036854775808 ≤ size ∧ size ≤ 9223372036854775807)) :
  Calls Tryz.prog 3 #[.slice A n c, .agg #[.int .i64 force, .int .i64 size]] w fun e w' => e = .returned (.bool true) ∧ Chg Nothing w w' := by
 have hU := hid (Blk.new w #[.int .i64 force, .int .i64 size] 24)
 have hC := hid ((Chg.refl Nothing w).alloc (.cells #[.int .i64 force, .int .i64 size] 24))
 have hHH := hid (fun (w' : World) (hc : Chg Nothing w w') => H.calm hc)
 have hFw := hid (fun (w' : World) (hc : Chg Nothing w w') => few18_any _ A n c ps ⟨#[]⟩ w' (hHH.out w' hc))
 clear H hl hn
 go_enter Tryz.func3, Tryz.ntmps3
 have u0 := hU.out.cell 0 (v := .int .i64 force) rfl
 have u1 := hU.out.cell 1 (v := .int .i64 size) rfl
 go_wp2_with fail
 refine (hFw.out _ hC.out).mono ?_
 rintro e w1 ⟨b, rfl, hb, hc1⟩
 clear u0 u1
 replace hU := hid (hU.out.chg hc1 id)
 replace hC := hid (hC.out.trans hc1)
 clear hc1
 have u0 := hU.out.cell 0 (v := .int .i64 force) rfl
 have u1 := hU.out.cell 1 (v := .int .i64 size) rfl
 cases b with
 | false =>
  go_wp2_with fail
  refine (alive18 _).mono ?_
  rintro e w2 ⟨rfl, hc2⟩
  clear u0 u1
  replace hU := hid (hU.out.chg hc2 id)
  replace hC := hid (hC.out.trans hc2)
  clear hc2
  have u0 := hU.out.cell 0 (v := .int .i64 force) rfl
  have u1 := hU.out.cell 1 (v := .int .i64 size) rfl
  go_wp2
  go_ret
  exact ⟨rfl, hC.out⟩
 | true =>
  obtain ⟨hn9, -⟩ := hb.out rfl
  have hP1 := hid (fun (w' : World) (hc : Chg Nothing w1 w') => evalCheck_any _ A n c ps force size w' (hHH.out w' (hC.out.trans hc)) (by omega))
  have hP2 := hid (fun (w' : World) (hc : Chg Nothing w1 w') => refCheck18_any _ A n c ps force size w' (hHH.out w' (hC.out.trans hc)) (by omega))
  generalize evE ps force size = E at *
  go_wp2_with fail
  have zu0 := Calm.cell (hU.out.lt) (hU.out.cell 0 (v := .int .i64 force) rfl)
  have zu1 := Calm.cell (hU.out.lt) (hU.out.cell 1 (v := .int .i64 size) rfl)
  try simp only [List.append_eq, List.cons_append, List.nil_append]
  refine wp_region_calm_lit (by kernel_rfl) (by kernel_rfl) ?_
  repeat (go_big_quiet_step (((first | (go_at_call 10; exact calm_of (alive18 _)) | (go_at_call 11; exact calm_of (hP1.out _ (Calm.chg _))) | (go_at_call 12; exact calm_of (hP2.out _ (Calm.chg _)))))))
  refine wpQuiet_nil ?_
  intro _ hw'
  obtain ⟨nq, hw''⟩ := hw'
  subst hw''
  clear u0 u1 zu0 zu1
  have hcq := nq.chg
  replace hU := hid (hU.out.chg hcq id)
  replace hC := hid (hC.out.trans hcq)
  clear hcq
  have u0 := hU.out.cell 0 (v := .int .i64 force) rfl
  have u1 := hU.out.cell 1 (v := .int .i64 size) rfl
  go_wp2
  go_ret
  exact ⟨rfl, hC.out⟩
theorem EvalWays_walk (A : Option Addr) (l c : Nat) (xs : List Cls) (K : Int) (s : ByteArray) (force size : Int) (w : World) (H : AnyRow w A l c xs) (hl : xs.length = l) (hf : l * 32 ≤ 140737488351232) (hK : -9223372036854775808 ≤ K ∧ K ≤ 9223372036854775807) (hs : s.size ≤ 140737488351232) (hz : (-9223372036854775808 ≤ force ∧ force ≤ 9223372036854775807) ∧ (-9223372036854775808 ≤ size ∧ size ≤ 9223372036854775807)) :
  Calls Tryz.prog 4 #[.agg #[.slice A l c, .int .i64 K], .string s, .agg #[.int .i64 force, .int .i64 size]] w fun e w' => e = .returned (.bool true) ∧ Chg Nothing w w' := by
 have hX := hid ((Blk.new w #[.slice A l c, .int .i64 K] 34).alloc (.cells #[.int .i64 force, .int .i64 size] 24))
 have hU := Blk.new (w.alloc (.cells #[.slice A l c, .int .i64 K] 34)) #[.int .i64 force, .int .i64 size] 24
 rw [World.size_alloc] at hU
 replace hU := hid hU
 have hC := hid (((Chg.refl Nothing w).alloc (.cells #[.slice A l c, .int .i64 K] 34)).alloc (.cells #[.int .i64 force, .int .i64 size] 24))
 have hHH := hid (fun (w' : World) (hc : Chg Nothing w w') => H.calm hc)
 have hlh := hid hl
 have hle := H.le
 have hmx := H.max
 clear H hl
 by_cases h1 : l ≤ 100
 ·have e1 : decide ((100 : Int) < (l : Int)) = false := decide_eq_false (by omega)
  by_cases h2 : s.size ≤ 300
  ·have e2 : decide ((300 : Int) < (s.size : Int)) = false := decide_eq_false (by omega)
   have hV0 := Blk.new ((w.alloc (.cells #[.slice A l c, .int .i64 K] 34)).alloc (.cells #[.int .i64 force, .int .i64 size] 24)) #[.int .i64 force, .int .i64 size] 29
   rw [World.size_alloc, World.size_alloc] at hV0
   have x0 := hX.out.cell 0 (v := .slice A l c) rfl
   have x1 := hX.out.cell 1 (v := .int .i64 K) rfl
   have u0 := hU.out.cell 0 (v := .int .i64 force) rfl
   have u1 := hU.out.cell 1 (v := .int .i64 size) rfl
   replace hX := hid (hX.out.alloc (.cells #[.int .i64 force, .int .i64 size] 29))
   replace hU := hid (hU.out.alloc (.cells #[.int .i64 force, .int .i64 size] 29))
   replace hC := hid (hC.out.alloc (.cells #[.int .i64 force, .int .i64 size] 29))
   have hV := hid hV0
   clear hV0
   have hP1 := hid (fun (w' : World) => evalSize_any A l c K s.size force size w')
   have hP2 := hid (fun (w' : World) => ref18Size_any A l c K s.size force size w')
   have hP3 := hid (fun (w' : World) (hc : Chg Nothing w w') => evalWay_any _ A l c xs K s.size force size w' (hHH.out w' hc) hlh.out (by omega))
   have hP4 := hid (fun (w' : World) (hc : Chg Nothing w w') => ref18Way_any _ A l c xs K s.size force size w' (hHH.out w' hc) hlh.out (by omega))
   have hP5 := hid (fun (w' : World) (hc : Chg Nothing w w') => symFlat (evalLeaf_any _ A l c xs K force size s w' (hHH.out w' hc) (fun _ h => h) hlh.out (by omega) (by omega)))
   have hP6 := hid (fun (w' : World) (hc : Chg Nothing w w') => symFlat (ref18Leaf_any _ A l c xs K force size s w' (hHH.out w' hc) (fun _ h => h) hlh.out (by omega) (by omega)))
   generalize evS l s.size size = z at *
   generalize evW xs K force s.size size = y at *
   generalize mF xs K y s z = ys at *
   generalize mN xs K y s.size z = num at *
   generalize mE xs K y s.size z = E at *
   go_enter Tryz.func4, Tryz.ntmps4
   go_wp2_with fail
   have zx0 := Calm.cell (hX.out.lt) (hX.out.cell 0 (v := .slice A l c) rfl)
   have zx1 := Calm.cell (hX.out.lt) (hX.out.cell 1 (v := .int .i64 K) rfl)
   have zu0 := Calm.cell (hU.out.lt) (hU.out.cell 0 (v := .int .i64 force) rfl)
   have zu1 := Calm.cell (hU.out.lt) (hU.out.cell 1 (v := .int .i64 size) rfl)
   have zv0 := Calm.cell (hV.out.lt) (hV.out.cell 0 (v := .int .i64 force) rfl)
   have zv1 := Calm.cell (hV.out.lt) (hV.out.cell 1 (v := .int .i64 size) rfl)
   try simp only [List.append_eq, List.cons_append, List.nil_append]
   refine wp_region_calm_lit (by kernel_rfl) (by kernel_rfl) ?_
   repeat (go_big_quiet_step (((first | (go_at_call 13; exact calm_of (hP1.out _)) | (go_at_call 14; exact calm_of (hP2.out _)) | (go_at_call 15; exact calm_of (hP3.out _ (hC.out.trans (Calm.chg _)))) | (go_at_call 16; exact calm_of (hP4.out _ (hC.out.trans (Calm.chg _))))))))
   refine wpQuiet_nil ?_
   intro _ hw'
   obtain ⟨nq, hw''⟩ := hw'
   subst hw''
   clear x0 x1 u0 u1 zx0 zx1 zu0 zu1 zv0 zv1
   have hcq := nq.chg
   replace hX := hid (hX.out.chg hcq id)
   replace hU := hid (hU.out.chg hcq id)
   replace hV := hid (hV.out.chg hcq id)
   replace hC := hid (hC.out.trans hcq)
   clear hcq
   have x0 := hX.out.cell 0 (v := .slice A l c) rfl
   have x1 := hX.out.cell 1 (v := .int .i64 K) rfl
   have u0 := hU.out.cell 0 (v := .int .i64 force) rfl
   have u1 := hU.out.cell 1 (v := .int .i64 size) rfl
   have v0 := hV.out.cell 0 (v := .int .i64 force) rfl
   have v1 := hV.out.cell 1 (v := .int .i64 size) rfl
   go_wp2_with fail
   refine (hP5.out _ hC.out).mono ?_
   rintro e w1 ⟨A1, c1, rfl, hO, hc1⟩
   clear x0 x1 u0 u1 v0 v1
   replace hX := hid (hX.out.chg hc1 id)
   replace hU := hid (hU.out.chg hc1 id)
   replace hV := hid (hV.out.chg hc1 id)
   replace hC := hid (hC.out.trans hc1)
   have hO1 := hid (hO.els.mono (G := fun _ => True) (fun _ _ _ => trivial))
   clear hO
   clear hc1
   have x0 := hX.out.cell 0 (v := .slice A l c) rfl
   have x1 := hX.out.cell 1 (v := .int .i64 K) rfl
   have u0 := hU.out.cell 0 (v := .int .i64 force) rfl
   have u1 := hU.out.cell 1 (v := .int .i64 size) rfl
   have v0 := hV.out.cell 0 (v := .int .i64 force) rfl
   have v1 := hV.out.cell 1 (v := .int .i64 size) rfl
   go_wp2_with fail
   refine (hP6.out _ hC.out).mono ?_
   rintro e w2 ⟨A2, c2, rfl, hO, hc2⟩
   clear x0 x1 u0 u1 v0 v1
   replace hO1 := hid (hO1.out.chg hc2 (fun _ _ _ h => h))
   replace hX := hid (hX.out.chg hc2 id)
   replace hU := hid (hU.out.chg hc2 id)
   replace hV := hid (hV.out.chg hc2 id)
   replace hC := hid (hC.out.trans hc2)
   have hO2 := hid (hO.els.mono (G := fun _ => True) (fun _ _ _ => trivial))
   clear hO
   clear hc2
   have x0 := hX.out.cell 0 (v := .slice A l c) rfl
   have x1 := hX.out.cell 1 (v := .int .i64 K) rfl
   have u0 := hU.out.cell 0 (v := .int .i64 force) rfl
   have u1 := hU.out.cell 1 (v := .int .i64 size) rfl
   have v0 := hV.out.cell 0 (v := .int .i64 force) rfl
   have v1 := hV.out.cell 1 (v := .int .i64 size) rfl
   go_wp2_with fail
   refine (alive18 _).mono ?_
   rintro e w3 ⟨rfl, hc3⟩
   clear x0 x1 u0 u1 v0 v1
   replace hO1 := hid (hO1.out.chg hc3 (fun _ _ _ h => h))
   replace hO2 := hid (hO2.out.chg hc3 (fun _ _ _ h => h))
   replace hX := hid (hX.out.chg hc3 id)
   replace hU := hid (hU.out.chg hc3 id)
   replace hV := hid (hV.out.chg hc3 id)
   replace hC := hid (hC.out.trans hc3)
   clear hc3
   have x0 := hX.out.cell 0 (v := .slice A l c) rfl
   have x1 := hX.out.cell 1 (v := .int .i64 K) rfl
   have u0 := hU.out.cell 0 (v := .int .i64 force) rfl
   have u1 := hU.out.cell 1 (v := .int .i64 size) rfl
   have v0 := hV.out.cell 0 (v := .int .i64 force) rfl
   have v1 := hV.out.cell 1 (v := .int .i64 size) rfl
   go_wp2_with fail
   refine (same_intsM hO1.out hO2.out).mono ?_
   rintro e w4 ⟨rfl, hc4⟩
   clear x0 x1 u0 u1 v0 v1
   replace hO1 := hid (hO1.out.chg hc4 (fun _ _ _ h => h))
   replace hO2 := hid (hO2.out.chg hc4 (fun _ _ _ h => h))
   replace hX := hid (hX.out.chg hc4 id)
   replace hU := hid (hU.out.chg hc4 id)
   replace hV := hid (hV.out.chg hc4 id)
   replace hC := hid (hC.out.trans hc4)
   clear hc4
   have x0 := hX.out.cell 0 (v := .slice A l c) rfl
   have x1 := hX.out.cell 1 (v := .int .i64 K) rfl
   have u0 := hU.out.cell 0 (v := .int .i64 force) rfl
   have u1 := hU.out.cell 1 (v := .int .i64 size) rfl
   have v0 := hV.out.cell 0 (v := .int .i64 force) rfl
   have v1 := hV.out.cell 1 (v := .int .i64 size) rfl
   go_wp2
   go_ret
   exact ⟨rfl, hC.out⟩
  ·have e2 : decide ((300 : Int) < (s.size : Int)) = true := decide_eq_true (by omega)
   have x0 := hX.out.cell 0 (v := .slice A l c) rfl
   have x1 := hX.out.cell 1 (v := .int .i64 K) rfl
   have u0 := hU.out.cell 0 (v := .int .i64 force) rfl
   have u1 := hU.out.cell 1 (v := .int .i64 size) rfl
   go_enter Tryz.func4, Tryz.ntmps4
   go_wp2_with fail
   refine (alive18 _).mono ?_
   rintro e w1 ⟨rfl, hc1⟩
   clear x0 x1 u0 u1
   replace hX := hid (hX.out.chg hc1 id)
   replace hU := hid (hU.out.chg hc1 id)
   replace hC := hid (hC.out.trans hc1)
   clear hc1
   have x0 := hX.out.cell 0 (v := .slice A l c) rfl
   have x1 := hX.out.cell 1 (v := .int .i64 K) rfl
   have u0 := hU.out.cell 0 (v := .int .i64 force) rfl
   have u1 := hU.out.cell 1 (v := .int .i64 size) rfl
   go_wp2
   go_ret
   exact ⟨rfl, hC.out⟩
 ·have e1 : decide ((100 : Int) < (l : Int)) = true := decide_eq_true (by omega)
  have x0 := hX.out.cell 0 (v := .slice A l c) rfl
  have x1 := hX.out.cell 1 (v := .int .i64 K) rfl
  have u0 := hU.out.cell 0 (v := .int .i64 force) rfl
  have u1 := hU.out.cell 1 (v := .int .i64 size) rfl
  go_enter Tryz.func4, Tryz.ntmps4
  go_wp2_with fail
  refine (alive18 _).mono ?_
  rintro e w1 ⟨rfl, hc1⟩
  clear x0 x1 u0 u1
  replace hX := hid (hX.out.chg hc1 id)
  replace hU := hid (hU.out.chg hc1 id)
  replace hC := hid (hC.out.trans hc1)
  clear hc1
  have x0 := hX.out.cell 0 (v := .slice A l c) rfl
  have x1 := hX.out.cell 1 (v := .int .i64 K) rfl
  have u0 := hU.out.cell 0 (v := .int .i64 force) rfl
  have u1 := hU.out.cell 1 (v := .int .i64 size) rfl
  go_wp2
  go_ret
  exact ⟨rfl, hC.out⟩
theorem EvalFinds_walk (A : Option Addr) (n c : Nat) (ps : List NP) (s : ByteArray) (force size : Int) (w : World) (H : NRow (fun k => k < w.heap.size) w A n c ps) (hl : ∀ p ∈ ps, p.l * 32 ≤ 140737488351232) (hn : n * 48 ≤ 140737488351232) (hs : s.size ≤ 140737488351232) (hz : (-9223372036854775808 ≤ force ∧ force ≤ 9223372036854775807) ∧ (-9223372036854775808 ≤ size ∧ size ≤ 9223372036854775807)) :
  Calls Tryz.prog 6 #[.slice A n c, .string s, .agg #[.int .i64 force, .int .i64 size]] w fun e w' => e = .returned (.bool true) ∧ Chg Nothing w w' := by
 have hU := hid (Blk.new w #[.int .i64 force, .int .i64 size] 24)
 have hC := hid ((Chg.refl Nothing w).alloc (.cells #[.int .i64 force, .int .i64 size] 24))
 have hHH := hid (fun (w' : World) (hc : Chg Nothing w w') => H.calm hc)
 have hFw := hid (fun (w' : World) (hc : Chg Nothing w w') => few18_any _ A n c ps s w' (hHH.out w' hc))
 clear H hl hn
 go_enter Tryz.func6, Tryz.ntmps6
 have u0 := hU.out.cell 0 (v := .int .i64 force) rfl
 have u1 := hU.out.cell 1 (v := .int .i64 size) rfl
 go_wp2_with fail
 refine (hFw.out _ hC.out).mono ?_
 rintro e w1 ⟨b, rfl, hb, hc1⟩
 clear u0 u1
 replace hU := hid (hU.out.chg hc1 id)
 replace hC := hid (hC.out.trans hc1)
 clear hc1
 have u0 := hU.out.cell 0 (v := .int .i64 force) rfl
 have u1 := hU.out.cell 1 (v := .int .i64 size) rfl
 cases b with
 | false =>
  go_wp2_with fail
  refine (alive18 _).mono ?_
  rintro e w2 ⟨rfl, hc2⟩
  clear u0 u1
  replace hU := hid (hU.out.chg hc2 id)
  replace hC := hid (hC.out.trans hc2)
  clear hc2
  have u0 := hU.out.cell 0 (v := .int .i64 force) rfl
  have u1 := hU.out.cell 1 (v := .int .i64 size) rfl
  go_wp2
  go_ret
  exact ⟨rfl, hC.out⟩
 | true =>
  obtain ⟨hn9, hs9⟩ := hb.out rfl
  have hP1 := hid (fun (w' : World) (hc : Chg Nothing w w') => symFlat (evalEval_any _ A n c ps s force size w' (hHH.out w' hc) (by omega)))
  have hP2 := hid (fun (w' : World) (hc : Chg Nothing w w') => revalFlat (refEval18_any _ A n c ps s force size w' (hHH.out w' hc) (by omega)))
  generalize evR ps force size s = ys at *
  generalize evC ps force size s = num at *
  generalize evX ps force size s = E at *
  go_wp2_with fail
  refine (hP1.out _ hC.out).mono ?_
  rintro e w2 ⟨A2, c2, rfl, hO, hc2⟩
  clear u0 u1
  replace hU := hid (hU.out.chg hc2 id)
  replace hC := hid (hC.out.trans hc2)
  have hO1 := hid (hO.els.mono (G := fun _ => True) (fun _ _ _ => trivial))
  clear hO
  clear hc2
  have u0 := hU.out.cell 0 (v := .int .i64 force) rfl
  have u1 := hU.out.cell 1 (v := .int .i64 size) rfl
  go_wp2_with fail
  refine (hP2.out _ hC.out).mono ?_
  rintro e w3 ⟨A3, c3, rfl, hO, hc3⟩
  clear u0 u1
  replace hO1 := hid (hO1.out.chg hc3 (fun _ _ _ h => h))
  replace hU := hid (hU.out.chg hc3 id)
  replace hC := hid (hC.out.trans hc3)
  have hO2 := hid (ElsAt.mono (G := fun _ => True) hO (fun _ _ _ => trivial))
  clear hO
  clear hc3
  have u0 := hU.out.cell 0 (v := .int .i64 force) rfl
  have u1 := hU.out.cell 1 (v := .int .i64 size) rfl
  go_wp2_with fail
  refine (alive18 _).mono ?_
  rintro e w4 ⟨rfl, hc4⟩
  clear u0 u1
  replace hO1 := hid (hO1.out.chg hc4 (fun _ _ _ h => h))
  replace hO2 := hid (hO2.out.chg hc4 (fun _ _ _ h => h))
  replace hU := hid (hU.out.chg hc4 id)
  replace hC := hid (hC.out.trans hc4)
  clear hc4
  have u0 := hU.out.cell 0 (v := .int .i64 force) rfl
  have u1 := hU.out.cell 1 (v := .int .i64 size) rfl
  go_wp2_with fail
  refine (same_intsM hO1.out hO2.out).mono ?_
  rintro e w5 ⟨rfl, hc5⟩
  clear u0 u1
  replace hO1 := hid (hO1.out.chg hc5 (fun _ _ _ h => h))
  replace hO2 := hid (hO2.out.chg hc5 (fun _ _ _ h => h))
  replace hU := hid (hU.out.chg hc5 id)
  replace hC := hid (hC.out.trans hc5)
  clear hc5
  have u0 := hU.out.cell 0 (v := .int .i64 force) rfl
  have u1 := hU.out.cell 1 (v := .int .i64 size) rfl
  go_wp2
  go_ret
  exact ⟨rfl, hC.out⟩
end Go.Proofs.YtoelilejohfglaaGreat
