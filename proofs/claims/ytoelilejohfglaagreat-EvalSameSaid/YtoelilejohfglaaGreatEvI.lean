/- Layer 18: the walk of EvalSame. (printed by gen_evh.py) -/
import Derived.Test.YtoelilejohfglaaGreatEvH
import Derived.Test.YtoelilejohfglaaGreatOpenM
set_option maxHeartbeats 16000000
set_option maxRecDepth 100000
namespace Go.Proofs.YtoelilejohfglaaGreat
open Go.RowKit
set_option linter.unusedVariables false
set_option linter.unusedSimpArgs false
theorem evR_same (ps : List NP) (fa sa fb sb : Int) (s : ByteArray) : evX ps fa sa s = 0 → evX ps fb sb s = 0 → evR ps fa sa s = evR ps fb sb s := by
 have key : ∀ f z, evX ps f z s = 0 → evR ps f z s = joinL s.size (ps.map NP.x) (rowsF (leavesP ps) s) := by
  intro f z h
  unfold evX at h
  split at h
  ·rename_i h0
   split at h
   ·rename_i h1
    unfold evR
    rw [if_pos ⟨h0, h1⟩]
   ·cases h
  ·rename_i h0
   exact absurd h h0
 intro h1 h2
 rw [key _ _ h1, key _ _ h2]
theorem EvalSame_walk (A : Option Addr) (n c : Nat) (ps : List NP) (s : ByteArray) (fa sa fb sb : Int) (w : World) (H : NRow (fun k => k < w.heap.size) w A n c ps) (hl : ∀ p ∈ ps, p.l * 32 ≤ 140737488351232) (hn : n * 48 ≤ 140737488351232) (hs : s.size ≤ 140737488351232) (hz : (I64 fa ∧ I64 sa) ∧ I64 fb ∧ I64 sb) :
  Calls Tryz.prog 7 #[.slice A n c, .string s, .agg #[.int .i64 fa, .int .i64 sa, .int .i64 fb, .int .i64 sb]] w fun e w' => e = .returned (.bool true) ∧ Chg Nothing w w' := by
 have hU := hid (Blk.new w #[.int .i64 fa, .int .i64 sa, .int .i64 fb, .int .i64 sb] 51)
 have hC := hid ((Chg.refl Nothing w).alloc (.cells #[.int .i64 fa, .int .i64 sa, .int .i64 fb, .int .i64 sb] 51))
 have hHH := hid (fun (w' : World) (hc : Chg Nothing w w') => H.calm hc)
 have hFw := hid (fun (w' : World) (hc : Chg Nothing w w') => few18_any _ A n c ps s w' (hHH.out w' hc))
 clear H hl hn hz
 go_enter Tryz.func7, Tryz.ntmps7
 have u0 := hU.out.cell 0 (v := .int .i64 fa) rfl
 have u1 := hU.out.cell 1 (v := .int .i64 sa) rfl
 have u2 := hU.out.cell 2 (v := .int .i64 fb) rfl
 have u3 := hU.out.cell 3 (v := .int .i64 sb) rfl
 go_wp2_with fail
 refine (hFw.out _ hC.out).mono ?_
 rintro e w1 ⟨b, rfl, hb, hc1⟩
 clear u0 u1 u2 u3
 replace hU := hid (hU.out.chg hc1 id)
 replace hC := hid (hC.out.trans hc1)
 clear hc1
 have u0 := hU.out.cell 0 (v := .int .i64 fa) rfl
 have u1 := hU.out.cell 1 (v := .int .i64 sa) rfl
 have u2 := hU.out.cell 2 (v := .int .i64 fb) rfl
 have u3 := hU.out.cell 3 (v := .int .i64 sb) rfl
 cases b with
 | false =>
  go_wp2_with fail
  refine (alive18 _).mono ?_
  rintro e w2 ⟨rfl, hc2⟩
  clear u0 u1 u2 u3
  replace hU := hid (hU.out.chg hc2 id)
  replace hC := hid (hC.out.trans hc2)
  clear hc2
  have u0 := hU.out.cell 0 (v := .int .i64 fa) rfl
  have u1 := hU.out.cell 1 (v := .int .i64 sa) rfl
  have u2 := hU.out.cell 2 (v := .int .i64 fb) rfl
  have u3 := hU.out.cell 3 (v := .int .i64 sb) rfl
  go_wp2
  go_ret
  exact ⟨rfl, hC.out⟩
 | true =>
  obtain ⟨hn9, hs9⟩ := hb.out rfl
  have hP1 := hid (fun (w' : World) (hc : Chg Nothing w w') => symFlat (evalEval_any _ A n c ps s fa sa w' (hHH.out w' hc) (by omega)))
  have hP2 := hid (fun (w' : World) (hc : Chg Nothing w w') => symFlat (evalEval_any _ A n c ps s fb sb w' (hHH.out w' hc) (by omega)))
  have hsm := hid (evR_same ps fa sa fb sb s)
  generalize evR ps fa sa s = ys1 at *
  generalize evC ps fa sa s = num1 at *
  generalize evX ps fa sa s = E1 at *
  generalize evR ps fb sb s = ys2 at *
  generalize evC ps fb sb s = num2 at *
  generalize evX ps fb sb s = E2 at *
  go_wp2_with fail
  refine (hP1.out _ hC.out).mono ?_
  rintro e w2 ⟨A2, c2, rfl, hO, hc2⟩
  clear u0 u1 u2 u3
  replace hU := hid (hU.out.chg hc2 id)
  replace hC := hid (hC.out.trans hc2)
  have hO1 := hid (hO.els.mono (G := fun _ => True) (fun _ _ _ => trivial))
  clear hO
  clear hc2
  have u0 := hU.out.cell 0 (v := .int .i64 fa) rfl
  have u1 := hU.out.cell 1 (v := .int .i64 sa) rfl
  have u2 := hU.out.cell 2 (v := .int .i64 fb) rfl
  have u3 := hU.out.cell 3 (v := .int .i64 sb) rfl
  go_wp2_with fail
  refine (hP2.out _ hC.out).mono ?_
  rintro e w3 ⟨A3, c3, rfl, hO, hc3⟩
  clear u0 u1 u2 u3
  replace hO1 := hid (hO1.out.chg hc3 (fun _ _ _ h => h))
  replace hU := hid (hU.out.chg hc3 id)
  replace hC := hid (hC.out.trans hc3)
  have hO2 := hid (hO.els.mono (G := fun _ => True) (fun _ _ _ => trivial))
  clear hO
  clear hc3
  have u0 := hU.out.cell 0 (v := .int .i64 fa) rfl
  have u1 := hU.out.cell 1 (v := .int .i64 sa) rfl
  have u2 := hU.out.cell 2 (v := .int .i64 fb) rfl
  have u3 := hU.out.cell 3 (v := .int .i64 sb) rfl
  go_wp2_with fail
  refine (alive18 _).mono ?_
  rintro e w4 ⟨rfl, hc4⟩
  clear u0 u1 u2 u3
  replace hO1 := hid (hO1.out.chg hc4 (fun _ _ _ h => h))
  replace hO2 := hid (hO2.out.chg hc4 (fun _ _ _ h => h))
  replace hU := hid (hU.out.chg hc4 id)
  replace hC := hid (hC.out.trans hc4)
  clear hc4
  have u0 := hU.out.cell 0 (v := .int .i64 fa) rfl
  have u1 := hU.out.cell 1 (v := .int .i64 sa) rfl
  have u2 := hU.out.cell 2 (v := .int .i64 fb) rfl
  have u3 := hU.out.cell 3 (v := .int .i64 sb) rfl
  by_cases hE1 : E1 = 0
  ·by_cases hE2 : E2 = 0
   ·obtain rfl := hsm.out hE1 hE2
    subst hE1 hE2
    go_wp2_with fail
    refine (same_intsM hO1.out hO2.out).mono ?_
    rintro e w5 ⟨rfl, hc5⟩
    clear u0 u1 u2 u3
    replace hO1 := hid (hO1.out.chg hc5 (fun _ _ _ h => h))
    replace hO2 := hid (hO2.out.chg hc5 (fun _ _ _ h => h))
    replace hU := hid (hU.out.chg hc5 id)
    replace hC := hid (hC.out.trans hc5)
    clear hc5
    have u0 := hU.out.cell 0 (v := .int .i64 fa) rfl
    have u1 := hU.out.cell 1 (v := .int .i64 sa) rfl
    have u2 := hU.out.cell 2 (v := .int .i64 fb) rfl
    have u3 := hU.out.cell 3 (v := .int .i64 sb) rfl
    go_wp2
    go_ret
    exact ⟨rfl, hC.out⟩
   ·have hb2 : (E2 != 0) = true := bne_iff_ne.2 hE2
    replace hE2 := hid hE2
    replace hE1 := hid hE1
    have hb1 : (E1 != 0) = false := by rw [hE1.out]; rfl
    go_wp2
    go_ret
    exact ⟨rfl, hC.out⟩
  ·have hb1 : (E1 != 0) = true := bne_iff_ne.2 hE1
   replace hE1 := hid hE1
   go_wp2
   go_ret
   exact ⟨rfl, hC.out⟩
end Go.Proofs.YtoelilejohfglaaGreat
