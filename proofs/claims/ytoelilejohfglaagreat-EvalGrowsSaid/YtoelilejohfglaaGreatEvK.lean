/- Layer 18: the walk of EvalGrows. -/
import Derived.Test.YtoelilejohfglaaGreatBnEw
set_option maxHeartbeats 16000000
set_option maxRecDepth 100000
namespace Go.Proofs.YtoelilejohfglaaGreat
open Go.RowKit
set_option linter.unusedVariables false
set_option linter.unusedSimpArgs false
def NkInv (w1 : World) (n : Nat) (ps : List NP) (iv : Value) (wr : World) : Prop := ∃ k : Nat, k ≤ n ∧ iv = .int .i64 k ∧ Hid (∀ p ∈ ps.take k, p.x.kind ≠ 4) ∧ Chg Nothing w1 wr
def GrwInv (w1 : World) (X Y : List Int) (av iv : Value) (wr : World) : Prop := ∃ k m : Nat, k ≤ X.length ∧ iv = .int .i64 k ∧ av = .int .i64 m ∧ Hid (Along X Y k m) ∧ Chg Nothing w1 wr
def GrsInv (w1 : World) (X Y : List Int) (k : Nat) (av : Value) (wr : World) : Prop := ∃ m : Nat, av = .int .i64 m ∧ Hid (Along X Y k m) ∧ Chg Nothing w1 wr
theorem evE_free {ps : List NP} (h : rightN (ps.map NP.x) = true) : evE ps 0 0 = 0 := by
 unfold evE
 rw [if_neg (by rw [h]; rintro (h | h | h); cases h; all_goals omega), if_neg (by rintro ⟨h, -⟩; exact h rfl)]
theorem EvalGrows_walk (A : Option Addr) (n c : Nat) (ps : List NP) (s t : ByteArray) (w : World) (H : NRow (fun k => k < w.heap.size) w A n c ps) (hl : ∀ p ∈ ps, p.l * 32 ≤ 140737488351232) (hn : n * 48 ≤ 140737488351232) (hs : s.size ≤ 140737488351232) (ht : t.size ≤ 140737488351232) :
  Calls Tryz.prog 8 #[.slice A n c, .string s, .string t] w fun e w' => e = .returned (.bool true) ∧ Chg Nothing w w' := by
 have hHH := hid (fun (w' : World) (hc : Chg Nothing w w') => H.calm hc)
 have hFw := hid (fun (w' : World) (hc : Chg Nothing w w') => few18_any _ A n c ps s w' (hHH.out w' hc))
 have hRt := hid (fun (w' : World) (hc : Chg Nothing w w') (hn9 : n ≤ 1000000) => refRight_any _ A n c ps w' (hHH.out w' hc) hn9)
 have hlen := hid H.len
 have hle := H.row.le
 have hmx := H.row.max
 clear H hl
 by_cases ht9 : t.size ≤ 100
 ·have et : decide ((100 : Int) < (t.size : Int)) = false := decide_eq_false (by omega)
  go_enter Tryz.func8, Tryz.ntmps8
  go_wp2_with fail
  refine (hFw.out _ (Chg.refl _ _)).mono ?_
  rintro e w1 ⟨b, rfl, hb, hc1⟩
  have hC := hid hc1
  clear hc1
  cases b with
  | false =>
   go_wp2_with fail
   refine (alive18 _).mono ?_
   rintro e w2 ⟨rfl, hc2⟩
   have hD := hid (hC.out.trans hc2)
   clear hc2
   go_wp2
   go_ret
   exact ⟨rfl, hD.out⟩
  | true =>
   obtain ⟨hn9, hs9⟩ := hb.out rfl
   go_wp2_with fail
   refine (hRt.out _ hC.out (by omega)).mono ?_
   rintro e w2 ⟨rfl, hc2⟩
   have hC2 := hid (hC.out.trans hc2)
   clear hc2
   cases hr : rightN (ps.map NP.x) with
   | false =>
    replace hr := hid hr
    go_wp2_with fail
    refine (alive18 _).mono ?_
    rintro e w2 ⟨rfl, hc2⟩
    have hD := hid (hC2.out.trans hc2)
    clear hc2
    go_wp2
    go_ret
    exact ⟨rfl, hD.out⟩
   | true =>
    have hrh := hid hr
    clear hr
    go_wp2_with fail
    go_loopw [35] (fun iv wr => NkInv w2 n ps iv wr) (fun iv _ => n - (intOf iv).toNat)
    case atStart => exact ⟨0, Nat.zero_le _, rfl, (show Hid (∀ p ∈ ps.take 0, p.x.kind ≠ 4) from fun p hp => by simp at hp), Chg.refl _ _⟩
    case round =>
     obtain ⟨k, hk, rfl, hno, hchg⟩ := hrel
     rcases Nat.lt_or_ge k n with hkn | hkn
     ·obtain ⟨g, o, p, rfl, -, hgl, hp, hpm, -, c0, c1, c2, c3⟩ := (hHH.out _ (hC2.out.trans hchg)).four hkn
      have hk0 : (0 : Int) ≤ (k : Int) := by omega
      have hkn' : (k : Int) < (n : Int) := by omega
      have hcx := hid (hchg.alloc (.cells #[.int .i64 p.x.kind, .int .i64 p.x.n, .slice p.A p.l p.c, .int .i64 p.x.K] 55))
      by_cases h4 : p.x.kind = 4
      ·have hb4 : (p.x.kind == 4) = true := by rw [h4]; rfl
       replace h4 := hid h4
       clear hp hpm hchg
       go_wp2_with fail
       refine (alive18 _).mono ?_
       rintro e w3 ⟨rfl, hc3⟩
       have hD := hid ((hC2.out.trans hcx.out).trans hc3)
       clear hc3
       go_wp2
       go_ret
       exact ⟨rfl, hD.out⟩
      ·have hb4 : (p.x.kind == 4) = false := by simpa using h4
       have hnx := hid (show ∀ q ∈ ps.take (k + 1), q.x.kind ≠ 4 from fun q hq => by
        rw [List.take_succ_eq_append_getElem (by rw [hlen.out]; exact hkn)] at hq
        rcases List.mem_append.1 hq with hq | hq
        ·exact hno.out q hq
        ·have e : p = ps[k]'(by rw [hlen.out]; exact hkn) := by rw [hp]; simp [show k < ps.length from by rw [hlen.out]; exact hkn]
         simp at hq
         rw [hq, ← e]; exact h4)
       have h4h := hid h4
       have hwk : IntKind.i64.wrap ((k : Int) + 1) = (k : Int) + 1 := by rw [IntKind.wrap_i64]; omega
       clear hp hpm hchg h4
       go_wp2
       go_roundw
       case rel => exact ⟨k + 1, hkn, by go_num, hnx, hcx.out⟩
       case measure => simp [intOf]; omega
     ·obtain rfl : k = n := by omega
      have hd : decide ((k : Int) < (k : Int)) = false := decide_eq_false (by omega)
      rw [List.take_of_length_le (by rw [hlen.out]; exact Nat.le_refl _)] at hno
      have hD := hid (hC2.out.trans hchg)
      have hE0 := evE_free hrh.out
      have hz2 : (s ++ t).size = s.size + t.size := ByteArray.size_append
      have hP1 := hid (symFlat (evalEval_any _ A k c ps s 0 0 wr (hHH.out _ hD.out) (by omega)))
      have hP2 := hid (fun (w' : World) (hc : Chg Nothing wr w') => symFlat (evalEval_any _ A k c ps (s ++ t) 0 0 w' (hHH.out _ (hD.out.trans hc)) (by omega)))
      have r1 : evR ps 0 0 s = joinL s.size (ps.map NP.x) (rowsF (leavesP ps) s) := by unfold evR; rw [if_pos ⟨hE0, by omega⟩]
      have r2 : evX ps 0 0 s = 0 := by unfold evX; rw [if_pos hE0, if_pos (by omega)]
      have r3 : evR ps 0 0 (s ++ t) = joinL (s ++ t).size (ps.map NP.x) (rowsF (leavesP ps) (s ++ t)) := by unfold evR; rw [if_pos ⟨hE0, by omega⟩]
      have r4 : evX ps 0 0 (s ++ t) = 0 := by unfold evX; rw [if_pos hE0, if_pos (by omega)]
      rw [r1, r2] at hP1
      rw [r3, r4] at hP2
      have hsub := hid (join_grows hrh.out hno.out (s.size : Int) ((s ++ t).size : Int) s t)
      have hrX := hid (joinL_right (s.size : Int) (ps.map NP.x) (rowsF (leavesP ps) s))
      have hrY := hid (joinL_right ((s ++ t).size : Int) (ps.map NP.x) (rowsF (leavesP ps) (s ++ t)))
      clear r1 r2 r3 r4 hE0 hchg
      generalize joinL (s.size : Int) (ps.map NP.x) (rowsF (leavesP ps) s) = X at hP1 hsub hrX
      generalize joinL ((s ++ t).size : Int) (ps.map NP.x) (rowsF (leavesP ps) (s ++ t)) = Y at hP2 hsub hrY
      generalize evC ps 0 0 s = num1 at hP1
      generalize evC ps 0 0 (s ++ t) = num2 at hP2
      have hz2h := hid hz2
      clear hz2
      go_wp2_with fail
      refine hP1.out.mono ?_
      rintro e w5 ⟨A5, c5, rfl, hO, hc5⟩
      have hO1 := hid (hO.els.mono (G := fun _ => True) (fun _ _ _ => trivial))
      have hE := hid hc5
      clear hc5 hO hP1
      have hcat : ¬ (9223372036854775807 < s.size + t.size) := by omega
      go_wp2_with fail
      refine (hP2.out _ hE.out).mono ?_
      rintro e w6 ⟨A6, c6, rfl, hO, hc6⟩
      have hO2 := hid (hO.els.mono (G := fun _ => True) (fun _ _ _ => trivial))
      replace hO1 := hid (hO1.out.chg hc6 (fun _ _ _ h => h))
      replace hE := hid (hE.out.trans hc6)
      clear hc6 hO hP2
      have hX1 := hO1.out.2.1
      have hX2 := hO1.out.2.2.1
      have hY1 := hO2.out.2.1
      have hY2 := hO2.out.2.2.1
      go_wp2_with fail
      go_loopw [15, 70] (fun av iv wr => GrwInv w6 X Y av iv wr) (fun _ iv _ => X.length - (intOf iv).toNat)
      case atStart => exact ⟨0, 0, Nat.zero_le _, rfl, rfl, hid ⟨Nat.zero_le _, fun j hj => absurd hj (Nat.not_lt_zero _)⟩, Chg.refl _ _⟩
      case round =>
       obtain ⟨i, m, hi, rfl, rfl, hal, hchg3⟩ := hrel
       have hC3 := hid hchg3
       clear hchg3
       rcases Nat.lt_or_ge i X.length with hin | hin
       ·obtain ⟨g, o, e1, -, hgl, x0⟩ := (hO1.out.chg hC3.out (fun _ _ _ h => h)).at_ (k := i) hin
        subst e1
        have hi0 : (0 : Int) ≤ (i : Int) := by omega
        have hin' : (i : Int) < (X.length : Int) := by omega
        obtain ⟨z, hz⟩ : ∃ z, X.getD i 0 = z := ⟨_, rfl⟩
        rw [hz] at x0
        replace hz := hid hz
        go_wp2_with fail
        generalize wr = wo at *
        clear x0
        go_loopw [15] (fun av wr => GrsInv wo X Y i av wr) (fun av _ => Y.length - (intOf av).toNat)
        case atStart => exact ⟨m, rfl, hal, Chg.refl _ _⟩
        case round =>
         obtain ⟨j, rfl, haj, hchg4⟩ := hrel
         have hC4 := hid (hC3.out.trans hchg4)
         have hC5 := hid hchg4
         have hml := haj.out.more hin hsub.out
         obtain ⟨g2, o2, e2, -, hgl2, y0⟩ := (hO2.out.chg hC4.out (fun _ _ _ h => h)).at_ (k := j) hml
         subst e2
         have hj0 : (0 : Int) ≤ (j : Int) := by omega
         have hjl : (j : Int) < (Y.length : Int) := by omega
         have hb1 : decide ((j : Int) < (Y.length : Int)) = true := decide_eq_true hjl
         clear hchg4
         by_cases hyz : Y.getD j 0 < X.getD i 0
         ·have hst := hid (haj.out.step hrX.out hin hml hyz)
          rw [hz.out] at hyz
          generalize Y.getD j 0 = y at y0 hyz
          have hb2 : decide (y < z) = true := decide_eq_true hyz
          have hwj : IntKind.i64.wrap ((j : Int) + 1) = (j : Int) + 1 := by rw [IntKind.wrap_i64]; omega
          replace hyz := hid hyz
          go_wp2
          go_roundw
          case rel => exact ⟨j + 1, by go_num, hst, hC5.out⟩
          case measure => simp [intOf]; omega
         ·have heq : Y.getD j 0 = z := by rw [← hz.out]; exact haj.out.there hrY.out hin hsub.out ⟨hml, by omega⟩
          rw [heq] at y0
          have hnx := hid haj.out.next
          have hb2 : decide (z < z) = false := decide_eq_false (by omega)
          have hb3 : ((j : Int) == (Y.length : Int)) = false := by simp; omega
          have hwj : IntKind.i64.wrap ((i : Int) + 1) = (i : Int) + 1 := by rw [IntKind.wrap_i64]; omega
          clear hyz heq
          go_wp2
          go_roundw
          case rel => exact ⟨i + 1, j, hin, by go_num, rfl, hnx, hC4.out⟩
          case measure => simp [intOf]; omega
       ·have hd : decide ((i : Int) < (X.length : Int)) = false := decide_eq_false (by omega)
        go_wp2_with fail
        refine (alive18 _).mono ?_
        rintro e w7 ⟨rfl, hc7⟩
        have hF := hid ((hD.out.trans (hE.out.trans hC3.out)).trans hc7)
        clear hc7
        go_wp2
        go_ret
        exact ⟨rfl, hF.out⟩
 ·have et : decide ((100 : Int) < (t.size : Int)) = true := decide_eq_true (by omega)
  go_enter Tryz.func8, Tryz.ntmps8
  go_wp2_with fail
  refine (hFw.out _ (Chg.refl _ _)).mono ?_
  rintro e w1 ⟨b, rfl, hb, hc1⟩
  have hC := hid hc1
  clear hc1
  cases b <;>
  ·go_wp2_with fail
   refine (alive18 _).mono ?_
   rintro e w2 ⟨rfl, hc2⟩
   have hD := hid (hC.out.trans hc2)
   clear hc2
   go_wp2
   go_ret
   exact ⟨rfl, hD.out⟩
end Go.Proofs.YtoelilejohfglaaGreat
