/- Layer 6 as the document has it: Or, Size, Single. -/
import Derived.Test.YtpndjehiacmngaaRefE
namespace Go.Proofs.Ytpndjehiacmngaa
open Go.RowKit
set_option linter.unusedVariables false

def RoInv (x y : Cls) (w : World) (b2 : Nat) (A : Option Addr) (c : Nat) (A2 : Option Addr) (c2 : Nat) (i : Value) (wr : World) : Prop :=
  ∃ (k : Nat) (p : Nat → Bool), (k : Int) ≤ 256 ∧ i = .int .i64 k ∧ Hid (∀ i, p i = if i < k then (x.getLsbD i || y.getLsbD i) else x.getLsbD i) ∧ PRow wr (w.heap.size + 3) A c p ∧ Hid (∀ k, Of A k → k < b2) ∧ PRow wr b2 A2 c2 y.getLsbD ∧ CBox wr (w.heap.size + 2) 0 ∧ Chg Nothing w wr

set_option maxRecDepth 20000 in
set_option maxHeartbeats 2000000 in
theorem refOr_any (x y : Cls) (w : World) :
    Calls Try.prog 67 #[encC x, encC y] w fun e w' => e = .returned (encC (x ||| y)) ∧ Chg Nothing w w' := by
  unfold encC
  go_enter Try.func67, Try.ntmps67
  have HY : CBox (((w.alloc (.cells (cellsC x) 35)).alloc (.cells (cellsC y) 35)).alloc (.cells (cellsC 0) 35)) (w.heap.size + 1) y := by
    have := Blk.new (w.alloc (.cells (cellsC x) 35)) (cellsC y) 35
    rw [World.size_alloc] at this
    exact this.alloc _
  have HZ : CBox (((w.alloc (.cells (cellsC x) 35)).alloc (.cells (cellsC y) 35)).alloc (.cells (cellsC 0) 35)) (w.heap.size + 2) 0 := by
    have := Blk.new ((w.alloc (.cells (cellsC x) 35)).alloc (.cells (cellsC y) 35)) (cellsC 0) 35
    rw [World.size_alloc, World.size_alloc] at this
    exact this
  rw [cellsC_zero] at HY HZ
  have HY := hid HY
  have HZ := hid HZ
  go_wp2_with fail
  refine (refBytes_any x _).mono ?_
  rintro e w1 ⟨A, c, rfl, hrow, hc⟩
  have hy1 := hid (show CBox w1 (w.heap.size + 1) y from Blk.chg HY.out hc id)
  have hz1 := hid (show CBox w1 (w.heap.size + 2) 0 from Blk.chg HZ.out hc id)
  have hcr := ((((Chg.refl Nothing w).alloc _).alloc _).alloc _).trans hc
  have HR := hid (show PRow w1 (w.heap.size + 3) A c x.getLsbD from by have := hrow; simp only [World.size_alloc] at this; exact this)
  clear hrow hc HY HZ
  obtain ⟨q0, q1, q2, q3, p0, p1, p2, p3, hlt3⟩ := CBox.at_ hy1.out
  go_wp2_with fail
  refine (refBytes_any y _).mono ?_
  rintro e w2 ⟨A2, c2, rfl, hrow, hc⟩
  clear q0 q1 q2 q3 p0 p1 p2 p3 hlt3
  have hb2 : ∃ b2, b2 = w1.heap.size := ⟨_, rfl⟩
  obtain ⟨b2, hb2⟩ := hb2
  rw [← hb2] at hrow
  have hof := hid (show ∀ k, Of A k → k < b2 from fun k hk => by rw [hb2]; exact (own_of HR.out k hk).2)
  have hz2 := hid (show CBox w2 (w.heap.size + 2) 0 from Blk.chg hz1.out hc id)
  have hcr2 := hcr.trans hc
  have HR2 := hid (show PRow w2 (w.heap.size + 3) A c x.getLsbD from HR.out.chg hc (fun _ _ h => h))
  have HS2 := hid (show PRow w2 b2 A2 c2 y.getLsbD from hrow)
  clear hrow hc hcr HR hz1 hy1 hb2
  go_wp2_with fail
  go_loopw [7] (fun i wr => RoInv x y w b2 A c A2 c2 i wr) (fun i _ => 256 - (intOf i).toNat)
  case atStart => exact ⟨0, _, by omega, rfl, hid (fun i => by rw [if_neg (by omega)]), HR2.out, hof, HS2.out, hz2.out, hcr2⟩
  case round =>
    clear HR2 HS2 hz2 hcr2 hof
    obtain ⟨k, p, hk, rfl, hp, hR, hof, hS, hB0, hcr⟩ := hrel
    have HB0 := hid hB0; clear hB0
    have HR := hid hR; clear hR
    have HS := hid hS; clear hS
    have hlg : (k : Int) < 256 ∨ 256 ≤ (k : Int) := by omega
    rcases hlg with hlt | hge
    · obtain ⟨g, rfl, hg1, hg2, hcell, hfr, hput⟩ := HR.out.at_ (show k < 256 by omega)
      obtain ⟨g', rfl, hg1', hg2', hcell', hfr', hput'⟩ := HS.out.at_ (show k < 256 by omega)
      have HP := hid hput; clear hput hput'
      have hgg : g < b2 := hof.out g ⟨_, rfl, rfl⟩
      have hpk : p k = x.getLsbD k := by rw [hp.out, if_neg (by omega)]
      have hP := hid hp.out
      clear hp
      cases hv : p k with
      | true =>
        rw [hv] at hcell
        have hpk := hid hpk
        have hvv := hid hv
        clear hv
        go_wp2
        go_roundw
        case rel =>
          refine ⟨k + 1, _, by omega, by go_num, hid (fun i => ?_), HP.out true, hof, HS.out.chg (S := One g) ((Chg.refl _ _).setOne _ _) (fun j hj e => by obtain ⟨_, e1, e2⟩ := hj; injection e1 with e1; subst e1; unfold One at e; simp at e2; omega), HB0.out.other (by simp; omega) _, hcr.setNew (by omega) _ _⟩
          show (if i = k then true else p i) = _
          rw [hP.out]
          by_cases e : i = k
          · subst e; rw [if_pos rfl, if_pos (by omega), ← hpk.out, hvv.out]; rfl
          · rw [if_neg e]
            by_cases e2 : i < k
            · rw [if_pos e2, if_pos (by omega)]
            · rw [if_neg e2, if_neg (by omega)]
        case measure => simp [intOf]; omega
      | false =>
        rw [hv] at hcell
        have hpk := hid hpk
        have hvv := hid hv
        clear hv
        go_wp2
        go_roundw
        case rel =>
          refine ⟨k + 1, _, by omega, by go_num, hid (fun i => ?_), HP.out (y.getLsbD k), hof, HS.out.chg (S := One g) ((Chg.refl _ _).setOne _ _) (fun j hj e => by obtain ⟨_, e1, e2⟩ := hj; injection e1 with e1; subst e1; unfold One at e; simp at e2; omega), HB0.out.other (by simp; omega) _, hcr.setNew (by omega) _ _⟩
          show (if i = k then y.getLsbD k else p i) = _
          rw [hP.out]
          by_cases e : i = k
          · subst e; rw [if_pos rfl, if_pos (by omega), ← hpk.out, hvv.out]; rfl
          · rw [if_neg e]
            by_cases e2 : i < k
            · rw [if_pos e2, if_pos (by omega)]
            · rw [if_neg e2, if_neg (by omega)]
        case measure => simp [intOf]; omega
    · have hk256 : k = 256 := by omega
      have E1 := hid (show setC p = x ||| y from cls_ext fun i hi => by
        rw [setC_get _ hi, hp.out, if_pos (by omega), BitVec.getLsbD_or])
      have hd : decide ((k : Int) < 256) = false := decide_eq_false (by omega)
      clear hge hk hk256 hp
      go_wp2_with fail
      refine (refMake_any _ _ c (listP p) wr HR.out.bools).mono ?_
      rintro e w4 ⟨rfl, hc⟩
      rw [bits_listP, E1.out]
      have HB4 := hid (show CBox w4 (w.heap.size + 2) 0 from Blk.chg HB0.out hc id)
      have hcr4 := hcr.trans hc
      clear hc hcr HR HB0 HS
      obtain ⟨q0, q1, q2, q3, p0, p1, p2, p3, hlt3⟩ := CBox.at_ HB4.out
      unfold encC
      go_wp2
      have hout := HB4.out.put (x ||| y)
      obtain ⟨t0, t1, t2, t3, _⟩ := CBox.at_ hout
      refine bodyPost_ret (v := encC (x ||| y)) ?_ rfl ⟨rfl, hcr4.putNew (by omega) _⟩
      show (results Try.f67 _).run Try.prog (putC w4 (w.heap.size + 2) (x ||| y)) = _
      simp [results, Try.results67, go_sem, encC, t0, t1, t2, t3]
      rfl
end Go.Proofs.Ytpndjehiacmngaa
