/- Layer 6 as the document has it: Full, Not, Or. -/
import Derived.Test.YtpndjehiacmngaaRefD
namespace Go.Proofs.Ytpndjehiacmngaa
open Go.RowKit
set_option linter.unusedVariables false

theorem range_full : rangeC 0 255 = fullC := cls_ext fun i hi => by
  unfold rangeC
  rw [setC_get _ hi, fullC_get hi]
  simp; omega
theorem listP_set (p : Nat → Bool) (k : Nat) (v : Bool) : ((listP p).map Value.bool).set k (.bool v) = (listP (fun i => if i = k then v else p i)).map Value.bool := by
  have := congrArg Array.toList (boolsP_set p k v)
  simpa [boolsP] using this
theorem listP_getD (p : Nat → Bool) {k : Nat} (hk : k < 256) (d : Value) : ((listP p).map Value.bool).getD k d = .bool (p k) := by
  simp [listP, hk]
def PRow (w : World) (base : Nat) (A : Option Addr) (c : Nat) (p : Nat → Bool) : Prop := w.ownsRow base 4 1 (.slice A 256 c) 256 ((listP p).map Value.bool)
theorem PRow.bools {w : World} {base : Nat} {A : Option Addr} {c : Nat} {p : Nat → Bool} (h : PRow w base A c p) : BoolsAt (fun k => Of A k ∧ base ≤ k) w A 256 c (listP p) := ElsAt.of_own h
theorem PRow.chg {S : Nat → Prop} {w w' : World} {base : Nat} {A : Option Addr} {c : Nat} {p : Nat → Bool} (h : PRow w base A c p) (hc : Chg S w w') (hS : ∀ k, Of A k → ¬ S k) : PRow w' base A c p := own_chg h hc hS
theorem PRow.at_ {w : World} {base : Nat} {A : Option Addr} {c : Nat} {p : Nat → Bool} (h : PRow w base A c p) {k : Nat} (hk : k < 256) :
    ∃ g, A = some ⟨g, 0, none⟩ ∧ base ≤ g ∧ g < w.heap.size ∧ w.cell? ⟨g, k, none⟩ = some (.bool (p k)) ∧ w.frozen? ⟨g, k, none⟩ = false ∧ ∀ v, PRow (w.setCell ⟨g, k, none⟩ (.bool v)) base A c (fun i => if i = k then v else p i) := by
  obtain ⟨g, h1, h2, h3, h4, h5, h6⟩ := own_at h hk (.bool false)
  rw [listP_getD p hk] at h4
  refine ⟨g, h1, h2, h3, h4, h5, fun v => ?_⟩
  have := h6 w (.bool v) ⟨Nothing, Chg.refl _ _, id⟩
  rwa [listP_set] at this

set_option maxRecDepth 20000 in
set_option maxHeartbeats 2000000 in
theorem refFull_any (w : World) :
    Calls Try.prog 62 #[] w fun e w' => e = .returned (encC fullC) ∧ Chg Nothing w w' := by
  go_enter Try.func62, Try.ntmps62
  go_wp2_with fail
  refine (refRange_any 0 255 _ (by decide) (by decide)).mono ?_
  rintro e w4 ⟨rfl, hc⟩
  rw [range_full]
  have HB4 := hid (show CBox w4 w.heap.size 0 from Blk.chg (CBox.zero w) hc id)
  have hcr4 := ((Chg.refl Nothing w).alloc _).trans hc
  clear hc
  obtain ⟨q0, q1, q2, q3, p0, p1, p2, p3, hlt3⟩ := CBox.at_ HB4.out
  unfold encC
  go_wp2
  have hout := HB4.out.put fullC
  obtain ⟨t0, t1, t2, t3, _⟩ := CBox.at_ hout
  refine bodyPost_ret (v := encC fullC) ?_ rfl ⟨rfl, hcr4.putNew (Nat.le_refl _) _⟩
  show (results Try.f62 _).run Try.prog (putC w4 w.heap.size fullC) = _
  simp [results, Try.results62, go_sem, encC, t0, t1, t2, t3]
  rfl

def RnInv (x : Cls) (w : World) (A : Option Addr) (c : Nat) (i : Value) (wr : World) : Prop :=
  ∃ (k : Nat) (p : Nat → Bool), (k : Int) ≤ 256 ∧ i = .int .i64 k ∧ Hid (∀ i, p i = if i < k then !x.getLsbD i else x.getLsbD i) ∧ PRow wr (w.heap.size + 2) A c p ∧ CBox wr (w.heap.size + 1) 0 ∧ Chg Nothing w wr

set_option maxRecDepth 20000 in
set_option maxHeartbeats 2000000 in
theorem refNot_any (x : Cls) (w : World) :
    Calls Try.prog 68 #[encC x] w fun e w' => e = .returned (encC (~~~ x)) ∧ Chg Nothing w w' := by
  unfold encC
  go_enter Try.func68, Try.ntmps68
  go_wp2_with fail
  refine (refBytes_any x _).mono ?_
  rintro e w1 ⟨A, c, rfl, hrow, hc⟩
  have hB1 : CBox w1 (w.heap.size + 1) 0 := by
    have := CBox.zero (w.alloc (.cells (cellsC x) 35))
    rw [World.size_alloc] at this
    exact Blk.chg this hc id
  have hcr := (((Chg.refl Nothing w).alloc _).alloc _).trans hc
  have HR := hid (show PRow w1 (w.heap.size + 2) A c x.getLsbD from by have := hrow; simp only [World.size_alloc] at this; exact this)
  clear hrow hc
  go_wp2_with fail
  go_loopw [4] (fun i wr => RnInv x w A c i wr) (fun i _ => 256 - (intOf i).toNat)
  case atStart => exact ⟨0, _, by omega, rfl, hid (fun i => by rw [if_neg (by omega)]), HR.out, hB1, hcr⟩
  case round =>
    clear HR hB1 hcr
    obtain ⟨k, p, hk, rfl, hp, hR, hB0, hcr⟩ := hrel
    have HB0 := hid hB0; clear hB0
    have HR := hid hR; clear hR
    have hlg : (k : Int) < 256 ∨ 256 ≤ (k : Int) := by omega
    rcases hlg with hlt | hge
    · obtain ⟨g, rfl, hg1, hg2, hcell, hfr, hput⟩ := HR.out.at_ (show k < 256 by omega)
      have HP := hid hput; clear hput
      go_wp2
      go_roundw
      case rel =>
        refine ⟨k + 1, _, by omega, by go_num, hid (fun i => ?_), HP.out (!p k), HB0.out.other (by simp; omega) _, hcr.setNew (by omega) _ _⟩
        show (if i = k then !p k else p i) = _
        rw [hp.out, hp.out]
        by_cases e : i = k
        · subst e; simp
        · rw [if_neg e]
          by_cases e2 : i < k
          · rw [if_pos e2, if_pos (by omega)]
          · rw [if_neg e2, if_neg (by omega)]
      case measure => simp [intOf]; omega
    · have hk256 : k = 256 := by omega
      have E1 := hid (show setC p = ~~~ x from cls_ext fun i hi => by
        rw [setC_get _ hi, hp.out, if_pos (by omega), BitVec.getLsbD_not]; simp [hi])
      have hd : decide ((k : Int) < 256) = false := decide_eq_false (by omega)
      clear hge hk hk256 hp
      go_wp2_with fail
      refine (refMake_any _ _ c (listP p) wr HR.out.bools).mono ?_
      rintro e w4 ⟨rfl, hc⟩
      rw [bits_listP, E1.out]
      have HB4 := hid (show CBox w4 (w.heap.size + 1) 0 from Blk.chg HB0.out hc id)
      have hcr4 := hcr.trans hc
      clear hc hcr HR HB0
      obtain ⟨q0, q1, q2, q3, p0, p1, p2, p3, hlt3⟩ := CBox.at_ HB4.out
      unfold encC
      go_wp2
      have hout := HB4.out.put (~~~ x)
      obtain ⟨t0, t1, t2, t3, _⟩ := CBox.at_ hout
      refine bodyPost_ret (v := encC (~~~ x)) ?_ rfl ⟨rfl, hcr4.putNew (by omega) _⟩
      show (results Try.f68 _).run Try.prog (putC w4 (w.heap.size + 1) (~~~ x)) = _
      simp [results, Try.results68, go_sem, encC, t0, t1, t2, t3]
      rfl
end Go.Proofs.Ytpndjehiacmngaa
