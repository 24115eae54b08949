/- Layer 6 as the document has it: Range, Full, Not, Or. -/
import Derived.Test.YtpndjehiacmngaaRefC
import Derived.Deep.OwnRows
namespace Go.Proofs.Ytpndjehiacmngaa
open Go.RowKit
set_option linter.unusedVariables false

def listP (p : Nat → Bool) : List Bool := (List.range 256).map p
def boolsP (p : Nat → Bool) : Array Value := ((listP p).map Value.bool).toArray
theorem listP_len (p : Nat → Bool) : (listP p).length = 256 := by simp [listP]
theorem boolsP_size (p : Nat → Bool) : (boolsP p).size = 256 := by simp [boolsP, listP]
theorem made_bools : madeCells #[.bool false] 256 = boolsP (fun _ => false) := by kernel_rfl
theorem boolsP_set (p : Nat → Bool) (k : Nat) (v : Bool) : (boolsP p).setIfInBounds k (.bool v) = boolsP (fun i => if i = k then v else p i) := by
  apply Array.ext
  · simp [boolsP_size]
  · intro i h1 h2
    simp [boolsP_size] at h2
    rw [Array.getElem_setIfInBounds]
    simp only [boolsP, listP, List.map_map, List.getElem_toArray, List.getElem_map, List.getElem_range, Function.comp_apply]
    by_cases h : k = i
    · subst h; simp
    · rw [if_neg h, if_neg (fun e => h e.symm)]
    simpa [boolsP_size] using h1
theorem boolsP_at (p : Nat → Bool) {k : Nat} (hk : k < 256) : (boolsP p)[k]? = some (.bool (p k)) := by
  simp [boolsP, listP, hk]
theorem bits_listP (p : Nat → Bool) : bitsC (listP p) = setC p := cls_ext fun i hi => by
  unfold bitsC; rw [setC_get _ hi, setC_get _ hi]; simp [listP, hi]
abbrev BBox (w : World) (b : Nat) (p : Nat → Bool) : Prop := Blk w b (boolsP p) 4
theorem BBox.bools {F : Nat → Prop} {w : World} {b : Nat} {p : Nat → Bool} (h : BBox w b p) (hF : F b) : BoolsAt F w (some ⟨b, 0, none⟩) 256 256 (listP p) :=
  ⟨(fun e => by cases e), by omega, by omega, listP_len p, fun _ => ⟨b, 0, rfl, hF, h.lt, fun j hj => h.cell (0 + j) (by rw [Nat.zero_add, boolsP_at p hj]; simp [listP, hj])⟩⟩
theorem BBox.put {w : World} {b : Nat} {p : Nat → Bool} (h : BBox w b p) (k : Nat) (v : Bool) : BBox (w.setCell ⟨b, k, none⟩ (.bool v)) b (fun i => if i = k then v else p i) := by
  unfold BBox; rw [← boolsP_set]; exact Blk.set h k _

theorem make_bools (w : World) : (Instr.makeSlice 82 (.int .i64 256) (.int .i64 256)).run Try.prog w = .ok (.slice (some ⟨w.heap.size, 0, none⟩) 256 256) (w.alloc (.cells (boolsP (fun _ => false)) 4)) := by
  have := run_make_row' (P := Try.prog) 82 4 (.bool false) 1 Try.underlying82 infoB rfl .i64 .i64 256 (by decide) (by decide) w
  rw [made_bools] at this
  exact this
def RaInv (a b : Nat) (w : World) (i : Value) (wr : World) : Prop :=
  ∃ (k : Nat) (p : Nat → Bool), a ≤ k ∧ (k : Int) ≤ 256 ∧ ((k : Int) ≤ b + 1 ∨ k = a) ∧ i = .int .i64 k ∧ Hid (∀ i, p i = (decide (a ≤ i) && decide (i < k))) ∧ BBox wr (w.heap.size + 1) p ∧ CBox wr w.heap.size 0 ∧ Chg Nothing w wr

set_option maxRecDepth 20000 in
set_option maxHeartbeats 2000000 in
theorem refRange_any (a b : Nat) (w : World) (ha : (a : Int) ≤ 255) (hb : (b : Int) ≤ 255) :
    Calls Try.prog 65 #[.int .u8 a, .int .u8 b] w fun e w' => e = .returned (encC (rangeC a b)) ∧ Chg Nothing w w' := by
  have hmk := make_bools
  go_enter Try.func65, Try.ntmps65
  go_wp2_with fail
  go_loopw [6] (fun i wr => RaInv a b w i wr) (fun i _ => 256 - (intOf i).toNat)
  case atStart =>
    refine ⟨a, fun _ => false, Nat.le_refl _, by omega, .inr rfl, rfl, hid (fun i => ?_), ?_, (CBox.zero w).alloc _, ((Chg.refl _ _).alloc _).alloc _⟩
    rotate_left
    · have := Blk.new (w.alloc (.cells #[.int .u64 0, .int .u64 0, .int .u64 0, .int .u64 0] 35)) (boolsP (fun _ => false)) 4
      rw [World.size_alloc] at this
      exact this
    · show false = _
      by_cases h : a ≤ i
      · first | (simp [h]; done) | (simp [h]; omega)
      · simp [h]
  case round =>
    obtain ⟨k, p, hk0, hk, hk3, rfl, hp, hB, hB0, hcr⟩ := hrel
    have HB := hid hB; clear hB
    have HB0 := hid hB0; clear hB0
    have hlg : (k : Int) ≤ b ∨ (b : Int) < k := by omega
    rcases hlg with hlt | hge
    · have hk6 : (k : Int) < 256 := by omega
      have f0 := HB.out.free k
      have r0 := HB.out.cell k (boolsP_at p (by omega))
      have hl := HB.out.lt
      go_wp2
      go_roundw
      case rel =>
        refine ⟨k + 1, fun i => if i = k then true else p i, by omega, by omega, .inl (by omega), by go_num, hid (fun i => ?_), HB.out.put k true, HB0.out.other (by simp) _, hcr.setNew (by omega) _ _⟩
        show (if i = k then true else p i) = _
        rw [hp.out]
        by_cases e : i = k
        · subst e; simp [hk0]
        · rw [if_neg e]; congr 1; exact decide_eq_decide.2 (by omega)
      case measure => simp [intOf]; omega
    · have e1 : setC p = rangeC a b := cls_ext fun i hi => by
        unfold rangeC
        rw [setC_get _ hi, setC_get _ hi, hp.out]
        rw [Bool.eq_iff_iff]
        simp only [Bool.and_eq_true, decide_eq_true_eq]
        omega
      have E1 := hid e1; clear e1
      have hl := HB.out.lt
      go_wp2_with fail
      refine (refMake_any (fun _ => True) _ 256 (listP p) wr (BBox.bools HB.out trivial)).mono ?_
      rintro e w4 ⟨rfl, hc⟩
      rw [bits_listP, E1.out]
      have HB4 := hid (show CBox w4 w.heap.size 0 from Blk.chg HB0.out hc id)
      have hcr4 := hcr.trans hc
      clear hc hcr HB HB0
      obtain ⟨q0, q1, q2, q3, p0, p1, p2, p3, hlt3⟩ := CBox.at_ HB4.out
      unfold encC
      go_wp2
      have hout := HB4.out.put (rangeC a b)
      obtain ⟨t0, t1, t2, t3, _⟩ := CBox.at_ hout
      refine bodyPost_ret (v := encC (rangeC a b)) ?_ rfl ⟨rfl, hcr4.putNew (Nat.le_refl _) _⟩
      show (results Try.f65 _).run Try.prog (putC w4 w.heap.size (rangeC a b)) = _
      simp [results, Try.results65, go_sem, encC, t0, t1, t2, t3]
      rfl
end Go.Proofs.Ytpndjehiacmngaa
