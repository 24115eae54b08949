/- Layer 6, class: boxes of classes; Range, Of, Single, Runs. -/
import Derived.Test.YtpndjehiacmngaaClassA
namespace Go.Proofs.Ytpndjehiacmngaa
open Go.RowKit
set_option linter.unusedVariables false

def cellsC (x : Cls) : Array Value := #[.int .u64 (wd x 0), .int .u64 (wd x 1), .int .u64 (wd x 2), .int .u64 (wd x 3)]
theorem cellsC_zero : cellsC 0 = #[.int .u64 0, .int .u64 0, .int .u64 0, .int .u64 0] := by unfold cellsC; simp only [wd_zero]
structure ClsAt (w : World) (b : Nat) (x : Cls) : Prop where
  r0 : w.cell? ⟨b, 0, none⟩ = some (.int .u64 (wd x 0))
  r1 : w.cell? ⟨b, 1, none⟩ = some (.int .u64 (wd x 1))
  r2 : w.cell? ⟨b, 2, none⟩ = some (.int .u64 (wd x 2))
  r3 : w.cell? ⟨b, 3, none⟩ = some (.int .u64 (wd x 3))
  f0 : w.frozen? ⟨b, 0, none⟩ = false
  f1 : w.frozen? ⟨b, 1, none⟩ = false
  f2 : w.frozen? ⟨b, 2, none⟩ = false
  f3 : w.frozen? ⟨b, 3, none⟩ = false
  lt : b < w.heap.size
abbrev CBox (w : World) (b : Nat) (x : Cls) : Prop := Blk w b (cellsC x) 35
theorem CBox.at_ {w : World} {b : Nat} {x : Cls} (h : CBox w b x) : ClsAt w b x :=
  ⟨h.cell 0 rfl, h.cell 1 rfl, h.cell 2 rfl, h.cell 3 rfl, h.free 0, h.free 1, h.free 2, h.free 3, h.lt⟩
/-- A class is stored whole. -/
def putC (w : World) (b : Nat) (y : Cls) : World := (((w.setCell ⟨b, 0, none⟩ (.int .u64 (wd y 0))).setCell ⟨b, 1, none⟩ (.int .u64 (wd y 1))).setCell ⟨b, 2, none⟩ (.int .u64 (wd y 2))).setCell ⟨b, 3, none⟩ (.int .u64 (wd y 3))
theorem CBox.put {w : World} {b : Nat} {x : Cls} (h : CBox w b x) (y : Cls) : CBox (putC w b y) b y := (((h.set 0 _).set 1 _).set 2 _).set 3 _
theorem CBox.zero (w : World) : CBox (w.alloc (.cells #[.int .u64 0, .int .u64 0, .int .u64 0, .int .u64 0] 35)) w.heap.size 0 := by
  unfold CBox; rw [cellsC_zero]; exact Blk.new w _ _
theorem Chg.putNew {S : Nat → Prop} {a b : World} {g : Nat} (h : Chg S a b) (hg : a.heap.size ≤ g) (y : Cls) : Chg S a (putC b g y) :=
  (((h.setNew hg 0 _).setNew hg 1 _).setNew hg 2 _).setNew hg 3 _
theorem Chg.putOne {a b : World} {g : Nat} (h : Chg (One g) a b) (y : Cls) : Chg (One g) a (putC b g y) :=
  (((h.setOne 0 _).setOne 1 _).setOne 2 _).setOne 3 _
theorem putC_size (w : World) (b : Nat) (y : Cls) : (putC w b y).heap.size = w.heap.size := by simp [putC, World.setCell]

/-- The class of the bytes for which p says so. -/
def setC (p : Nat → Bool) : Cls := (List.range 256).foldl (fun acc i => if p i then acc ||| BitVec.twoPow 256 i else acc) 0
theorem setC_go (p : Nat → Bool) (n : Nat) (hn : n ≤ 256) (i : Nat) (hi : i < 256) : ((List.range n).foldl (fun acc i => if p i then acc ||| BitVec.twoPow 256 i else acc) (0 : Cls)).getLsbD i = (decide (i < n) && p i) := by
  induction n with
  | zero => simp
  | succ n ih =>
    rw [List.range_succ, List.foldl_append]
    simp only [List.foldl_cons, List.foldl_nil]
    have h := ih (by omega)
    by_cases hp : p n = true
    · rw [if_pos hp, BitVec.getLsbD_or, h, BitVec.getLsbD_twoPow]
      by_cases e : n = i
      · subst e; simp [hp, hi]
      · have : (decide (i < n + 1)) = decide (i < n) := decide_eq_decide.2 (by omega)
        simp [e, this]
    · rw [if_neg hp, h]
      by_cases e : n = i
      · subst e; simp [hp]
      · have : (decide (i < n + 1)) = decide (i < n) := decide_eq_decide.2 (by omega)
        rw [this]
theorem setC_get (p : Nat → Bool) {i : Nat} (hi : i < 256) : (setC p).getLsbD i = p i := by
  unfold setC; rw [setC_go p 256 (Nat.le_refl _) i hi]; simp [hi]
theorem cls_ext {x y : Cls} (h : ∀ i, i < 256 → x.getLsbD i = y.getLsbD i) : x = y := BitVec.eq_of_getLsbD_eq fun i hi => h i hi
def rangeC (a b : Nat) : Cls := setC fun i => decide (a ≤ i) && decide (i ≤ b)

set_option maxHeartbeats 1000000 in
theorem classRange_any (a b : Nat) (w : World) (ha : a < 256) (hb : b < 256) :
    Calls Try.prog 19 #[.int .u8 a, .int .u8 b] w fun e w' => e = .returned (encC (rangeC a b)) ∧ Chg Nothing w w' := by
  go_enter Try.func19, Try.ntmps19
  go_wp2_with fail
  go_loopw [6] (fun i wr => ∃ k : Nat, a ≤ k ∧ k ≤ 256 ∧ (k ≤ b + 1 ∨ k = a) ∧ i = .int .i64 k ∧ CBox wr (w.heap.size + 1) (setC fun i => decide (a ≤ i) && decide (i < k)) ∧ CBox wr w.heap.size 0 ∧ Chg Nothing w wr) (fun i _ => 256 - (intOf i).toNat)
  case atStart =>
    refine ⟨a, Nat.le_refl _, by omega, .inr rfl, rfl, ?_, (CBox.zero w).alloc _, ((Chg.refl _ _).alloc _).alloc _⟩
    have := CBox.zero (w.alloc (.cells #[.int .u64 0, .int .u64 0, .int .u64 0, .int .u64 0] 35))
    rw [World.size_alloc] at this
    have e : (setC fun i => decide (a ≤ i) && decide (i < a)) = 0 := cls_ext fun i hi => by rw [setC_get _ hi]; simp
    rw [e]; exact this
  case round =>
    obtain ⟨k, hk1, hk2, hk3, rfl, hB, hB0, hcr⟩ := hrel
    by_cases hlt : k ≤ b
    · obtain ⟨r0, r1, r2, r3, f0, f1, f2, f3, hlt1⟩ := hB.at_
      have HB := hid hB; clear hB
      have hk6 : k < 256 := by omega
      go_wp2_with fail
      refine (classWith_any (setC fun i => decide (a ≤ i) && decide (i < k)) k wr hk6).mono ?_
      rintro e w3 ⟨rfl, hc⟩
      have hstep : (setC fun i => decide (a ≤ i) && decide (i < k)) ||| BitVec.twoPow 256 k = setC fun i => decide (a ≤ i) && decide (i < k + 1) := cls_ext fun i hi => by
        rw [BitVec.getLsbD_or, setC_get _ hi, setC_get _ hi, BitVec.getLsbD_twoPow]
        by_cases e : k = i
        · subst e; simp [hk1, hi]
        · have : decide (i < k + 1) = decide (i < k) := decide_eq_decide.2 (by omega)
          simp [e, this]
      rw [hstep]
      clear hstep
      have HB3 : CBox w3 (w.heap.size + 1) _ := HB.out.chg hc id
      have HB0 := hid (hB0.chg hc id)
      have hcr3 := hcr.trans hc
      clear HB r0 r1 r2 r3 f0 f1 f2 f3 hlt1 hB0 hc hcr
      obtain ⟨r0, r1, r2, r3, f0, f1, f2, f3, hlt1⟩ := CBox.at_ HB3
      have HB3' := hid HB3; clear HB3
      unfold encC
      go_wp2
      go_roundw
      case rel => exact ⟨k + 1, by omega, by omega, .inl (by omega), by go_num, HB3'.out.put _, (((HB0.out.other (by simp) _).other (by simp) _).other (by simp) _).other (by simp) _, hcr3.putNew (by omega) _⟩
      case measure => simp [intOf]; omega
    · have e1 : (setC fun i => decide (a ≤ i) && decide (i < k)) = rangeC a b := cls_ext fun i hi => by
        unfold rangeC
        rw [setC_get _ hi, setC_get _ hi]
        rw [Bool.eq_iff_iff]
        simp only [Bool.and_eq_true, decide_eq_true_eq]
        omega
      rw [e1] at hB
      obtain ⟨r0, r1, r2, r3, f0, f1, f2, f3, hlt1⟩ := hB.at_
      obtain ⟨s0, s1, s2, s3, g0, g1, g2, g3, hlt2⟩ := hB0.at_
      have HB := hid hB; clear hB
      have HB0 := hid hB0; clear hB0
      have hab : a ≤ 255 := by omega
      go_wp2
      have hout := HB0.out.put (rangeC a b)
      obtain ⟨t0, t1, t2, t3, _⟩ := CBox.at_ hout
      refine bodyPost_ret (v := encC (rangeC a b)) ?_ rfl ⟨rfl, hcr.putNew (Nat.le_refl _) _⟩
      show (results Try.f19 _).run Try.prog (putC wr w.heap.size (rangeC a b)) = _
      simp [results, Try.results19, go_sem, encC, t0, t1, t2, t3]
      rfl
end Go.Proofs.Ytpndjehiacmngaa
