/- Layer 6 as the document has it: Size, Single. -/
import Derived.Test.YtpndjehiacmngaaRefF
namespace Go.Proofs.Ytpndjehiacmngaa
open Go.RowKit
set_option linter.unusedVariables false

def sizeTo (x : Cls) (k : Nat) : Nat := ((List.range k).filter x.getLsbD).length
def sizeC (x : Cls) : Nat := sizeTo x 256
theorem sizeTo_succ (x : Cls) (k : Nat) : sizeTo x (k + 1) = sizeTo x k + (if x.getLsbD k = true then 1 else 0) := by
  unfold sizeTo; rw [List.range_succ, List.filter_append, List.length_append]
  by_cases h : x.getLsbD k = true <;> simp [h]
theorem sizeTo_le (x : Cls) (k : Nat) : sizeTo x k ≤ k := by
  unfold sizeTo; exact Nat.le_trans (List.length_filter_le _ _) (by simp)
theorem sizeC_two (b : Nat) (hb : b < 256) : sizeC (BitVec.twoPow 256 b) = 1 := by
  have h : ∀ k, k ≤ 256 → sizeTo (BitVec.twoPow 256 b) k = if b < k then 1 else 0 := by
    intro k
    induction k with
    | zero => intro _; simp [sizeTo]
    | succ k ih =>
      intro hk
      rw [sizeTo_succ, ih (by omega), BitVec.getLsbD_twoPow]
      by_cases h : b = k
      · subst h; simp [hb]
      · have : (b < k + 1) = (b < k) := propext ⟨fun h => by omega, fun h => by omega⟩
        simp [h, this]
  have := h 256 (Nat.le_refl _)
  rw [if_pos hb] at this; exact this
theorem sizeC_one {x : Cls} (h : sizeC x = 1) : ∃ b, b < 256 ∧ x = BitVec.twoPow 256 b := by
  unfold sizeC sizeTo at h
  obtain ⟨b, hb⟩ := List.length_eq_one_iff.1 h
  have hm : ∀ i, i ∈ (List.range 256).filter x.getLsbD ↔ i = b := by intro i; rw [hb]; simp
  simp only [List.mem_filter, List.mem_range] at hm
  have hb2 := (hm b).2 rfl
  refine ⟨b, hb2.1, cls_ext fun i hi => ?_⟩
  rw [BitVec.getLsbD_twoPow]
  have := hm i
  rw [Bool.eq_iff_iff]
  simp only [Bool.and_eq_true, decide_eq_true_eq]
  constructor
  · intro h1; exact ⟨hb2.1, ((this.1 ⟨hi, h1⟩)).symm⟩
  · rintro ⟨_, e⟩; exact (this.2 e.symm).2
theorem singleC_two (b : Nat) (hb : b < 256) : singleC (BitVec.twoPow 256 b) = some b := by
  rw [singleC_hit hb]
  · simp
  · intro j hj; rw [BitVec.getLsbD_twoPow]; simp; omega
  · rw [BitVec.getLsbD_twoPow]; simp [hb]
theorem singleC_not {x : Cls} (h : sizeC x ≠ 1) : singleC x = none := by
  unfold singleC
  cases hf : (List.range 256).find? (fun b => x.getLsbD b) with
  | none => rfl
  | some b =>
    show (if x = BitVec.twoPow 256 b then some b else none) = none
    have hb : b < 256 := by have := List.mem_of_find?_eq_some hf; simpa using this
    rw [if_neg]
    intro e
    exact h (e ▸ sizeC_two b hb)

def RsInv (x : Cls) (w : World) (A : Option Addr) (c : Nat) (s i : Value) (wr : World) : Prop :=
  ∃ (k n : Nat), (k : Int) ≤ 256 ∧ n ≤ k ∧ i = .int .i64 k ∧ s = .int .i64 n ∧ Hid (n = sizeTo x k) ∧ PRow wr (w.heap.size + 1) A c x.getLsbD ∧ Chg Nothing w wr

set_option maxRecDepth 20000 in
set_option maxHeartbeats 2000000 in
theorem refSize_any (x : Cls) (w : World) :
    Calls Try.prog 28 #[encC x] w fun e w' => e = .returned (.int .i64 (sizeC x)) ∧ Chg Nothing w w' := by
  unfold encC
  go_enter Try.func28, Try.ntmps28
  go_wp2_with fail
  refine (refBytes_any x _).mono ?_
  rintro e w1 ⟨A, c, rfl, hrow, hc⟩
  have hcr := ((Chg.refl Nothing w).alloc _).trans hc
  have HR := hid (show PRow w1 (w.heap.size + 1) A c x.getLsbD from by have := hrow; simp only [World.size_alloc] at this; exact this)
  clear hrow hc
  go_wp2_with fail
  go_loopw [3, 5] (fun s i wr => RsInv x w A c s i wr) (fun _ i _ => 256 - (intOf i).toNat)
  case atStart => exact ⟨0, 0, by omega, by omega, rfl, rfl, hid (by simp [sizeTo]), HR.out, hcr⟩
  case round =>
    clear HR hcr
    obtain ⟨k, n, hk, hnk, rfl, rfl, hn, hR, hcr⟩ := hrel
    have HR := hid hR; clear hR
    have hlg : (k : Int) < 256 ∨ 256 ≤ (k : Int) := by omega
    rcases hlg with hlt | hge
    · obtain ⟨g, rfl, hg1, hg2, hcell, hfr, hput⟩ := HR.out.at_ (show k < 256 by omega)
      clear hput
      have hss := hid (sizeTo_succ x k)
      cases hv : x.getLsbD k with
      | true =>
        rw [hv] at hcell
        have hvv := hid hv
        clear hv
        go_wp2
        go_roundw
        case rel => exact ⟨k + 1, n + 1, by omega, by omega, by go_num, by go_num, hid (by rw [hss.out, hvv.out, ← hn.out]; rfl), HR.out, hcr⟩
        case measure => simp [intOf]; omega
      | false =>
        rw [hv] at hcell
        have hvv := hid hv
        clear hv
        go_wp2
        go_roundw
        case rel => exact ⟨k + 1, n, by omega, by omega, by go_num, rfl, hid (by rw [hss.out, hvv.out, ← hn.out]; rfl), HR.out, hcr⟩
        case measure => simp [intOf]; omega
    · have hk256 : k = 256 := by omega
      have E1 := hid (show n = sizeC x from by rw [hn.out, hk256]; rfl)
      have hd : decide ((k : Int) < 256) = false := decide_eq_false (by omega)
      clear hge hk hk256 hn
      go_wp2
      go_ret
      exact ⟨by rw [E1.out]; rfl, hcr⟩

def RgInv (w : World) (b : Nat) (i : Value) (wr : World) : Prop :=
  ∃ (k : Nat), k ≤ b ∧ i = .int .i64 k ∧ CBox wr w.heap.size (BitVec.twoPow 256 b) ∧ Chg Nothing w wr

set_option maxRecDepth 20000 in
set_option maxHeartbeats 2000000 in
theorem refSingle_any (x : Cls) (w : World) :
    Calls Try.prog 29 #[encC x] w fun e w' => e = .returned (.tuple (singleV x)) ∧ Chg Nothing w w' := by
  unfold encC
  by_cases hs : sizeC x = 1
  · obtain ⟨b, hb, rfl⟩ := sizeC_one hs
    have hb' : (b : Int) < 256 := by omega
    go_enter Try.func29, Try.ntmps29
    go_wp2_with fail
    refine (refSize_any _ _).mono ?_
    rintro e w1 ⟨rfl, hc⟩
    rw [hs]
    have hB1 := hid (show CBox w1 w.heap.size (BitVec.twoPow 256 b) from Blk.chg (Blk.new w _ _) hc id)
    have hcr := ((Chg.refl Nothing w).alloc _).trans hc
    clear hc hs
    go_wp2_with fail
    go_loopw [4] (fun i wr => RgInv w b i wr) (fun i _ => b - (intOf i).toNat)
    case atStart => exact ⟨0, Nat.zero_le _, rfl, hB1.out, hcr⟩
    case round =>
      clear hB1 hcr
      obtain ⟨k, hk, rfl, hB, hcr⟩ := hrel
      obtain ⟨r0, r1, r2, r3, f0, f1, f2, f3, hlt1⟩ := CBox.at_ hB
      have HB := hid hB; clear hB
      have hwk : (k : Int) % 256 = k := by omega
      go_wp2_with fail
      refine (refHas_any _ k wr (by omega)).mono ?_
      rintro e w3 ⟨rfl, hc⟩
      have HB3 := hid (show CBox w3 w.heap.size (BitVec.twoPow 256 b) from HB.out.chg hc id)
      have hcr3 := hcr.trans hc
      clear r0 r1 r2 r3 f0 f1 f2 f3 hlt1 HB hc hcr
      have hbit : (BitVec.twoPow 256 b).getLsbD k = decide (b = k) := by rw [BitVec.getLsbD_twoPow]; simp [hb]
      rw [hbit]
      clear hbit
      by_cases e : b = k
      · have hd := hid (decide_eq_true e)
        rw [hd.out]
        have hbk := hid e
        clear e hd
        go_wp2
        go_ret2
        exact ⟨by unfold singleV; rw [singleC_two b hb, hbk.out]; rfl, hcr3⟩
      · have hd := hid (decide_eq_false e)
        have hkb : k < b := by omega
        rw [hd.out]
        clear e hd
        go_wp2
        go_roundw
        case rel => exact ⟨k + 1, by omega, by go_num, HB3.out, hcr3⟩
        case measure => simp [intOf]; omega
  · have hn := hid (singleC_not hs)
    have hs' : (sizeC x : Int) ≠ 1 := by omega
    clear hs
    go_enter Try.func29, Try.ntmps29
    go_wp2_with fail
    refine (refSize_any _ _).mono ?_
    rintro e w1 ⟨rfl, hc⟩
    go_wp2
    go_ret2
    exact ⟨by unfold singleV; rw [hn.out]; rfl, ((Chg.refl Nothing w).alloc _).trans hc⟩
end Go.Proofs.Ytpndjehiacmngaa
