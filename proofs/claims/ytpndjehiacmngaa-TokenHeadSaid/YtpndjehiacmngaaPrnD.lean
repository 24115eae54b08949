/- Layer 13: printing: the document's Element. -/
import Derived.Test.YtpndjehiacmngaaPrnC
import Derived.Test.YtpndjehiacmngaaTokR
namespace Go.Proofs.Ytpndjehiacmngaa
open Go.RowKit
set_option linter.unusedVariables false
attribute [local go_sem ↓] Go.wp_at_zero Go.wp_at_succ
theorem sizeTo_full (x : Cls) (k : Nat) : sizeTo x k = k ↔ ∀ i, i < k → x.getLsbD i = true := by
  induction k with
  | zero => exact ⟨fun _ i h => by omega, fun _ => rfl⟩
  | succ k ih =>
    rw [sizeTo_succ]
    have hl := sizeTo_le x k
    by_cases hb : x.getLsbD k = true
    · rw [if_pos hb]
      constructor
      · intro h i hi
        rcases Nat.lt_or_ge i k with h1 | h1
        · exact ih.1 (by omega) i h1
        · have : i = k := by omega
          subst this; exact hb
      · intro h; have := ih.2 (fun i hi => h i (by omega)); omega
    · rw [if_neg hb]
      constructor
      · intro h; omega
      · intro h; exact absurd (h k (by omega)) hb
theorem sizeC_full (x : Cls) : sizeC x = 256 ↔ x = fullC := by
  unfold sizeC
  rw [sizeTo_full]
  constructor
  · intro h; exact cls_ext fun i hi => by rw [h i hi, fullC_get hi]
  · rintro rfl i hi; exact fullC_get hi
theorem singleC_zero : singleC 0 = none := singleC_not (by rw [sizeC_zero.2 rfl]; decide)
theorem zero_ne_full : (0 : Cls) ≠ fullC := by decide
set_option maxHeartbeats 4000000 in
set_option maxRecDepth 100000 in
theorem refElement13_any (x : Cls) (w : World) :
    Calls Try.prog 15 #[encC x] w fun e w' => e = .returned (.tuple (elemV x)) ∧ Chg Nothing w w' := by
  unfold encC
  have hX := Blk.new w (cellsC x) 35
  have HX0 := hid hX
  have hC0 := hid ((Chg.refl Nothing w).alloc (.cells (cellsC x) 35))
  obtain ⟨r0, r1, r2, r3, f0, f1, f2, f3, hlt⟩ := CBox.at_ hX
  clear hX
  by_cases h0 : x = 0
  · have hE := hid (show elemV x = #[.string ByteArray.empty, .bool false] from by unfold elemV elemS; rw [h0, if_neg zero_ne_full, singleC_zero]; rfl)
    have hz : ((sizeC x : Int) == 0) = true := by rw [sizeC_zero.2 h0]; rfl
    replace h0 := hid h0
    go_enter Try.func15, Try.ntmps15
    go_wp2_with fail
    refine (refSizeL x _).mono ?_
    rintro e W1 ⟨rfl, hcS⟩
    have HX1 := hid (HX0.out.chg hcS id)
    have hC1 := hid (hC0.out.trans hcS)
    clear hcS r0 r1 r2 r3 f0 f1 f2 f3 hlt
    obtain ⟨r0, r1, r2, r3, f0, f1, f2, f3, hlt⟩ := CBox.at_ HX1.out
    go_wp2
    go_ret2
    exact ⟨by rw [hE.out]; rfl, hC1.out⟩
  · have hz : ((sizeC x : Int) == 0) = false := by rw [beq_eq_false_iff_ne]; intro e; exact h0 (sizeC_zero.1 (by omega))
    by_cases hf : x = fullC
    · have hE := hid (show elemV x = #[.string ⟨#[63]⟩, .bool true] from by unfold elemV elemS; rw [if_pos hf])
      have hz2 : ((sizeC x : Int) == 256) = true := by rw [(sizeC_full x).2 hf]; rfl
      replace hf := hid hf
      replace h0 := hid h0
      go_enter Try.func15, Try.ntmps15
      go_wp2_with fail
      refine (refSizeL x _).mono ?_
      rintro e W1 ⟨rfl, hcS⟩
      have HX1 := hid (HX0.out.chg hcS id)
      have hC1 := hid (hC0.out.trans hcS)
      clear hcS r0 r1 r2 r3 f0 f1 f2 f3 hlt
      obtain ⟨r0, r1, r2, r3, f0, f1, f2, f3, hlt⟩ := CBox.at_ HX1.out
      go_wp2_with fail
      refine (refSizeL x _).mono ?_
      rintro e W2 ⟨rfl, hcS⟩
      have HX2 := hid (HX1.out.chg hcS id)
      have hC2 := hid (hC1.out.trans hcS)
      clear hcS r0 r1 r2 r3 f0 f1 f2 f3 hlt
      obtain ⟨r0, r1, r2, r3, f0, f1, f2, f3, hlt⟩ := CBox.at_ HX2.out
      go_wp2
      go_ret2
      exact ⟨by rw [hE.out]; rfl, hC2.out⟩
    · have hz2 : ((sizeC x : Int) == 256) = false := by rw [beq_eq_false_iff_ne]; intro e; exact hf ((sizeC_full x).1 (by omega))
      have hE0 : Hid (elemS x = match singleC x with
        | some b => some (writtenS b outsideSet)
        | none => if x = 0 then none else some (runsT (runsC x) ++ ⟨#[93]⟩)) := hid (by unfold elemS; rw [if_neg hf]; cases singleC x <;> rfl)
      replace hf := hid hf
      replace h0 := hid h0
      cases hsg : singleC x with
      | some b =>
        have hb : b < 256 := singleC_lt hsg
        have hE := hid (show elemV x = #[.string (writtenS b outsideSet), .bool true] from by unfold elemV; rw [hE0.out, hsg])
        have hS := hid (show ∀ w, Calls Try.prog 29 #[.agg #[.int .u64 (wd x 0), .int .u64 (wd x 1), .int .u64 (wd x 2), .int .u64 (wd x 3)]] w fun e w' => e = .returned (.tuple #[.int .u8 b, .bool true]) ∧ Chg Nothing w w' from fun w => by
          have := refSingle_any x w
          unfold singleV at this
          rw [hsg] at this; exact this)
        clear hsg
        go_enter Try.func15, Try.ntmps15
        go_wp2_with fail
        refine (refSizeL x _).mono ?_
        rintro e W1 ⟨rfl, hcS⟩
        have HX1 := hid (HX0.out.chg hcS id)
        have hC1 := hid (hC0.out.trans hcS)
        clear hcS r0 r1 r2 r3 f0 f1 f2 f3 hlt
        obtain ⟨r0, r1, r2, r3, f0, f1, f2, f3, hlt⟩ := CBox.at_ HX1.out
        go_wp2_with fail
        refine (refSizeL x _).mono ?_
        rintro e W2 ⟨rfl, hcS⟩
        have HX2 := hid (HX1.out.chg hcS id)
        have hC2 := hid (hC1.out.trans hcS)
        clear hcS r0 r1 r2 r3 f0 f1 f2 f3 hlt
        obtain ⟨r0, r1, r2, r3, f0, f1, f2, f3, hlt⟩ := CBox.at_ HX2.out
        go_wp2_with fail
        refine (hS.out _).mono ?_
        rintro e w4 ⟨rfl, hc4⟩
        go_wp2_with fail
        refine (refWritten_any b outsideSet _ (by omega) (by decide)).mono ?_
        rintro e w5 ⟨rfl, hc5⟩
        go_wp2
        go_ret2
        exact ⟨by rw [hE.out]; rfl, (hC2.out.trans hc4).trans hc5⟩
      | none =>
        have hE := hid (show elemV x = #[.string (runsT (runsC x) ++ ⟨#[93]⟩), .bool true] from by unfold elemV; rw [hE0.out, hsg]; simp only []; rw [if_neg h0.out])
        have hS := hid (show ∀ w, Calls Try.prog 29 #[.agg #[.int .u64 (wd x 0), .int .u64 (wd x 1), .int .u64 (wd x 2), .int .u64 (wd x 3)]] w fun e w' => e = .returned (.tuple #[.int .u8 0, .bool false]) ∧ Chg Nothing w w' from fun w => by
          have := refSingle_any x w
          unfold singleV at this
          rw [hsg] at this; exact this)
        clear hsg
        go_enter Try.func15, Try.ntmps15
        go_wp2_with fail
        refine (refSizeL x _).mono ?_
        rintro e W1 ⟨rfl, hcS⟩
        have HX1 := hid (HX0.out.chg hcS id)
        have hC1 := hid (hC0.out.trans hcS)
        clear hcS r0 r1 r2 r3 f0 f1 f2 f3 hlt
        obtain ⟨r0, r1, r2, r3, f0, f1, f2, f3, hlt⟩ := CBox.at_ HX1.out
        go_wp2_with fail
        refine (refSizeL x _).mono ?_
        rintro e W2 ⟨rfl, hcS⟩
        have HX2 := hid (HX1.out.chg hcS id)
        have hC2 := hid (hC1.out.trans hcS)
        clear hcS r0 r1 r2 r3 f0 f1 f2 f3 hlt
        obtain ⟨r0, r1, r2, r3, f0, f1, f2, f3, hlt⟩ := CBox.at_ HX2.out
        go_wp2_with fail
        refine (hS.out _).mono ?_
        rintro e w4 ⟨rfl, hc4⟩
        have HX4 := hid (Blk.chg HX2.out hc4 id)
        clear r0 r1 r2 r3 f0 f1 f2 f3 hlt
        obtain ⟨r0, r1, r2, r3, f0, f1, f2, f3, hlt4⟩ := CBox.at_ HX4.out
        have hC4 := hid (hC2.out.trans hc4)
        clear hc4
        go_wp2_with fail
        refine (refRuns_any x _).mono ?_
        rintro e w5 ⟨A, n, c, rfl, hrl, hown, hc5⟩
        have hC5 := hid (hC4.out.trans hc5)
        have HR5 := hid ((RowAt.of_own hown).mono (G := fun j => j < w5.heap.size) (fun j hj _ => hj))
        replace hrl := hid hrl
        clear hown hc5 r0 r1 r2 r3 f0 f1 f2 f3 hlt4 HX4 HX2 HX1 HX0 hC4 hC2 hC1 hC0
        go_wp2_with fail
        have hrn : n ≤ 256 := by have := runsTo_len x 256; have h2 := hrl.out; unfold runsC at h2; omega
        go_loopw [6, 8] (fun ov iv wr => ElInv x w A n c ov iv wr) (fun _ iv _ => n - (intOf iv).toNat)
        case atStart => exact ⟨0, Nat.zero_le _, rfl, rfl, HR5, hC5.out⟩
        case round =>
          clear HR5 hC5 hS
          obtain ⟨k, hk, rfl, rfl, HR, hchg⟩ := hrel
          rcases Nat.lt_or_ge k n with hkn | hkn
          · obtain ⟨g, o, rfl, hg, hgl, hcell⟩ := HR.out.cell hkn (by decide)
            have hc0 := hcell 0 (by decide)
            have hc1 := hcell 1 (by decide)
            rw [encR_at _ k 0 (by rw [hrl.out]; exact hkn) (by decide)] at hc0
            rw [encR_at _ k 1 (by rw [hrl.out]; exact hkn) (by decide)] at hc1
            have hrk := runs_ok x 256 ((runsC x).getD k (0, 0)) (by
              rw [List.getD_eq_getElem?_getD, List.getElem?_eq_getElem (by rw [hrl.out]; exact hkn)]
              exact List.getElem_mem _)
            have hT := hid (runsTake (runsC x) k (by rw [hrl.out]; exact hkn))
            generalize (runsC x).getD k (0, 0) = rr at hc0 hc1 hrk hT
            obtain ⟨f, t⟩ := rr
            simp only [encR] at hc0 hc1
            simp only [List.getD_cons_zero, List.getD_cons_succ] at hc0 hc1
            simp only at hrk
            replace hc0 : wr.cell? ⟨g, o + k * 2, none⟩ = some (.int .u8 f) := hc0
            replace hc1 : wr.cell? ⟨g, o + k * 2 + 1, none⟩ = some (.int .u8 t) := hc1
            clear hcell hg
            have hso := (runsT_go ((runsC x).take k) ⟨#[91]⟩).2
            have hso : (runsT ((runsC x).take k)).size ≤ 3000 := by
              have h1 : (⟨#[91]⟩ : ByteArray).size = 1 := rfl
              have h2 : ((runsC x).take k).length ≤ k := List.length_take_le _ _
              unfold runsT; omega
            generalize hOut : runsT ((runsC x).take k) = out at hso hT
            replace hOut := hid hOut
            have hw1 := (writtenS_size f insideSet).2
            have hw2 := (writtenS_size t insideSet).2
            have hbf : (f : Int) < 256 := by omega
            have hbt : (t : Int) < 256 := by omega
            have ku : True := trivial
            have hcase : t = f ∨ t = f + 1 ∨ f + 1 < t := by omega
            rcases hcase with ht | ht | ht
            · have hR := hid (show runT out (f, t) = out ++ writtenS f insideSet from by unfold runT; simp only []; rw [if_neg (by omega), if_neg (by omega)])
              have ht1 : ¬ (f : Int) + 1 < (t : Int) := by omega
              have ht2 : ¬ (f : Int) < (t : Int) := by omega
              replace ht := hid ht
              go_wp2_with fail
              refine (refWritten_any f insideSet _ hbf (by decide)).mono ?_
              rintro e w6 ⟨rfl, hc⟩
              have HR6 := hid (HR.out.chg hc (fun _ _ _ h => h))
              have hC6 := hid (hchg.trans hc)
              have d0 : w6.cell? ⟨g, o + k * 2, none⟩ = some (.int .u8 f) := (hc.cells.1 _ _ hgl).trans hc0
              have d1 : w6.cell? ⟨g, o + k * 2 + 1, none⟩ = some (.int .u8 t) := (hc.cells.1 _ _ hgl).trans hc1
              have hgl6 : g < w6.heap.size := Nat.lt_of_lt_of_le hgl hc.size
              clear hc HR hchg hc0 hc1
              go_wp2
              go_roundw
              case rel => exact ⟨k + 1, hkn, by go_num, by rw [hT.out, hR.out], hid (HR6.out.mono (fun j hj _ => hj)), hC6.out⟩
              case measure => simp [intOf]; omega
            · have hR := hid (show runT out (f, t) = (out ++ writtenS f insideSet) ++ writtenS t insideSet from by unfold runT; simp only []; rw [if_pos (by omega), if_neg (by omega)])
              have ht1 : ¬ (f : Int) + 1 < (t : Int) := by omega
              have ht2 : (f : Int) < (t : Int) := by omega
              replace ht := hid ht
              go_wp2_with fail
              refine (refWritten_any f insideSet _ hbf (by decide)).mono ?_
              rintro e w6 ⟨rfl, hc⟩
              have HR6 := hid (HR.out.chg hc (fun _ _ _ h => h))
              have hC6 := hid (hchg.trans hc)
              have d0 : w6.cell? ⟨g, o + k * 2, none⟩ = some (.int .u8 f) := (hc.cells.1 _ _ hgl).trans hc0
              have d1 : w6.cell? ⟨g, o + k * 2 + 1, none⟩ = some (.int .u8 t) := (hc.cells.1 _ _ hgl).trans hc1
              have hgl6 : g < w6.heap.size := Nat.lt_of_lt_of_le hgl hc.size
              clear hc HR hchg hc0 hc1
              go_wp2_with fail
              refine (refWritten_any t insideSet _ hbt (by decide)).mono ?_
              rintro e w7 ⟨rfl, hc⟩
              have HR7 := hid (HR6.out.chg hc (fun _ _ _ h => h))
              have hC7 := hid (hC6.out.trans hc)
              clear hc HR6 hC6 d0 d1
              go_wp2
              go_roundw
              case rel => exact ⟨k + 1, hkn, by go_num, by rw [hT.out, hR.out], hid (HR7.out.mono (fun j hj _ => hj)), hC7.out⟩
              case measure => simp [intOf]; omega
            · have hR := hid (show runT out (f, t) = ((out ++ writtenS f insideSet) ++ ⟨#[45]⟩) ++ writtenS t insideSet from by unfold runT; simp only []; rw [if_pos (by omega), if_pos (by omega)])
              have ht1 : (f : Int) + 1 < (t : Int) := by omega
              have ht2 : (f : Int) < (t : Int) := by omega
              have hdz : (⟨#[45]⟩ : ByteArray).size ≤ 1 := Nat.le_refl 1
              go_wp2_with fail
              refine (refWritten_any f insideSet _ hbf (by decide)).mono ?_
              rintro e w6 ⟨rfl, hc⟩
              have HR6 := hid (HR.out.chg hc (fun _ _ _ h => h))
              have hC6 := hid (hchg.trans hc)
              have d0 : w6.cell? ⟨g, o + k * 2, none⟩ = some (.int .u8 f) := (hc.cells.1 _ _ hgl).trans hc0
              have d1 : w6.cell? ⟨g, o + k * 2 + 1, none⟩ = some (.int .u8 t) := (hc.cells.1 _ _ hgl).trans hc1
              have hgl6 : g < w6.heap.size := Nat.lt_of_lt_of_le hgl hc.size
              clear hc HR hchg hc0 hc1
              go_wp2_with fail
              refine (refWritten_any t insideSet _ hbt (by decide)).mono ?_
              rintro e w7 ⟨rfl, hc⟩
              have HR7 := hid (HR6.out.chg hc (fun _ _ _ h => h))
              have hC7 := hid (hC6.out.trans hc)
              clear hc HR6 hC6 d0 d1
              go_wp2
              go_roundw
              case rel => exact ⟨k + 1, hkn, by go_num, by rw [hT.out, hR.out], hid (HR7.out.mono (fun j hj _ => hj)), hC7.out⟩
              case measure => simp [intOf]; omega
          · have hkn' : k = n := by omega
            subst hkn'
            have hall := hid (show (runsC x).take k = runsC x from List.take_of_length_le (by rw [hrl.out]; exact Nat.le_refl _))
            rw [hall.out]
            have hgo := runsT_go (runsC x) ⟨#[91]⟩
            have h91 : (⟨#[91]⟩ : ByteArray).size = 1 := rfl
            have hrl' := hrl.out
            have hsz : (runsT (runsC x)).size ≤ 3000 := by unfold runsT; omega
            obtain ⟨out, hout⟩ : ∃ out, out = runsT (runsC x) := ⟨_, rfl⟩
            rw [← hout] at hsz ⊢
            replace hout := hid hout
            clear hgo hrl' h91
            go_wp2
            go_ret2
            exact ⟨by rw [hE.out, ← hout.out]; rfl, hchg⟩
end Go.Proofs.Ytpndjehiacmngaa
