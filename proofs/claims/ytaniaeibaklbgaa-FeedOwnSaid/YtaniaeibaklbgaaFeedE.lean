import Derived.Test.YtaniaeibaklbgaaFeedD
namespace Go.Proofs.Ytaniaeibaklbgaa
open Go.RowKit

theorem refNew_f (t : ByteArray) (A : Option Addr) (n c : Nat) (ps : List Int) (fail : Int) (w : World) :
    Calls Try.prog 18 #[.string t, .slice A n c, .int .i64 fail] w fun e w' => e = .returned (rfAgg (Fd.new t ps fail).T ((Fd.new t ps fail).e == 2) A n c 0) ∧ Chg Nothing w w' := by
  refine (refNew_any t A n c fail w).mono ?_
  rintro e w' ⟨rfl, h⟩
  refine ⟨?_, h⟩
  unfold Fd.T Fd.new
  split <;> rfl

def rfCells (T : ByteArray) (fl : Bool) (A : Option Addr) (n c : Nat) (g : Int) : Array Value := #[.string T, .bool fl, .slice A n c, .int .i64 g]

theorem refRead_f' (F : Nat → Prop) (f f0 : Fd) (A : Option Addr) (n c : Nat) (w : World) (hf : f.good) (hT : f.T = f0.T) (he : f.e = f0.e) (hI : IntsAt F w A n c f.ps) :
    Calls Try.prog 20 #[.agg #[.string f0.T, .bool (f0.e == 2), .slice A n c, .int .i64 f.p]] w fun e w' => ∃ A' n' c', e = .returned (.tuple #[.agg #[.string f0.T, .bool (f0.e == 2), .slice A' n' c', .int .i64 f.next.p], .string f.got, .int .i64 f.tells]) ∧ IntsAt F w' A' n' c' f.next.ps ∧ Chg Nothing w w' := by
  rw [← hT, ← he]; exact refRead_f F f A n c w hf hI

def FRInv (w : World) (b br : Nat) (F : Nat → Prop) (f0 : Fd) (N : Nat) (i : Value) (wr : World) : Prop :=
  ∃ k f A n c, k ≤ N ∧ i = .int .i64 (k : Nat) ∧ Fd.good f ∧ f.T = f0.T ∧ f.e = f0.e ∧ FeedAt F wr b f ∧ Blk wr br (rfCells f0.T (f0.e == 2) A n c f.p) 28 ∧ IntsAt (fun k => k < w.heap.size) wr A n c f.ps ∧ Chg Nothing w wr

set_option maxHeartbeats 2000000 in
theorem FeedReads_walk (t : ByteArray) (A : Option Addr) (n c : Nat) (ps : List Int) (fail : Int) (w : World) (ht : t.size ≤ 140737488351232) (hI : IntsAt (fun k => k < w.heap.size) w A n c ps) (hn : n * 8 ≤ 140737488351232) (_hps : ∀ x ∈ ps, -9223372036854775808 ≤ x ∧ x ≤ 9223372036854775807) (_hf1 : -9223372036854775808 ≤ fail) (_hf2 : fail ≤ 9223372036854775807) :
    Calls Try.prog 3 #[.string t, .slice A n c, .int .i64 fail] w fun e w' => e = .returned (.bool true) ∧ Chg Nothing w w' := by
  by_cases hfew : (t.size : Int) ≤ 500 ∧ (n : Int) ≤ 500
  · obtain ⟨hf1, hf2⟩ := hfew
    have HI := hid hI; clear hI
    go_enter Try.func3, Try.ntmps3
    go_wp2_with fail
    refine (new_any _ t A n c ps fail w (by omega) HI.out hn).mono ?_
    rintro e w1 ⟨b, rfl, hb1, hb2, hfd, hc1⟩
    go_wp2_with (go_at_call 16; refine (fewF_yes t A n c _ hf1 hf2).mono ?_; rintro e w2 ⟨rfl, rfl⟩)
    refine (refNew_f t A n c ps fail w1).mono ?_
    rintro e w2 ⟨rfl, hc2⟩
    have hc02 := hc1.trans hc2
    replace hfd := hfd.chg hc2 id (fun _ _ _ h => h)
    have hgood := Fd.new_good t ps fail (by omega)
    have hp0 : (Fd.new t ps fail).p = 0 := by unfold Fd.new; split <;> rfl
    have hps0 : (Fd.new t ps fail).ps = ps := by unfold Fd.new; split <;> rfl
    generalize hF0 : Fd.new t ps fail = f0 at *
    unfold rfAgg
    have hF : ∀ k, w.heap.size ≤ k ∧ k < b → k < w2.heap.size ∧ w.heap.size ≤ k := fun k h => ⟨by have := hc2.size; omega, h.1⟩
    have hwr := hc02.size
    have hb2' := Nat.lt_of_lt_of_le hb2 hc2.size
    have HG := hid hgood; clear hgood
    have HP0 := hid hp0; clear hp0
    have HPS := hid hps0; clear hps0 hF0 hF
    have h500 : n ≤ 500 := by omega
    clear hf1 hf2
    go_wp2_with fail
    go_loopw [40] (fun i wr => FRInv w b w2.heap.size (fun k => w.heap.size ≤ k ∧ k < b) f0 (n + 4) i wr) (fun i _ => n + 4 - (intOf i).toNat)
    case atStart =>
      refine ⟨0, f0, A, n, c, Nat.zero_le _, rfl, HG.out, rfl, rfl, hfd.chg ((Chg.refl Nothing _).alloc _) id (fun _ _ _ h => h), ?_, ?_, hc02.alloc _⟩
      · rw [HP0.out]; exact Blk.new _ _ _
      · rw [HPS.out]; exact HI.out.chg (hc02.alloc _) (fun _ _ _ h => h)
    case round =>
      obtain ⟨k, f, A', n', c', hk, rfl, hgood, hT, he, hfd', hblk, hI', hcr⟩ := hrel
      have HT := hid hT; clear hT
      have HE := hid he; clear he
      have hg1 := hid hgood; clear hgood
      have hbw := hblk.lt
      have hbb := hfd'.lt
      by_cases hlt : k < n + 4
      · have HB := hid hblk
        clear hblk
        go_wp2_with fail
        refine (read_any _ b f wr hfd').mono ?_
        rintro e w3 ⟨rfl, hfd3, hc3⟩
        have HB3 := HB.out.chg hc3 (by unfold One; omega)
        have hI3 := hI'.chg hc3 (fun k hk h e => by unfold One at e; omega)
        have hcr3 := hcr.then hc3 (fun k hk e => by unfold One at e; omega)
        have hs3 := hc3.size
        clear hfd' HB hI' hcr hc3
        have r0 := HB3.cell 0 (v := .string f0.T) rfl
        have r1 := HB3.cell 1 (v := .bool (f0.e == 2)) rfl
        have r2 := HB3.cell 2 (v := .slice A' n' c') rfl
        have r3 := HB3.cell 3 (v := .int .i64 f.p) rfl
        have HB3' := hid HB3; clear HB3
        go_wp2_with fail
        refine (refRead_f' _ f f0 A' n' c' w3 hg1.out HT.out HE.out hI3).mono ?_
        rintro e w4 ⟨A4, n4, c4, rfl, hI4, hc4⟩
        have HB4 := HB3'.out.chg hc4 id
        have hfd4 := hfd3.chg hc4 id (fun _ _ _ h => h)
        have hcr4 := hcr3.trans hc4
        have hs4 := hc4.size
        clear HB3' hfd3 hcr3 hc4 hI3 r0 r1 r2 r3
        have f0' := HB4.free 0
        have f1' := HB4.free 1
        have f2' := HB4.free 2
        have f3' := HB4.free 3
        have r0 := HB4.cell 0 (v := .string f0.T) rfl
        have r1 := HB4.cell 1 (v := .bool (f0.e == 2)) rfl
        have r2 := HB4.cell 2 (v := .slice A' n' c') rfl
        have r3 := HB4.cell 3 (v := .int .i64 f.p) rfl
        have HB4' := hid HB4; clear HB4
        have hbr4 : w2.heap.size < w4.heap.size := by omega
        go_wp2_with fail
        have hcS : Chg (One w2.heap.size) w4 (((((w4.setCell ⟨w2.heap.size, 0, none⟩ (.string f0.T)).setCell ⟨w2.heap.size, 1, none⟩ (.bool (f0.e == 2))).setCell ⟨w2.heap.size, 2, none⟩ (.slice A4 n4 c4)).setCell ⟨w2.heap.size, 3, none⟩ (.int .i64 f.next.p)).alloc (.cells #[.string f0.T, .bool (f0.e == 2), .slice A4 n4 c4, .int .i64 f.next.p] 28)) :=
          (((((Chg.refl (One w2.heap.size) w4).setOne 0 _).setOne 1 _).setOne 2 _).setOne 3 _).alloc _
        refine wp_forget (fun W => FeedAt (fun k => w.heap.size ≤ k ∧ k < b) W b f.next ∧ Blk W w2.heap.size (rfCells f0.T (f0.e == 2) A4 n4 c4 f.next.p) 28 ∧ IntsAt (fun k => k < w.heap.size) W A4 n4 c4 f.next.ps ∧ Chg Nothing w W) ?_ ?_
        · exact ⟨hfd4.chg hcS (by unfold One; omega) (fun k hk h e => by unfold One at e; omega), ((((HB4'.out.set 0 _).set 1 _).set 2 _).set 3 _).alloc _, hI4.chg hcS (fun k hk h e => by unfold One at e; omega), hcr4.then hcS (fun k hk e => by unfold One at e; omega)⟩
        clear hcS hfd4 HB4' hI4 hcr4 r0 r1 r2 r3 f0' f1' f2' f3'
        rintro w5 ⟨hfd5, hB5, hI5, hc5⟩
        have r3 := hB5.cell 3 (v := .int .i64 f.next.p) rfl
        have HB5 := hid hB5; clear hB5
        go_quiet ((go_at_call 21; exact Calls.quiet_of (given_any _ b _ _ (hfd5.chg (Chg.drewN (Chg.refl Nothing _) _) id (fun _ _ _ h => h)))))
        go_wp2
        go_roundw
        case rel => exact ⟨k + 1, f.next, A4, n4, c4, by omega, by go_num, f.next_good hg1.out, f.next_T.trans HT.out, f.next_e.trans HE.out, hfd5.chg (Chg.drewN (Chg.refl Nothing _) _) id (fun _ _ _ h => h), HB5.out, hI5.chg (Chg.drewN (Chg.refl Nothing _) _) (fun _ _ _ h => h), hc5.drewN _⟩
        case measure => simp [intOf]; omega
      · have hB := hid hblk
        have r0 := hblk.cell 0 (v := .string f0.T) rfl
        have r1 := hblk.cell 1 (v := .bool (f0.e == 2)) rfl
        clear hblk
        go_wp2_with fail
        refine (whole_any _ b f wr hfd').mono ?_
        rintro e w3 ⟨rfl, n3, rfl⟩
        rw [show f.t.extract 0 f.q = f0.T from HT.out, HE.out]
        go_wp2_with fail
        refine (aliveF _).mono ?_
        rintro e w4 ⟨rfl, hc4⟩
        have HB4 := (hB.out.drewN n3).chg hc4 id
        have r0' := HB4.cell 0 (v := .string f0.T) rfl
        have r1' := HB4.cell 1 (v := .bool (f0.e == 2)) rfl
        clear HB4
        go_wp2
        go_ret
        exact ⟨rfl, (hcr.drewN n3).trans hc4⟩
  · have HF := hid hfew; clear hfew
    have HI := hid hI; clear hI
    go_enter Try.func3, Try.ntmps3
    go_wp2_with fail
    refine (new_any _ t A n c ps fail w (by omega) HI.out hn).mono ?_
    rintro e w1 ⟨b, rfl, hb1, hb2, hfd, hc1⟩
    go_wp2_with (first | (go_at_call 16; refine (fewF_no t A n c _ HF.out).mono ?_; rintro e w2 ⟨rfl, rfl⟩) | (go_at_call 17; refine (aliveF _).mono ?_; rintro e w2 ⟨rfl, hc2⟩))
    go_ret
    exact ⟨rfl, hc1.trans hc2⟩
end Go.Proofs.Ytaniaeibaklbgaa
