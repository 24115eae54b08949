import Derived.Test.YtaniaeibaklbgaaFeedF
namespace Go.Proofs.Ytaniaeibaklbgaa
open Go.RowKit
set_option linter.unusedVariables false

def FHInv (w : World) (a b m : Nat) (fa fb : Fd) (N : Nat) (x y i : Value) (wr : World) : Prop :=
  ∃ k X Y, k ≤ N ∧ i = .int .i64 (k : Nat) ∧ x = .string X ∧ y = .string Y ∧ X.size ≤ fa.t.size ∧ Y.size ≤ fb.t.size ∧ Hid (X = fa.t.extract 0 (fa.after k).p) ∧ Hid (Y = fb.t.extract 0 (fb.after k).p) ∧
    FeedAt (fun k => w.heap.size ≤ k ∧ k < a) wr a (fa.after k) ∧ FeedAt (fun k => m ≤ k ∧ k < b) wr b (fb.after k) ∧ Chg Nothing w wr

set_option maxHeartbeats 4000000 in
theorem FeedHead_walk (t : ByteArray) (A : Option Addr) (n c : Nat) (ps : List Int) (fail : Int) (w : World) (ht : t.size ≤ 140737488351232) (hI : IntsAt (fun k => k < w.heap.size) w A n c ps) (hn : n * 8 ≤ 140737488351232) (_hps : ∀ x ∈ ps, -9223372036854775808 ≤ x ∧ x ≤ 9223372036854775807) (_hf1 : -9223372036854775808 ≤ fail) (_hf2 : fail ≤ 9223372036854775807) :
    Calls Try.prog 6 #[.string t, .slice A n c, .int .i64 fail] w fun e w' => e = .returned (.bool true) ∧ Chg Nothing w w' := by
  have hln := hI.2.2.2.1
  by_cases hfew : (t.size : Int) ≤ 500 ∧ (n : Int) ≤ 500
  · by_cases hfl : 0 ≤ fail ∧ fail ≤ t.size
    · obtain ⟨hf1, hf2⟩ := hfew
      obtain ⟨hl1, hl2⟩ := hfl
      have HI := hid hI; clear hI
      have HLN := hid hln; clear hln
      obtain ⟨q, rfl⟩ := Int.eq_ofNat_of_zero_le hl1
      go_enter Try.func6, Try.ntmps6
      go_wp2_with fail
      refine (new_any _ t A n c ps (-1) w (by omega) HI.out hn).mono ?_
      rintro e w1 ⟨a, rfl, ha1, ha2, hfa, hc1⟩
      go_wp2_with fail
      refine (new_any _ t A n c ps q w1 (by omega) (HI.out.chg hc1 (fun _ _ _ h => h)) hn).mono ?_
      rintro e w2 ⟨b, rfl, hb1, hb2, hfb, hc2⟩
      have hfa := hfa.chg hc2 id (fun _ _ _ h => h)
      have h500 : n ≤ 500 := by omega
      have h501 : t.size ≤ 500 := by omega
      have hql : q ≤ t.size := by omega
      clear hf2
      have hd1 : decide ((q : Int) < 0) = false := by simp
      have hd2 : decide (t.size < q) = false := by simp; omega
      rw [new_ends (by omega)] at hfa
      rw [new_fails (by omega) (by omega)] at hfb
      have HGa := hid (show Fd.good ⟨t, ps, 0, t.size, 1⟩ from ⟨⟨Nat.zero_le _, Nat.le_refl _, by simp only; omega⟩, .inl rfl⟩)
      have HGb := hid (show Fd.good ⟨t, ps, 0, q, 2⟩ from ⟨⟨Nat.zero_le _, by simp only; omega, by simp only; omega⟩, .inr rfl⟩)
      have hfa := hid hfa
      have hfb := hid (show FeedAt (fun k => w1.heap.size ≤ k ∧ k < b) w2 b ⟨t, ps, 0, q, 2⟩ from by simpa using hfb)
      obtain ⟨fa, hea⟩ : ∃ f, f = Fd.mk t ps 0 t.size 1 := ⟨_, rfl⟩
      obtain ⟨fb, heb⟩ : ∃ f, f = Fd.mk t ps 0 q 2 := ⟨_, rfl⟩
      rw [← hea] at HGa hfa
      rw [← heb] at HGb hfb
      have HEa := hid hea; clear hea
      have HEb := hid heb; clear heb
      go_wp2_with (go_at_call 16; refine (fewF_yes t A n c _ hf1 (by omega)).mono ?_; rintro e w2 ⟨rfl, rfl⟩)
      clear hf1
      go_loopw [9, 10, 58] (fun x y i wr => FHInv w a b w1.heap.size fa fb (n + 2) x y i wr) (fun _ _ i _ => n + 2 - (intOf i).toNat)
      case atStart =>
        refine ⟨0, ⟨#[]⟩, ⟨#[]⟩, Nat.zero_le _, rfl, rfl, rfl, Nat.zero_le _, Nat.zero_le _, hid ?_, hid ?_, hfa.out, hfb.out, hc1.trans hc2⟩
        · simp only [Fd.after]; rw [HEa.out]; simp; rfl
        · simp only [Fd.after]; rw [HEb.out]; simp; rfl
      case round =>
        obtain ⟨k, X, Y, hk, rfl, rfl, rfl, hXs, hYs, HX, HY, hfa', hfb', hcr⟩ := hrel
        have hta : fa.t = t := by rw [HEa.out]
        have htb : fb.t = t := by rw [HEb.out]
        rw [hta] at hXs
        rw [htb] at hYs
        have hga := Fd.after_good _ HGa.out k
        have hgb := Fd.after_good _ HGb.out k
        have hba := hfa'.lt
        have hbb := hfb'.lt
        by_cases hlt : k < n + 2
        · have hs1 := Fd.got_size _ hga.ok
          have hs2 := Fd.got_size _ hgb.ok
          have hgn1 := hid (Fd.got_next _ hga.ok)
          have hgn2 := hid (Fd.got_next _ hgb.ok)
          rw [Fd.after_t, hta] at hs1 hgn1
          rw [Fd.after_t, htb] at hs2 hgn2
          have HTA := hid hta; clear hta
          have HTB := hid htb; clear htb
          have HgA := hid hga; clear hga
          have HgB := hid hgb; clear hgb
          generalize hgota : (fa.after k).got = GA at *
          generalize hgotb : (fb.after k).got = GB at *
          have HOA := hid hgota; clear hgota
          have HOB := hid hgotb; clear hgotb
          go_wp2_with fail
          refine (read_any _ a _ wr hfa').mono ?_
          rintro e w3 ⟨rfl, hfa3, hc3⟩
          have hfb3 := hfb'.chg hc3 (by unfold One; omega) (fun k _ h e => by unfold One at e; omega)
          rw [HOA.out]
          go_wp2_with fail
          refine (read_any _ b _ w3 hfb3).mono ?_
          rintro e w4 ⟨rfl, hfb4, hc4⟩
          have hfa4 := hfa3.chg hc4 (by unfold One; omega) (fun k _ h e => by unfold One at e; omega)
          rw [HOB.out]
          go_wp2_with fail
          go_roundw
          case rel =>
            refine ⟨k + 1, X ++ GA, Y ++ GB, by omega, by go_num, rfl, rfl, ?_, ?_, hid ?_, hid ?_, hfa4, hfb4, (hcr.then hc3 (fun k hk e => by unfold One at e; omega)).then hc4 (fun k hk e => by unfold One at e; omega)⟩
            · rw [HX.out, HTA.out, hgn1.out]; simp; omega
            · rw [HY.out, HTB.out, hgn2.out]; simp; omega
            · rw [HX.out, HTA.out, hgn1.out]; rfl
            · rw [HY.out, HTB.out, hgn2.out]; rfl
          case measure => simp [intOf]; omega
        · obtain rfl : k = n + 2 := by omega
          have hea : (fa.after (n + 2)).p = t.size := by rw [Fd.after_end _ HGa.out (n + 2) (by rw [HEa.out]; simp only; rw [HLN.out]; omega), HEa.out]
          have heb : (fb.after (n + 2)).p = q := by rw [Fd.after_end _ HGb.out (n + 2) (by rw [HEb.out]; simp only; rw [HLN.out]; omega), HEb.out]
          have hXt : X = t := by rw [HX.out, hea, hta]; simp
          have hYt : Y = t.extract 0 q := by rw [HY.out, heb, htb]
          have hq : (fb.after (n + 2)).q = q := by rw [Fd.after_q, HEb.out]
          have he : (fb.after (n + 2)).e = 2 := by rw [Fd.after_e, HEb.out]
          have htt : (fb.after (n + 2)).t = t := by rw [Fd.after_t, htb]
          subst hXt
          clear hea heb HX HY hta htb hga hgb hXs hYs
          subst hYt
          have HQ := hid hq; clear hq
          have HE := hid he; clear he
          have HTT := hid htt; clear htt
          go_wp2_with fail
          refine (whole_any _ b _ wr hfb').mono ?_
          rintro e w3 ⟨rfl, n3, rfl⟩
          rw [HQ.out, HE.out, HTT.out, show ((2 : Int) == 2) = true from rfl]
          go_wp2_with fail
          refine (aliveF _).mono ?_
          rintro e w7 ⟨rfl, hc7⟩
          go_wp2_with fail
          go_ret
          exact ⟨rfl, (hcr.drewN n3).trans hc7⟩
    · obtain ⟨hf1, hf2⟩ := hfew
      have HI := hid hI; clear hI
      have hfl' : fail < 0 ∨ (0 ≤ fail ∧ t.size < fail) := by omega
      clear hfl hln
      rcases hfl' with hl1 | ⟨hl1, hl2⟩
      all_goals
        go_enter Try.func6, Try.ntmps6
        go_wp2_with fail
        refine (new_any _ t A n c ps (-1) w (by omega) HI.out hn).mono ?_
        rintro e w1 ⟨a, rfl, ha1, ha2, hfa, hc1⟩
        go_wp2_with fail
        refine (new_any _ t A n c ps fail w1 (by omega) (HI.out.chg hc1 (fun _ _ _ h => h)) hn).mono ?_
        rintro e w2 ⟨b, rfl, hb1, hb2, hfb, hc2⟩
        go_wp2_with (first | (go_at_call 16; refine (fewF_yes t A n c _ hf1 hf2).mono ?_; rintro e w3 ⟨rfl, rfl⟩) | (go_at_call 17; refine (aliveF _).mono ?_; rintro e w3 ⟨rfl, hc3⟩))
        go_ret
        exact ⟨rfl, (hc1.trans hc2).trans hc3⟩
  · have HF := hid hfew; clear hfew
    have HI := hid hI; clear hI
    clear hln
    go_enter Try.func6, Try.ntmps6
    go_wp2_with fail
    refine (new_any _ t A n c ps (-1) w (by omega) HI.out hn).mono ?_
    rintro e w1 ⟨a, rfl, ha1, ha2, hfa, hc1⟩
    go_wp2_with fail
    refine (new_any _ t A n c ps fail w1 (by omega) (HI.out.chg hc1 (fun _ _ _ h => h)) hn).mono ?_
    rintro e w2 ⟨b, rfl, hb1, hb2, hfb, hc2⟩
    go_wp2_with (first | (go_at_call 16; refine (fewF_no t A n c _ HF.out).mono ?_; rintro e w3 ⟨rfl, rfl⟩) | (go_at_call 17; refine (aliveF _).mono ?_; rintro e w3 ⟨rfl, hc3⟩))
    go_ret
    exact ⟨rfl, (hc1.trans hc2).trans hc3⟩
end Go.Proofs.Ytaniaeibaklbgaa
