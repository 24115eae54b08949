import Derived.Test.YtaniaeibaklbgaaFeedF
namespace Go.Proofs.Ytaniaeibaklbgaa
open Go.RowKit
set_option linter.unusedVariables false

def FPInv (w : World) (b : Nat) (F : Nat → Prop) (t : ByteArray) (ps : List Int) (A : Option Addr) (n c : Nat) (i : Value) (wr : World) : Prop :=
  ∃ k f, k ≤ n ∧ i = .int .i64 (k : Nat) ∧ Fd.good f ∧ Hid (f.t = t) ∧ Hid (f.q = t.size) ∧ Hid (f.e = 1) ∧ Hid (f.ps = ps.drop k) ∧ FeedAt F wr b f ∧ Chg Nothing w wr

set_option maxHeartbeats 4000000 in
theorem FeedPieces_walk (t : ByteArray) (A : Option Addr) (n c : Nat) (ps : List Int) (w : World) (ht : t.size ≤ 140737488351232) (hI : IntsAt (fun k => k < w.heap.size) w A n c ps) (hn : n * 8 ≤ 140737488351232) (_hps : ∀ x ∈ ps, -9223372036854775808 ≤ x ∧ x ≤ 9223372036854775807) :
    Calls Try.prog 7 #[.string t, .slice A n c] w fun e w' => e = .returned (.bool true) ∧ Chg Nothing w w' := by
  have hln := hI.2.2.2.1
  by_cases hfew : (t.size : Int) ≤ 500 ∧ (n : Int) ≤ 500
  · obtain ⟨hf1, hf2⟩ := hfew
    have HI := hid hI; clear hI
    have HLN := hid hln; clear hln
    go_enter Try.func7, Try.ntmps7
    go_wp2_with fail
    refine (new_any _ t A n c ps (-1) w (by omega) HI.out hn).mono ?_
    rintro e w1 ⟨b, rfl, hb1, hb2, hfd, hc1⟩
    have h500 : n ≤ 500 := by omega
    have h501 : t.size ≤ 500 := by omega
    clear hf2
    rw [new_ends (by omega)] at hfd
    go_wp2_with (go_at_call 16; refine (fewF_yes t A n c _ hf1 (by omega)).mono ?_; rintro e w2 ⟨rfl, rfl⟩)
    clear hf1
    go_loopw [29] (fun i wr => FPInv w b (fun k => w.heap.size ≤ k ∧ k < b) t ps A n c i wr) (fun i _ => n - (intOf i).toNat)
    case atStart => exact ⟨0, ⟨t, ps, 0, t.size, 1⟩, Nat.zero_le _, rfl, ⟨⟨Nat.zero_le _, Nat.le_refl _, by simp only; omega⟩, .inl rfl⟩, hid rfl, hid rfl, hid rfl, hid rfl, hfd, hc1⟩
    case round =>
      obtain ⟨k, f, hk, rfl, hgood, hT, hQ, hE, hP, hfd', hcr⟩ := hrel
      have hG := hid hgood
      have hbb := hfd'.lt
      have hq1 := hgood.ok.1
      have hq2 := hgood.ok.2.1
      clear hgood
      by_cases hlt : k < n
      · obtain ⟨g, o, rfl, _, _, hcl⟩ := (HI.out.chg hcr (fun _ _ _ h => h)).at_ hlt
        have hdr := drop_cons (d := (0 : Int)) (xs := ps) (k := k) (by rw [HLN.out]; exact hlt)
        have hpsk := hid (hP.out.trans hdr); clear hdr
        generalize hx : ps.getD k 0 = x at *
        clear hx
        by_cases hpq : f.p = f.q
        · have hgv := hid (show (f.p : Int) = t.size from by rw [hpq, hQ.out])
          have HPQ := hid hpq; clear hpq
          go_wp2_with fail
          refine (given_any _ b f wr hfd').mono ?_
          rintro e w3 ⟨rfl, n3, rfl⟩
          rw [hgv.out]
          have hfd3 := hfd'.chg (S := Nothing) (Chg.drewN (Chg.refl _ _) n3) id (fun _ _ _ h => h)
          go_wp2_with fail
          refine (read_last _ b _ _ hfd3 HPQ.out).mono ?_
          rintro e w4 ⟨rfl, hfd4, hc4⟩
          rw [hE.out]
          go_wp2_with fail
          refine (aliveF _).mono ?_
          rintro e w5 ⟨rfl, hc5⟩
          go_wp2_with fail
          go_ret
          exact ⟨rfl, ((hcr.drewN n3).trans hc4).trans hc5⟩
        · have hnn := Fd.n_le f hG.out.ok
          have hgs : (f.got.size : Int) = max 0 (min ((t.size : Int) - f.p) x) := by
            unfold Fd.got
            rw [if_neg hpq]
            have h1 : f.n = (max 0 (min ((f.q : Int) - f.p) x)).toNat := by unfold Fd.n; rw [hpsk.out]
            have h2 := hQ.out
            have h3 := hT.out
            simp; rw [h3]; omega
          have hnp : (f.next.p : Int) = f.p + f.got.size := by
            have h2 := hQ.out
            have h1 : f.n = (max 0 (min ((f.q : Int) - f.p) x)).toNat := by unfold Fd.n; rw [hpsk.out]
            unfold Fd.next
            rw [if_neg hpq]
            simp only; omega
          have htl : f.tells = 0 := by unfold Fd.tells; rw [if_neg hpq]
          have hnps : f.next.ps = ps.drop (k + 1) := by unfold Fd.next; rw [if_neg hpq]; simp only; rw [hpsk.out]; rfl
          have hpt : f.p < t.size := by have := hQ.out; omega
          have hG' := f.next_good hG.out
          have hT' := hid ((Fd.next_t f).trans hT.out)
          have hQ' := hid ((Fd.next_q f).trans hQ.out)
          have hE' := hid ((Fd.next_e f).trans hE.out)
          have HG' := hid hG'; clear hG'
          have HPQ := hid hpq; clear hpq
          have HTL := hid htl; clear htl
          have HNP := hid hnp; clear hnp
          have HNPS := hid hnps; clear hnps
          clear hnn
          generalize hgot : f.got = G at *
          have HGOT := hid hgot; clear hgot
          have hGle : G.size ≤ t.size := by omega
          have hxx : x ≤ 0 ∨ (0 < x ∧ x < (t.size : Int) - f.p) ∨ (t.size : Int) - f.p ≤ x := by omega
          have hfin : ∀ W, FeedAt (fun k => w.heap.size ≤ k ∧ k < b) W b f.next → Chg Nothing w W → FPInv w b (fun k => w.heap.size ≤ k ∧ k < b) t ps (some ⟨g, o, none⟩) n c (.int .i64 ((k : Int) + 1)) W :=
            fun W h1 h2 => ⟨k + 1, f.next, by omega, by go_num, HG'.out, hT', hQ', hE', HNPS, h1, h2⟩
          have HFIN := hid hfin; clear hfin
          have hGG : ((G.size : Int) = 0 ∧ x ≤ 0) ∨ ((G.size : Int) = x ∧ 0 < x ∧ x < (t.size : Int) - f.p) ∨ ((G.size : Int) = (t.size : Int) - f.p ∧ (t.size : Int) - f.p ≤ x) := by omega
          clear hgs hxx
          rcases hGG with ⟨hgz, hxx⟩ | ⟨hgz, hxx, hxy⟩ | ⟨hgz, hxx⟩
          all_goals
            have HGZ := hid hgz; clear hgz
            go_wp2_with fail
            refine (given_any _ b f wr hfd').mono ?_
            rintro e w3 ⟨rfl, n3, rfl⟩
            have hfd3 := hfd'.chg (S := Nothing) (Chg.drewN (Chg.refl _ _) n3) id (fun _ _ _ h => h)
            go_wp2_with fail
            refine (read_any _ b _ _ hfd3).mono ?_
            rintro e w4 ⟨rfl, hfd4, hc4⟩
            rw [HGOT.out, HTL.out]
            have hcr4 := (hcr.drewN n3).then hc4 (fun k hk e => by unfold One at e; omega)
            have hgz := HGZ.out
            go_wp2_with fail
            all_goals
              refine (given_any _ b _ _ hfd4).mono ?_
              rintro e w5 ⟨rfl, n5, rfl⟩
              rw [HNP.out]
              go_wp2_with fail
              all_goals
                go_roundw
                case rel => exact HFIN.out _ (hfd4.chg (S := Nothing) (Chg.drewN (Chg.refl _ _) n5) id (fun _ _ _ h => h)) (hcr4.drewN n5)
                case measure => simp [intOf]; omega
      · go_wp2_with fail
        refine (aliveF _).mono ?_
        rintro e w5 ⟨rfl, hc5⟩
        go_wp2_with fail
        go_ret
        exact ⟨rfl, hcr.trans hc5⟩
  · have HF := hid hfew; clear hfew
    have HI := hid hI; clear hI
    go_enter Try.func7, Try.ntmps7
    go_wp2_with fail
    refine (new_any _ t A n c ps (-1) w (by omega) HI.out hn).mono ?_
    rintro e w1 ⟨b, rfl, hb1, hb2, hfd, hc1⟩
    go_wp2_with (first | (go_at_call 16; refine (fewF_no t A n c _ HF.out).mono ?_; rintro e w2 ⟨rfl, rfl⟩) | (go_at_call 17; refine (aliveF _).mono ?_; rintro e w2 ⟨rfl, hc2⟩))
    go_ret
    exact ⟨rfl, hc1.trans hc2⟩
end Go.Proofs.Ytaniaeibaklbgaa
