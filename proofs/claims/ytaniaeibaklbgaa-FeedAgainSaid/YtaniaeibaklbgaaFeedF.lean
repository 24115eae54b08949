import Derived.Test.YtaniaeibaklbgaaFeedD
namespace Go.Proofs.Ytaniaeibaklbgaa
open Go.RowKit

theorem Fd.new_p (t : ByteArray) (ps : List Int) (fail : Int) : (Fd.new t ps fail).p = 0 := by unfold Fd.new; split <;> rfl
theorem Fd.new_t (t : ByteArray) (ps : List Int) (fail : Int) : (Fd.new t ps fail).t = t := by unfold Fd.new; split <;> rfl
theorem Fd.new_ps (t : ByteArray) (ps : List Int) (fail : Int) : (Fd.new t ps fail).ps = ps := by unfold Fd.new; split <;> rfl
/-- How a feed goes on: k reads of it. -/
def Fd.after (f : Fd) : Nat → Fd | 0 => f | k + 1 => (Fd.after f k).next
theorem Fd.after_good (f : Fd) (h : f.good) (k : Nat) : (f.after k).good := by
  induction k with
  | zero => exact h
  | succ k ih => exact Fd.next_good _ ih
theorem Fd.after_t (f : Fd) (k : Nat) : (f.after k).t = f.t := by
  induction k with
  | zero => rfl
  | succ k ih => exact (Fd.next_t _).trans ih
theorem Fd.after_q (f : Fd) (k : Nat) : (f.after k).q = f.q := by
  induction k with
  | zero => rfl
  | succ k ih => exact (Fd.next_q _).trans ih
theorem Fd.after_e (f : Fd) (k : Nat) : (f.after k).e = f.e := by
  induction k with
  | zero => rfl
  | succ k ih => exact (Fd.next_e _).trans ih
theorem Fd.ended (f : Fd) (h : f.ok) (L k : Nat) (hk : f.p = f.q ∨ f.ps.length + k = L) : f.next.p = f.next.q ∨ f.next.ps.length + (k + 1) = L := by
  unfold Fd.next
  split
  · left; assumption
  · rcases hk with hk | hk
    · contradiction
    · cases hps : f.ps with
      | nil =>
        left
        obtain ⟨h1, h2, h3⟩ := h
        simp only [Fd.n, hps]; omega
      | cons x xs =>
        right
        rw [hps] at hk
        simp only [List.length_cons, List.tail_cons] at hk ⊢
        omega
theorem Fd.after_ended (f : Fd) (h : f.good) (k : Nat) : (f.after k).p = (f.after k).q ∨ (f.after k).ps.length + k = f.ps.length := by
  induction k with
  | zero => right; rfl
  | succ k ih => exact Fd.ended _ (f.after_good h k).ok _ _ ih
theorem Fd.after_end (f : Fd) (h : f.good) (k : Nat) (hk : f.ps.length < k) : (f.after k).p = f.q := by
  rcases f.after_ended h k with e | e
  · rw [e, Fd.after_q]
  · omega
/-- What is read, put together. -/
theorem Fd.got_next (f : Fd) (h : f.ok) : f.t.extract 0 f.p ++ f.got = f.t.extract 0 f.next.p := by
  have hn := Fd.n_le f h
  obtain ⟨h1, h2, h3⟩ := h
  unfold Fd.got Fd.next
  split
  · show f.t.extract 0 f.p ++ ByteArray.empty = _
    simp
  · rw [ByteArray.extract_append_extract]
    congr 1 <;> (simp only; omega)
theorem Fd.got_size (f : Fd) (h : f.ok) : f.got.size ≤ f.t.size := by
  have hn := Fd.n_le f h
  obtain ⟨h1, h2, h3⟩ := h
  unfold Fd.got
  split
  · exact Nat.zero_le _
  · simp; omega

def FWInv (w : World) (b : Nat) (F : Nat → Prop) (f0 : Fd) (N : Nat) (s i : Value) (wr : World) : Prop :=
  ∃ k S, k ≤ N ∧ i = .int .i64 (k : Nat) ∧ s = .string S ∧ S.size ≤ f0.t.size ∧ Hid (S = f0.t.extract 0 (f0.after k).p) ∧ FeedAt F wr b (f0.after k) ∧ Chg Nothing w wr

theorem read_last (F : Nat → Prop) (b : Nat) (f : Fd) (w : World) (h : FeedAt F w b f) (hpq : f.p = f.q) :
    Calls Try.prog 19 #[.pointer (some ⟨b, 0, none⟩)] w fun e' w' => e' = .returned (.tuple #[.string ⟨#[]⟩, .int .i64 f.e]) ∧ FeedAt F w' b f ∧ Chg Nothing w w' :=
  (read_end F b f w h hpq).mono fun _ _ ⟨h1, h2⟩ => ⟨h1, h.chg h2 id (fun _ _ _ h => h), h2⟩

set_option maxHeartbeats 2000000 in
theorem FeedWhole_walk (t : ByteArray) (A : Option Addr) (n c : Nat) (ps : List Int) (fail : Int) (w : World) (ht : t.size ≤ 140737488351232) (hI : IntsAt (fun k => k < w.heap.size) w A n c ps) (hn : n * 8 ≤ 140737488351232) (_hps : ∀ x ∈ ps, -9223372036854775808 ≤ x ∧ x ≤ 9223372036854775807) (_hf1 : -9223372036854775808 ≤ fail) (_hf2 : fail ≤ 9223372036854775807) :
    Calls Try.prog 4 #[.string t, .slice A n c, .int .i64 fail] w fun e w' => e = .returned (.bool true) ∧ Chg Nothing w w' := by
  have hln := hI.2.2.2.1
  by_cases hfew : (t.size : Int) ≤ 500 ∧ (n : Int) ≤ 500
  · obtain ⟨hf1, hf2⟩ := hfew
    have HI := hid hI; clear hI
    have HLN := hid hln; clear hln
    go_enter Try.func4, Try.ntmps4
    go_wp2_with fail
    refine (new_any _ t A n c ps fail w (by omega) HI.out hn).mono ?_
    rintro e w1 ⟨b, rfl, hb1, hb2, hfd, hc1⟩
    have HG := hid (Fd.new_good t ps fail (by omega))
    have h500 : n ≤ 500 := by omega
    have h501 : t.size ≤ 500 := by omega
    clear hf2
    go_wp2_with (go_at_call 16; refine (fewF_yes t A n c _ hf1 (by omega)).mono ?_; rintro e w2 ⟨rfl, rfl⟩)
    clear hf1
    go_loopw [8, 38] (fun s i wr => FWInv w b (fun k => w.heap.size ≤ k ∧ k < b) (Fd.new t ps fail) (n + 2) s i wr) (fun _ i _ => n + 2 - (intOf i).toNat)
    case atStart => exact ⟨0, ⟨#[]⟩, Nat.zero_le _, rfl, rfl, Nat.zero_le _, by unfold Hid; simp only [Fd.after, Fd.new_p]; simp; rfl, hfd, hc1⟩
    case round =>
      obtain ⟨k, S, hk, rfl, rfl, hSs, HS, hfd', hcr⟩ := hrel
      rw [Fd.new_t] at hSs
      have hgk := Fd.after_good _ HG.out k
      have hbb := hfd'.lt
      by_cases hlt : k < n + 2
      · have hs1 := Fd.got_size _ hgk.ok
        have hgn := hid (Fd.got_next _ hgk.ok)
        rw [Fd.after_t, Fd.new_t] at hs1
        rw [Fd.after_t] at hgn
        have hgk' := hid hgk; clear hgk
        generalize hgot : ((Fd.new t ps fail).after k).got = G at *
        have HGOT := hid hgot; clear hgot
        go_wp2_with fail
        refine (read_any _ b _ wr hfd').mono ?_
        rintro e w3 ⟨rfl, hfd3, hc3⟩
        rw [HGOT.out]
        go_wp2_with fail
        go_roundw
        case rel =>
          refine ⟨k + 1, S ++ G, by omega, by go_num, rfl, ?_, ?_, hfd3, hcr.then hc3 (fun k hk e => by unfold One at e; omega)⟩
          · rw [HS.out, hgn.out, Fd.new_t]; simp; omega
          · unfold Hid; rw [HS.out, hgn.out]; rfl
        case measure => simp [intOf]; omega
      · obtain rfl : k = n + 2 := by omega
        have hend := hid (Fd.after_end _ HG.out (n + 2) (by rw [Fd.new_ps, HLN.out]; omega))
        have hq := Fd.after_q (Fd.new t ps fail) (n + 2)
        have he := Fd.after_e (Fd.new t ps fail) (n + 2)
        have htt := Fd.after_t (Fd.new t ps fail) (n + 2)
        have hSz := hid (show (((Fd.new t ps fail).after (n + 2)).p : Int) = S.size from by
          have hg := (Fd.after_good _ HG.out (n + 2)).ok
          have h1 := hg.1
          have h2 := hg.2.1
          rw [Fd.after_q, Fd.after_t] at h2
          have h3 := hend.out
          rw [HS.out]; simp; omega)
        have hst := hid (show ¬ (0 ≤ fail ∧ fail ≤ t.size) → S = t from fun hx => by
          have e1 : (Fd.new t ps fail).q = t.size := by rw [new_ends hx]
          rw [HS.out, hend.out, e1, Fd.new_t]; simp)
        have hee : (({ data := #[] } : ByteArray) ++ { data := #[] }).toList = [] := by decide +kernel
        have hcase : (0 ≤ fail ∧ fail ≤ t.size) ∨ fail < 0 ∨ (0 ≤ fail ∧ t.size < fail) := by omega
        rcases hcase with ⟨hx1, hx2⟩ | hx1 | ⟨hx1, hx2⟩
        · have e2 : (Fd.new t ps fail).e = 2 := by rw [new_fails hx1 hx2]
          go_wp2_with fail
          refine (whole_any _ b _ wr hfd').mono ?_
          rintro e w3 ⟨rfl, n3, rfl⟩
          rw [hq, he, htt, ← hend.out, ← HS.out, e2, show ((2 : Int) == 2) = true from rfl]
          rw [e2] at he
          have hfd4 := hfd'.chg (S := Nothing) (Chg.drewN (Chg.refl _ _) n3) id (fun _ _ _ h => h)
          have HE := hid he; clear he
          have HQ := hid hq; clear hq htt e2
          go_wp2_with fail
          refine (read_last _ b _ _ hfd4 (hend.out.trans HQ.out.symm)).mono ?_
          rintro e w5 ⟨rfl, hfd5, hc5⟩
          rw [HE.out]
          go_wp2_with fail
          refine (read_last _ b _ _ hfd5 (hend.out.trans HQ.out.symm)).mono ?_
          rintro e w6 ⟨rfl, hfd6, hc6⟩
          rw [HE.out]
          go_wp2_with fail
          refine (aliveF _).mono ?_
          rintro e w7 ⟨rfl, hc7⟩
          have hfd7 := hfd6.chg hc7 id (fun _ _ _ h => h)
          go_wp2_with fail
          refine (given_any _ b _ _ hfd7).mono ?_
          rintro e w8 ⟨rfl, n8, rfl⟩
          rw [hSz.out]
          go_wp2_with fail
          go_ret
          exact ⟨rfl, (((((hcr.drewN n3).trans hc5).trans hc6).trans hc7).drewN n8)⟩
        all_goals
          have e2 : (Fd.new t ps fail).e = 1 := by rw [new_ends (by omega)]
          have hSt := hst.out (by omega)
          subst hSt
          go_wp2_with fail
          refine (whole_any _ b _ wr hfd').mono ?_
          rintro e w3 ⟨rfl, n3, rfl⟩
          rw [hq, he, htt, ← hend.out, ← HS.out, e2, show ((1 : Int) == 2) = false from rfl]
          rw [e2] at he
          have hfd4 := hfd'.chg (S := Nothing) (Chg.drewN (Chg.refl _ _) n3) id (fun _ _ _ h => h)
          have HE := hid he; clear he
          have HQ := hid hq; clear hq htt e2
          go_wp2_with fail
          refine (read_last _ b _ _ hfd4 (hend.out.trans HQ.out.symm)).mono ?_
          rintro e w5 ⟨rfl, hfd5, hc5⟩
          rw [HE.out]
          go_wp2_with fail
          refine (read_last _ b _ _ hfd5 (hend.out.trans HQ.out.symm)).mono ?_
          rintro e w6 ⟨rfl, hfd6, hc6⟩
          rw [HE.out]
          go_wp2_with fail
          refine (aliveF _).mono ?_
          rintro e w7 ⟨rfl, hc7⟩
          have hfd7 := hfd6.chg hc7 id (fun _ _ _ h => h)
          go_wp2_with fail
          refine (given_any _ b _ _ hfd7).mono ?_
          rintro e w8 ⟨rfl, n8, rfl⟩
          rw [hSz.out]
          go_wp2_with fail
          go_ret
          refine ⟨?_, (((((hcr.drewN n3).trans hc5).trans hc6).trans hc7).drewN n8)⟩
          show Ending.returned (.bool _) = _
          first | rfl | (rw [show (!decide (fail ≤ (S.size : Int))) = true from by simp; omega])
  · have HF := hid hfew; clear hfew
    have HI := hid hI; clear hI
    go_enter Try.func4, Try.ntmps4
    go_wp2_with fail
    refine (new_any _ t A n c ps fail w (by omega) HI.out hn).mono ?_
    rintro e w1 ⟨b, rfl, hb1, hb2, hfd, hc1⟩
    go_wp2_with (first | (go_at_call 16; refine (fewF_no t A n c _ HF.out).mono ?_; rintro e w2 ⟨rfl, rfl⟩) | (go_at_call 17; refine (aliveF _).mono ?_; rintro e w2 ⟨rfl, hc2⟩))
    go_ret
    exact ⟨rfl, hc1.trans hc2⟩
end Go.Proofs.Ytaniaeibaklbgaa
