/- Layer 14: the laws QueryRight, QueryLeaves. -/
import Derived.Test.YtllblpiakijpaaaBunM
import Derived.Test.YtllblpiakijpaaaBunL
namespace Go.Proofs.Ytllblpiakijpaaa
open Go.RowKit
set_option linter.unusedVariables false
attribute [local go_sem ↓] Go.wp_at_zero Go.wp_at_succ
theorem fewB_true {n : Nat} {ps : List NP} (h : fewB n ps = true) : n ≤ 200 := by
  unfold fewB at h
  rw [Bool.and_eq_true] at h
  exact of_decide_eq_true h.1
set_option maxHeartbeats 16000000 in
set_option maxRecDepth 100000 in
theorem QueryRight_walk (A : Option Addr) (n c : Nat) (ps : List NP) (w : World) (H : NRow (fun k => k < w.heap.size) w A n c ps) (hl : ∀ p ∈ ps, p.l * 32 ≤ 140737488351232) (hb : n * 48 ≤ 140737488351232) :
    Calls Try.prog 4 #[.slice A n c] w fun e w' => e = .returned (.bool true) ∧ Chg Nothing w w' := by
  have hF := hid (few_any _ A n c ps w H hl hb)
  have HH := hid H
  clear H hl
  obtain ⟨fb, hfb⟩ : ∃ fb, fb = fewB n ps := ⟨_, rfl⟩
  rw [← hfb] at hF
  cases fb with
  | false =>
    replace hfb := hid hfb
    go_enter Try.func4, Try.ntmps4
    go_wp2_with fail
    refine (hF.out).mono ?_
    rintro e w1 ⟨rfl, hc1⟩
    go_wp2_with fail
    refine (alive14 _).mono ?_
    rintro e w2 ⟨rfl, hc2⟩
    go_wp2
    go_ret
    exact ⟨rfl, hc1.trans hc2⟩
  | true =>
    have hn := fewB_true hfb.symm
    replace hfb := hid hfb
    have h1 := hid (fun (w' : World) (hc : Chg Nothing w w') => Right_any _ A n c ps w' (HH.out.calm hc) (by omega))
    have h2 := hid (fun (w' : World) (hc : Chg Nothing w w') => refRight_any _ A n c ps w' (HH.out.calm hc) (by omega))
    have h3 := hid (fun (w' : World) (hc : Chg Nothing w w') => Depth_any _ A n c ps w' (HH.out.calm hc) (by omega))
    have h4 := hid (fun (w' : World) (hc : Chg Nothing w w') => refDepth_any _ A n c ps w' (HH.out.calm hc) (by omega))
    generalize rightN (ps.map NP.x) = rr at h1 h2
    generalize depthN (ps.map NP.x) = dd at h3 h4
    go_enter Try.func4, Try.ntmps4
    go_wp2_with fail
    refine (hF.out).mono ?_
    rintro e w1 ⟨rfl, hc1⟩
    have hC1 := hid hc1
    clear hc1
    go_wp2_with fail
    refine (alive14 _).mono ?_
    rintro e w2 ⟨rfl, hc2⟩
    have hC2 := hid (hC1.out.trans hc2)
    clear hc2
    go_wp2_with fail
    refine (h1.out _ hC2.out).mono ?_
    rintro e w3 ⟨rfl, hc3⟩
    have hC3 := hid (hC2.out.trans hc3)
    clear hc3
    go_wp2_with fail
    refine (h2.out _ hC3.out).mono ?_
    rintro e w4 ⟨rfl, hc4⟩
    have hC4 := hid (hC3.out.trans hc4)
    clear hc4
    go_wp2_with fail
    refine (h3.out _ hC4.out).mono ?_
    rintro e w5 ⟨rfl, hc5⟩
    have hC5 := hid (hC4.out.trans hc5)
    clear hc5
    go_wp2_with fail
    refine (h4.out _ hC5.out).mono ?_
    rintro e w6 ⟨rfl, hc6⟩
    have hC6 := hid (hC5.out.trans hc6)
    clear hc6
    go_wp2
    go_ret
    exact ⟨rfl, hC6.out⟩
set_option maxHeartbeats 16000000 in
set_option maxRecDepth 100000 in
theorem QueryLeaves_walk (A : Option Addr) (n c : Nat) (ps : List NP) (B : Option Addr) (m d : Nat) (qs : List NP) (w : World) (H : NRow (fun k => k < w.heap.size) w A n c ps) (hl : ∀ p ∈ ps, p.l * 32 ≤ 140737488351232) (hb : n * 48 ≤ 140737488351232)
    (H2 : NRow (fun k => k < w.heap.size) w B m d qs) (hl2 : ∀ p ∈ qs, p.l * 32 ≤ 140737488351232) (hb2 : m * 48 ≤ 140737488351232) :
    Calls Try.prog 5 #[.slice A n c, .slice B m d] w fun e w' => e = .returned (.bool true) ∧ Chg Nothing w w' := by
  have hF := hid (few_any _ A n c ps w H hl hb)
  have hG := hid (fun (w' : World) (hc : Chg Nothing w w') => few_any _ B m d qs w' (H2.calm hc) hl2 hb2)
  have HH := hid H
  have HH2 := hid H2
  clear H hl H2 hl2
  obtain ⟨fb, hfb⟩ : ∃ fb, fb = fewB n ps := ⟨_, rfl⟩
  obtain ⟨gb, hgb⟩ : ∃ gb, gb = fewB m qs := ⟨_, rfl⟩
  rw [← hfb] at hF
  rw [← hgb] at hG
  cases fb with
  | false =>
    replace hfb := hid hfb
    replace hgb := hid hgb
    go_enter Try.func5, Try.ntmps5
    go_wp2_with fail
    refine (hF.out).mono ?_
    rintro e w1 ⟨rfl, hc1⟩
    go_wp2_with fail
    refine (alive14 _).mono ?_
    rintro e w2 ⟨rfl, hc2⟩
    go_wp2
    go_ret
    exact ⟨rfl, hc1.trans hc2⟩
  | true =>
    have hn := fewB_true hfb.symm
    replace hfb := hid hfb
    cases gb with
    | false =>
      replace hgb := hid hgb
      go_enter Try.func5, Try.ntmps5
      go_wp2_with fail
      refine (hF.out).mono ?_
      rintro e w1 ⟨rfl, hc1⟩
      have hC1 := hid hc1
      clear hc1
      go_wp2_with fail
      refine (hG.out _ hC1.out).mono ?_
      rintro e w2 ⟨rfl, hc2⟩
      have hC2 := hid (hC1.out.trans hc2)
      clear hc2
      go_wp2_with fail
      refine (alive14 _).mono ?_
      rintro e w3 ⟨rfl, hc3⟩
      go_wp2
      go_ret
      exact ⟨rfl, hC2.out.trans hc3⟩
    | true =>
      have hm := fewB_true hgb.symm
      replace hgb := hid hgb
      have h1 := hid (fun (w' : World) (hc : Chg Nothing w w') => leaves_any _ A n c ps w' (HH.out.calm hc) (by omega))
      have h2 := hid (fun (w' : World) (hc : Chg Nothing w w') => refLeaves_any _ A n c ps w' (HH.out.calm hc) (by omega))
      have h3 := hid (fun (w' : World) (hc : Chg Nothing w w') => longest_any _ A n c ps w' (HH.out.calm hc) (by omega))
      have h4 := hid (fun (w' : World) (hc : Chg Nothing w w') => refLongest_any _ A n c ps w' (HH.out.calm hc) (by omega))
      have h5 := hid (fun (w' : World) (hc : Chg Nothing w w') => querySame_any _ _ A n c ps B m d qs w' (HH.out.calm hc) (HH2.out.calm hc))
      have h6 := hid (fun (w' : World) (hc : Chg Nothing w w') => refSame14_any _ _ A n c ps B m d qs w' (HH.out.calm hc) (HH2.out.calm hc))
      have h7 := hid (fun (w' : World) (hc : Chg Nothing w w') => by have := querySame_any _ _ A n c ps A n c ps w' (HH.out.calm hc) (HH.out.calm hc); rw [(sameN_iff _ _).2 rfl] at this; exact this)
      generalize longL (leavesP ps) = lg at h3 h4
      generalize sameN (ps.map NP.x) (qs.map NP.x) = sm at h5 h6
      go_enter Try.func5, Try.ntmps5
      go_wp2_with fail
      refine (hF.out).mono ?_
      rintro e w1 ⟨rfl, hc1⟩
      have hC1 := hid hc1
      clear hc1
      go_wp2_with fail
      refine (hG.out _ hC1.out).mono ?_
      rintro e w2 ⟨rfl, hc2⟩
      have hC2 := hid (hC1.out.trans hc2)
      clear hc2 hC1
      go_wp2_with fail
      refine (h1.out _ hC2.out).mono ?_
      rintro e w3 ⟨A3, j, c3, rfl, hL, -, hc3⟩
      have hC3 := hid (hC2.out.trans hc3)
      have hL3 := hid hL
      clear hc3 hC2 hL
      go_wp2_with fail
      refine (h2.out _ hC3.out).mono ?_
      rintro e w4 ⟨A4, j4, c4, rfl, hL, -, hc4⟩
      obtain rfl : j = j4 := by rw [← hL.len, ← hL3.out.len]
      have hC4 := hid (hC3.out.trans hc4)
      have hL4 := hid hL
      have hL34 := hid (hL3.out.calm hc4)
      have hle3 := hL3.out.row.le
      have hmx3 := hL3.out.row.max
      have hle4 := hL.row.le
      have hmx4 := hL.row.max
      clear hc4 hC3 hL hL3
      go_wp2_with fail
      go_loopw [28] (fun iv wr => ∃ k : Nat, k ≤ j ∧ iv = .int .i64 k ∧ Chg Nothing w4 wr) (fun iv _ => j - (intOf iv).toNat)
      case atStart => exact ⟨0, Nat.zero_le _, rfl, Chg.refl _ _⟩
      case round =>
        obtain ⟨k, hk, rfl, hchg⟩ := hrel
        rcases Nat.lt_or_ge k j with hkj | hkj
        · obtain ⟨g, o, q, rfl, -, hgl, hq, -, hqr, c0, c1⟩ := (hL34.out.calm hchg).two hkj
          obtain ⟨g2, o2, q2, rfl, -, hgl2, hq2, -, hqr2, d0, d1⟩ := (hL4.out.calm hchg).two hkj
          obtain rfl : q2 = q := by rw [hq, hq2]
          have hcl := hid (fun (n : Calm wr) => by
            have := refLeafSame_any _ _ q2.A q2.l q2.c q2.p q2.K q2.A q2.l q2.c q2.p q2.K n.val (hqr.chg n.chg (fun _ _ _ h => h)).row hqr.len (hqr2.chg n.chg (fun _ _ _ h => h)).row hqr2.len
            rw [show leafEq q2.p q2.K q2.p q2.K = true from by unfold leafEq; rw [decide_eq_true rfl, decide_eq_true rfl]; rfl] at this
            exact this)
          have u0 := Calm.cell hgl c0
          have u1 := Calm.cell hgl c1
          have v0 := Calm.cell hgl2 d0
          have v1 := Calm.cell hgl2 d1
          have hk0 : (0 : Int) ≤ (k : Int) := by omega
          have hkj' : (k : Int) < (j : Int) := by omega
          clear hq hq2 hqr hqr2 c0 c1 d0 d1 hgl hgl2
          go_wp2_with fail
          try simp only [List.append_eq, List.cons_append, List.nil_append]
          refine wp_region_calm_lit (by kernel_rfl) (by kernel_rfl) ?_
          repeat (go_big_quiet_step (((go_at_call 21; exact calm_of (hcl.out _)))))
          refine wpQuiet_nil ?_
          intro _ hw'
          obtain ⟨nq, hw''⟩ := hw'
          subst hw''
          go_wp2
          go_roundw
          case rel => exact ⟨k + 1, hkj, by go_num, hchg.trans nq.chg⟩
          case measure => simp [intOf]; omega
        · obtain rfl : k = j := by omega
          have hd : decide ((k : Int) < (k : Int)) = false := decide_eq_false (by omega)
          have hC5 := hid (hC4.out.trans hchg)
          clear hchg hL34 hL4
          go_wp2_with fail
          refine (alive14 _).mono ?_
          rintro e w5 ⟨rfl, hc5⟩
          have hC6 := hid (hC5.out.trans hc5)
          clear hc5 hC5
          go_wp2_with fail
          refine (h3.out _ hC6.out).mono ?_
          rintro e w6 ⟨rfl, hc⟩
          have hC7 := hid (hC6.out.trans hc)
          clear hc hC6
          go_wp2_with fail
          refine (h4.out _ hC7.out).mono ?_
          rintro e w7 ⟨rfl, hc⟩
          have hC8 := hid (hC7.out.trans hc)
          clear hc hC7
          go_wp2_with fail
          refine (h5.out _ hC8.out).mono ?_
          rintro e w8 ⟨rfl, hc⟩
          have hC9 := hid (hC8.out.trans hc)
          clear hc hC8
          go_wp2_with fail
          refine (h6.out _ hC9.out).mono ?_
          rintro e w9 ⟨rfl, hc⟩
          have hC10 := hid (hC9.out.trans hc)
          clear hc hC9
          go_wp2_with fail
          refine (h7.out _ hC10.out).mono ?_
          rintro e w10 ⟨rfl, hc⟩
          go_wp2
          go_ret
          exact ⟨rfl, hC10.out.trans hc⟩
end Go.Proofs.Ytllblpiakijpaaa
