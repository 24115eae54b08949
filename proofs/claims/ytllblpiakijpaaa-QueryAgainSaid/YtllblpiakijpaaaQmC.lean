/- Layer 14: the laws QueryPrints, QueryAgain. -/
import Derived.Test.YtllblpiakijpaaaQmB
import Derived.Test.YtllblpiakijpaaaBunL
namespace Go.Proofs.Ytllblpiakijpaaa
open Go.RowKit
set_option linter.unusedVariables false
attribute [local go_sem ↓] Go.wp_at_zero Go.wp_at_succ
set_option maxHeartbeats 16000000 in
set_option maxRecDepth 100000 in
theorem QueryPrints_walk (A : Option Addr) (n c : Nat) (ps : List NP) (w : World) (H : NRow (fun k => k < w.heap.size) w A n c ps) (hl : ∀ p ∈ ps, p.l * 32 ≤ 140737488351232) (hb : n * 48 ≤ 140737488351232) :
    Calls Try.prog 6 #[.slice A n c] w fun e w' => e = .returned (.bool true) ∧ Chg Nothing w w' := by
  have hF := hid (few_any _ A n c ps w H hl hb)
  have HH := hid H
  clear H hl
  obtain ⟨fb, hfb⟩ : ∃ fb, fb = fewB n ps := ⟨_, rfl⟩
  rw [← hfb] at hF
  cases fb with
  | false =>
    replace hfb := hid hfb
    go_enter Try.func6, Try.ntmps6
    go_wp2_with fail
    refine (hF.out).mono ?_
    rintro e w1 ⟨rfl, hc1⟩
    go_wp2_with fail
    refine (alive14 _).mono ?_
    rintro e w2 ⟨rfl, hc2⟩
    go_wp2
    go_ret
    exact ⟨rfl, hc1.trans hc2⟩
  | true =>
    have hn := fewB_true hfb.symm
    replace hfb := hid hfb
    cases hr : rightN (ps.map NP.x) with
    | false =>
      have h1 := hid (fun (w' : World) (hc : Chg Nothing w w') => print_no _ A n c ps w' (HH.out.calm hc) (by omega) hr)
      have h2 := hid (fun (w' : World) (hc : Chg Nothing w w') => refPrint14_no _ A n c ps w' (HH.out.calm hc) (by omega) hr)
      replace hr := hid hr
      go_enter Try.func6, Try.ntmps6
      go_wp2_with fail
      refine (hF.out).mono ?_
      rintro e w1 ⟨rfl, hc1⟩
      have hC1 := hid hc1
      clear hc1
      go_wp2_with fail
      refine (h1.out _ hC1.out).mono ?_
      rintro e w2 ⟨rfl, hc⟩
      have hC2 := hid (hC1.out.trans hc)
      clear hc hC1
      go_wp2_with fail
      refine (h2.out _ hC2.out).mono ?_
      rintro e w3 ⟨rfl, hc⟩
      have hC3 := hid (hC2.out.trans hc)
      clear hc hC2
      go_wp2_with fail
      refine (alive14 _).mono ?_
      rintro e w4 ⟨rfl, hc⟩
      go_wp2
      go_ret
      exact ⟨rfl, hC3.out.trans hc⟩
    | true =>
      obtain ⟨t, ht, hps, h64, h16⟩ := rightN_tree hr
      have h1 := hid (fun (w' : World) (hc : Chg Nothing w w') => print_yes _ A n c ps t w' (HH.out.calm hc) (by omega) hr ht hps)
      have h2 := hid (fun (w' : World) (hc : Chg Nothing w w') => refPrint14_yes _ A n c ps t w' (HH.out.calm hc) (by omega) hr ht hps)
      have hsz := text_size t ht
      have hsz2 : t.text.size ≤ 320000000 := by omega
      have hpp := hid (fun (h : t.text.size ≤ 1000) => parse_printed ht h64 h16 h)
      have hpsh := hid hps
      clear hsz hps
      replace hr := hid hr
      replace ht := hid ht
      generalize t.text = u at h1 h2 hsz2 hpp
      go_enter Try.func6, Try.ntmps6
      go_wp2_with fail
      refine (hF.out).mono ?_
      rintro e w1 ⟨rfl, hc1⟩
      have hC1 := hid hc1
      clear hc1
      go_wp2_with fail
      refine (h1.out _ hC1.out).mono ?_
      rintro e w2 ⟨rfl, hc⟩
      have hC2 := hid (hC1.out.trans hc)
      clear hc hC1
      go_wp2_with fail
      refine (h2.out _ hC2.out).mono ?_
      rintro e w3 ⟨rfl, hc⟩
      have hC3 := hid (hC2.out.trans hc)
      clear hc hC2
      by_cases hbig : 1000 < u.size
      · have hbi : decide ((1000 : Int) < (u.size : Int)) = true := decide_eq_true (by omega)
        go_wp2_with fail
        refine (alive14 _).mono ?_
        rintro e w4 ⟨rfl, hc⟩
        go_wp2
        go_ret
        exact ⟨rfl, hC3.out.trans hc⟩
      · have hbi : decide ((1000 : Int) < (u.size : Int)) = false := decide_eq_false (by omega)
        have hP := hid (hpp.out (by omega))
        go_wp2_with fail
        refine (parse_any u _ _ _ hP.out _ (by omega)).mono ?_
        rintro e w4 ⟨B, m, d, qs, rfl, hB, hqs, hc⟩
        have hC4 := hid (hC3.out.trans hc)
        have hB4 := hid hB
        have hqsh := hid hqs
        clear hc hC3 hB hqs
        go_wp2_with fail
        refine (alive14 _).mono ?_
        rintro e w5 ⟨rfl, hc⟩
        have hC5 := hid (hC4.out.trans hc)
        have hB5 := hid (hB4.out.calm hc)
        clear hc hC4 hB4
        have hS := hid (refSame14_any (fun _ => True) _ B m d qs A n c ps w5 hB5.out (HH.out.calm hC5.out))
        rw [(sameN_iff _ _).2 (hqsh.out.trans hpsh.out.symm)] at hS
        go_wp2_with fail
        refine (hS.out).mono ?_
        rintro e w6 ⟨rfl, hc⟩
        go_wp2
        go_ret
        exact ⟨rfl, hC5.out.trans hc⟩
set_option maxHeartbeats 16000000 in
set_option maxRecDepth 100000 in
theorem QueryAgain_walk (s : ByteArray) (w : World) (hs : s.size ≤ 140737488351232) :
    Calls Try.prog 7 #[.string s] w fun e w' => e = .returned (.bool true) ∧ Chg Nothing w w' := by
  by_cases hb : 1100 < s.size
  · have hbi : (1100 : Int) < (s.size : Int) := by omega
    go_enter Try.func7, Try.ntmps7
    go_wp2_with fail
    refine (alive14 _).mono ?_
    rintro e w1 ⟨rfl, hc⟩
    go_wp2
    go_ret
    exact ⟨rfl, hc⟩
  have hbi : decide ((1100 : Int) < (s.size : Int)) = false := decide_eq_false (by omega)
  obtain ⟨L, a, no, hP⟩ := parse_total s
  obtain ⟨-, -, hf⟩ := parseR_facts hP
  have hp1 := hid (parse_any s L a no hP · (by omega))
  clear hP
  replace hb := hid hb
  rcases hf with ⟨rfl, rfl, t, ht, rfl, h64, h16⟩ | ⟨hno, rfl⟩
  · have hr := tree_rightN ht h64 h16
    have hsz := text_size t ht
    have hsz2 : t.text.size ≤ 320000000 := by omega
    have hpp := hid (fun (h : t.text.size ≤ 1000) => parse_printed ht h64 h16 h)
    have hrh := hid hr
    have hth := hid ht
    have hfl : t.flat.length ≤ 64 := h64
    clear hsz hr ht
    obtain ⟨u, hu⟩ : ∃ u, u = t.text := ⟨_, rfl⟩
    rw [← hu] at hsz2 hpp
    have huh := hid hu
    clear hu
    go_enter Try.func7, Try.ntmps7
    go_wp2_with fail
    refine (hp1.out _).mono ?_
    rintro e w1 ⟨A, n, c, ps, rfl, hA, hps, hc1⟩
    have hn : n ≤ 1000000 := by have := congrArg List.length hps; rw [List.length_map, hA.len] at this; omega
    have hA1 := hid hA
    have hC1 := hid hc1
    have hpsh := hid hps
    clear hA hc1 hps
    have h1 := hid (by have := print_yes _ A n c ps t w1 hA1.out hn (by rw [hpsh.out]; exact hrh.out) hth.out hpsh.out; rw [← huh.out] at this; exact this)
    go_wp2_with fail
    refine (h1.out).mono ?_
    rintro e w2 ⟨rfl, hc⟩
    have hA2 := hid (hA1.out.calm hc)
    have hC2 := hid (hC1.out.trans hc)
    clear hc hC1 hA1 h1
    by_cases hbig : 1000 < u.size
    · have hbg : decide ((1000 : Int) < (u.size : Int)) = true := decide_eq_true (by omega)
      go_wp2_with fail
      refine (alive14 _).mono ?_
      rintro e w4 ⟨rfl, hc⟩
      go_wp2
      go_ret
      exact ⟨rfl, hC2.out.trans hc⟩
    · have hbg : decide ((1000 : Int) < (u.size : Int)) = false := decide_eq_false (by omega)
      have hP := hid (hpp.out (by omega))
      go_wp2_with fail
      refine (parse_any u _ _ _ hP.out _ (by omega)).mono ?_
      rintro e w3 ⟨B, m, d, qs, rfl, hB, hqs, hc⟩
      have hm : m ≤ 1000000 := by have := congrArg List.length hqs; rw [List.length_map, hB.len] at this; omega
      have hC3 := hid (hC2.out.trans hc)
      have hA3 := hid (hA2.out.calm hc)
      have hB3 := hid hB
      have hqsh := hid hqs
      clear hc hC2 hB hqs hA2
      have h1 := hid (by have := print_yes _ B m d qs t w3 hB3.out hm (by rw [hqsh.out]; exact hrh.out) hth.out hqsh.out; rw [← huh.out] at this; exact this)
      go_wp2_with fail
      refine (h1.out).mono ?_
      rintro e w4 ⟨rfl, hc⟩
      have hC4 := hid (hC3.out.trans hc)
      have hA4 := hid (hA3.out.calm hc)
      have hB4 := hid (hB3.out.calm hc)
      clear hc hC3 hA3 hB3 h1
      go_wp2_with fail
      refine (alive14 _).mono ?_
      rintro e w5 ⟨rfl, hc⟩
      have hC5 := hid (hC4.out.trans hc)
      have hA5 := hid (hA4.out.calm hc)
      have hB5 := hid (hB4.out.calm hc)
      clear hc hC4 hA4 hB4
      have hS := hid (querySame_any (fun _ => True) (fun _ => True) B m d qs A n c ps w5 hB5.out hA5.out)
      rw [(sameN_iff _ _).2 (hqsh.out.trans hpsh.out.symm)] at hS
      go_wp2_with fail
      refine (hS.out).mono ?_
      rintro e w6 ⟨rfl, hc⟩
      go_wp2
      go_ret
      exact ⟨rfl, hC5.out.trans hc⟩
  · have hno' : (no != 0) = true := bne_iff_ne.2 hno
    go_enter Try.func7, Try.ntmps7
    go_wp2_with fail
    refine (hp1.out _).mono ?_
    rintro e w1 ⟨A, n, c, ps, rfl, hA, hps, hc1⟩
    obtain rfl : n = 0 := by have := congrArg List.length hps; rw [List.length_map, hA.len] at this; exact this
    have hC1 := hid hc1
    clear hA hc1 hps
    go_wp2_with fail
    refine (alive14 _).mono ?_
    rintro e w2 ⟨rfl, hc⟩
    go_wp2
    go_ret
    exact ⟨rfl, hC1.out.trans hc⟩
end Go.Proofs.Ytllblpiakijpaaa
