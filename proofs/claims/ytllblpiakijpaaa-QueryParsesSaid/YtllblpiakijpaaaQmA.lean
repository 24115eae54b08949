/- Layer 14: the law QueryParses. -/
import Derived.Test.YtllblpiakijpaaaBunM
import Derived.Test.YtllblpiakijpaaaBunL
namespace Go.Proofs.Ytllblpiakijpaaa
open Go.RowKit
set_option linter.unusedVariables false
set_option maxHeartbeats 16000000 in
set_option maxRecDepth 100000 in
theorem QueryParses_walk (s : ByteArray) (w : World) (hs : s.size ≤ 140737488351232) :
    Calls Try.prog 3 #[.string s] w fun e w' => e = .returned (.bool true) ∧ Chg Nothing w w' := by
  by_cases hb : 1100 < s.size
  · have hbi : (1100 : Int) < (s.size : Int) := by omega
    go_enter Try.func3, Try.ntmps3
    go_wp2_with fail
    refine (alive14 _).mono ?_
    rintro e w1 ⟨rfl, hc⟩
    go_wp2
    go_ret
    exact ⟨rfl, hc⟩
  · have hbi : decide ((1100 : Int) < (s.size : Int)) = false := decide_eq_false (by omega)
    obtain ⟨L, a, no, hP⟩ := parse_total s
    obtain ⟨h0, h1, hf⟩ := parseR_facts hP
    have hLl : L.length ≤ 64 := by
      rcases hf with ⟨-, -, t, -, rfl, hl, -⟩ | ⟨-, rfl⟩
      · exact hl
      · decide
    clear hf
    have hr := parseR_right hP
    have hp1 := hid (parse_any s L a no hP · (by omega))
    have hp2 := hid (refParse_any s L a no hP · (by omega))
    clear hP
    have hsz : (s.size : Int) ≤ 1100 := by omega
    replace hb := hid hb
    go_enter Try.func3, Try.ntmps3
    go_wp2_with fail
    refine (hp1.out _).mono ?_
    rintro e w1 ⟨A, n, c, ps, rfl, hA, hps, hc1⟩
    have hA1 := hid hA
    have hC1 := hid hc1
    clear hA hc1
    go_wp2_with fail
    refine (hp2.out _).mono ?_
    rintro e w2 ⟨B, m, d, qs, rfl, hB, hqs, hc2⟩
    have hA2 := hid (hA1.out.calm hc2)
    have hC2 := hid (hC1.out.trans hc2)
    have hB2 := hid hB
    clear hB hc2 hA1 hC1
    go_wp2_with fail
    refine (alive14 _).mono ?_
    rintro e w3 ⟨rfl, hc3⟩
    have hA3 := hid (hA2.out.calm hc3)
    have hB3 := hid (hB2.out.calm hc3)
    have hC3 := hid (hC2.out.trans hc3)
    clear hc3 hA2 hB2 hC2
    have hS := hid (refSame14_any (fun _ => True) (fun _ => True) A n c ps B m d qs w3 hA3.out hB3.out)
    rw [(sameN_iff _ _).2 (hps.trans hqs.symm)] at hS
    have hR := hid (fun (w' : World) (hc : Chg Nothing w3 w') (hn : n ≤ 1000000) => by have := Right_any (fun _ => True) A n c ps w' (hA3.out.calm hc) hn; rw [hps, hr] at this; exact this)
    have hn : n ≤ 1000000 := by
      have h2 := congrArg List.length hps
      rw [List.length_map, hA3.out.len] at h2
      omega
    clear hps hqs hr
    go_wp2_with fail
    refine (hS.out).mono ?_
    rintro e w4 ⟨rfl, hc4⟩
    have hC4 := hid (hC3.out.trans hc4)
    have hR4 := hid (hR.out _ hc4 hn)
    clear hc4 hS
    by_cases hno : no = 0
    · subst hno
      go_wp2_with fail
      refine (hR4.out).mono ?_
      rintro e w5 ⟨rfl, hc5⟩
      go_wp2
      go_ret
      exact ⟨rfl, hC4.out.trans hc5⟩
    · have hq : (no == 0) = false := beq_eq_false_iff_ne.2 hno
      rw [decide_eq_false hno] at hR4
      replace hno := hid hno
      go_wp2_with fail
      refine (hR4.out).mono ?_
      rintro e w5 ⟨rfl, hc5⟩
      go_wp2
      go_ret
      exact ⟨rfl, hC4.out.trans hc5⟩
end Go.Proofs.Ytllblpiakijpaaa
