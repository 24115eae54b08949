/- Layer 13: the law TokenHead, but for 'alive', which is asked. -/
import Derived.Test.YtpndjehiacmngaaHeadA
import Derived.Test.YtpndjehiacmngaaLawA
namespace Go.Proofs.Ytpndjehiacmngaa
open Go.RowKit
set_option linter.unusedVariables false
set_option maxHeartbeats 8000000 in
set_option maxRecDepth 100000 in
theorem TokenHead_of (hal : ∀ w, Calls Try.prog 9 #[] w fun e w' => e = .returned (.bool true) ∧ Chg Nothing w w') (s more : ByteArray) (w : World) (hs : s.size ≤ 140737488351232) (hm : more.size ≤ 140737488351232) :
    Calls Try.prog 8 #[.string s, .string more] w fun e w' => e = .returned (.bool true) ∧ Chg Nothing w w' := by
  replace hal := hid hal
  by_cases hbig : 400 < s.size
  · have hbi : (400 : Int) < (s.size : Int) := by omega
    go_enter Try.func8, Try.ntmps8
    go_wp2_with fail
    refine (hal.out _).mono ?_
    rintro e w1 ⟨rfl, hc⟩
    go_wp2
    go_ret
    exact ⟨rfl, hc⟩
  have hbi : ¬ (400 : Int) < (s.size : Int) := by omega
  by_cases hbig2 : 400 < more.size
  · have hbi2 : (400 : Int) < (more.size : Int) := by omega
    go_enter Try.func8, Try.ntmps8
    go_wp2_with fail
    refine (hal.out _).mono ?_
    rintro e w1 ⟨rfl, hc⟩
    go_wp2
    go_ret
    exact ⟨rfl, hc⟩
  have hbi2 : ¬ (400 : Int) < (more.size : Int) := by omega
  obtain ⟨R, hR⟩ := lexS_total s
  have hat := lexS_at hR
  by_cases h130 : R.no = 130
  · by_cases hlt : R.at_ < s.size
    · obtain ⟨m, rfl⟩ : ∃ m, R = .bad m 130 := by
        cases R with
        | ok v n => simp [Rd.no] at h130
        | bad m e => simp only [Rd.no] at h130; subst h130; exact ⟨m, rfl⟩
      replace hlt : m < s.size := hlt
      have hR2 := hid (lexS_head hR hlt (by omega) (by omega : more.size ≤ 400))
      have hRh := hid hR
      have hsz : (s.extract 0 (m + 1)).size = m + 1 := by rw [ByteArray.size_extract]; omega
      have hsz2 := hid (show (s.extract 0 (m + 1) ++ more).size ≤ 801 from by rw [ByteArray.size_append, hsz]; omega)
      clear hR hsz
      have hltI : (m : Int) < (s.size : Int) := by omega
      have hnge : ¬ (s.size : Int) ≤ (m : Int) := by omega
      clear hat h130
      go_enter Try.func8, Try.ntmps8
      go_wp2_with fail
      refine (lex_any s _ hRh.out _ (by omega)).mono ?_
      rintro e w1 ⟨A, n, c, ps, rfl, -, -, -, hc1⟩
      simp only [Rd.at_, Rd.no]
      have hC1 := hid hc1
      clear hc1
      go_wp2_with fail
      refine (lex_any _ _ hR2.out _ (by have := hsz2.out; omega)).mono ?_
      rintro e w2 ⟨A, n, c, ps, rfl, -, -, -, hc2⟩
      simp only [Rd.at_, Rd.no]
      have hC2 := hid (hC1.out.trans hc2)
      clear hc2
      go_wp2_with fail
      refine (hal.out _).mono ?_
      rintro e w3 ⟨rfl, hc3⟩
      go_wp2
      go_ret
      exact ⟨rfl, hC2.out.trans hc3⟩
    · have hge : (s.size : Int) ≤ (R.at_ : Int) := by omega
      have hno : (R.no != 130) = false := by rw [h130]; rfl
      have hRh := hid hR
      replace h130 := hid h130
      clear hR hat
      go_enter Try.func8, Try.ntmps8
      go_wp2_with fail
      refine (lex_any s _ hRh.out _ (by omega)).mono ?_
      rintro e w1 ⟨A, n, c, ps, rfl, -, -, -, hc1⟩
      have hC1 := hid hc1
      clear hc1
      go_wp2_with fail
      refine (hal.out _).mono ?_
      rintro e w3 ⟨rfl, hc3⟩
      go_wp2
      go_ret
      exact ⟨rfl, hC1.out.trans hc3⟩
  · have hno : (R.no != 130) = true := by rw [bne_iff_ne]; exact h130
    have hRh := hid hR
    replace h130 := hid h130
    clear hR hat
    go_enter Try.func8, Try.ntmps8
    go_wp2_with fail
    refine (lex_any s _ hRh.out _ (by omega)).mono ?_
    rintro e w1 ⟨A, n, c, ps, rfl, -, -, -, hc1⟩
    have hC1 := hid hc1
    clear hc1
    go_wp2_with fail
    refine (hal.out _).mono ?_
    rintro e w3 ⟨rfl, hc3⟩
    go_wp2
    go_ret
    exact ⟨rfl, hC1.out.trans hc3⟩
end Go.Proofs.Ytpndjehiacmngaa
