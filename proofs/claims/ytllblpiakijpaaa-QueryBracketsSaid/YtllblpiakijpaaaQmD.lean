/- Layer 14: the law QueryBrackets. -/
import Derived.Test.YtllblpiakijpaaaQlD
import Derived.Test.YtllblpiakijpaaaBunM
import Derived.Test.YtllblpiakijpaaaBunL
namespace Go.Proofs.Ytllblpiakijpaaa
open Go.RowKit
set_option linter.unusedVariables false
attribute [local go_sem ↓] Go.wp_at_zero Go.wp_at_succ
theorem brk_any {s : ByteArray} {L : List Nd} {a no : Int} (h : ParseR (opens ++ s ++ closes) L a no) (hs : s.size ≤ 500) (w : World) : Calls Try.prog 11 #[.string (⟨#[40, 40]⟩ ++ s ++ ⟨#[41, 41]⟩)] w (ParseAns L a no w) :=
  parse_any _ L a no h w (by have z1 : opens.size = 2 := rfl; have z2 : closes.size = 2 := rfl; simp only [ByteArray.size_append]; omega)
theorem nsh_any {s : ByteArray} {L : List Nd} {a no : Int} (h : ParseR (notShift ++ s ++ close1) L a no) (hs : s.size ≤ 500) (w : World) : Calls Try.prog 11 #[.string (⟨#[33, 62, 55, 40]⟩ ++ s ++ ⟨#[41]⟩)] w (ParseAns L a no w) :=
  parse_any _ L a no h w (by have z1 : notShift.size = 4 := rfl; have z2 : close1.size = 1 := rfl; simp only [ByteArray.size_append]; omega)
set_option maxHeartbeats 16000000 in
set_option maxRecDepth 100000 in
theorem QueryBrackets_walk (s : ByteArray) (w : World) (hs : s.size ≤ 140737488351232) :
    Calls Try.prog 8 #[.string s] w fun e w' => e = .returned (.bool true) ∧ Chg Nothing w w' := by
  by_cases hb : 500 < s.size
  · have hbi : (500 : Int) < (s.size : Int) := by omega
    go_enter Try.func8, Try.ntmps8
    go_wp2_with fail
    refine (alive14 _).mono ?_
    rintro e w1 ⟨rfl, hc⟩
    go_wp2
    go_ret
    exact ⟨rfl, hc⟩
  have hbi : decide ((500 : Int) < (s.size : Int)) = false := decide_eq_false (by omega)
  obtain ⟨L, a, no, hP⟩ := parse_total s
  have hp1 := hid (parse_any s L a no hP · (by omega))
  have hsz : s.size ≤ 500 := by omega
  have e1 : ¬ (9223372036854775807 < 2 + s.size) := by omega
  have e2 : ¬ (9223372036854775807 < 2 + s.size + 2) := by omega
  have e3 : ¬ (9223372036854775807 < 4 + s.size) := by omega
  have e4 : ¬ (9223372036854775807 < 4 + s.size + 1) := by omega
  have hLl : L.length ≤ 64 := by
    obtain ⟨-, -, hf⟩ := parseR_facts hP
    rcases hf with ⟨-, -, t, -, rfl, hl, -⟩ | ⟨-, rfl⟩
    · exact hl
    · decide
  by_cases hgood : no = 0 ∧ L.length ≤ 62 ∧ depthN L ≤ 14
  · obtain ⟨rfl, h62, h14⟩ := hgood
    have hp2 := hid (fun w => brk_any (parse_brackets hP hsz) hsz w)
    have hp3 := hid (fun w => nsh_any (parse_notShift hP hsz h62 h14) hsz w)
    have hLne : 1 ≤ L.length := by
      obtain ⟨t, -, e⟩ := parse_tree hP
      rw [e]; exact t.flat_pos
    obtain ⟨a1, ha1⟩ : ∃ a1 : Int, a1 = ((opens ++ s ++ closes).size : Nat) := ⟨_, rfl⟩
    obtain ⟨a2, ha2⟩ : ∃ a2 : Int, a2 = ((notShift ++ s ++ close1).size : Nat) := ⟨_, rfl⟩
    rw [← ha1] at hp2
    rw [← ha2] at hp3
    replace ha1 := hid ha1
    replace ha2 := hid ha2
    clear hP hb
    go_enter Try.func8, Try.ntmps8
    go_wp2_with fail
    refine (hp1.out _).mono ?_
    rintro e w1 ⟨A, n, c, ps, rfl, hA, hps, hc1⟩
    have hn : L.length = n := by have := congrArg List.length hps; rw [List.length_map, hA.len] at this; exact this.symm
    have hA1 := hid hA
    have hC1 := hid hc1
    have hpsh := hid hps
    clear hA hc1 hps
    go_wp2_with fail
    refine (hp2.out _).mono ?_
    rintro e w2 ⟨B, m, d, qs, rfl, hB, hqs, hc2⟩
    have hA2 := hid (hA1.out.calm hc2)
    have hC2 := hid (hC1.out.trans hc2)
    have hB2 := hid hB
    have hqsh := hid hqs
    clear hB hc2 hA1 hC1 hqs
    go_wp2_with fail
    refine (hp3.out _).mono ?_
    rintro e w3 ⟨D, k, f, rs, rfl, hD, hrs, hc3⟩
    have hk : k = n + 2 := by have := congrArg List.length hrs; rw [List.length_map, hD.len] at this; simp only [List.length_cons] at this; omega
    subst hk
    have hA3 := hid (hA2.out.calm hc3)
    have hB3 := hid (hB2.out.calm hc3)
    have hC3 := hid (hC2.out.trans hc3)
    have hD3 := hid hD
    have hrsh := hid hrs
    clear hD hc3 hA2 hB2 hC2 hrs
    have hDp := hid (by have := Depth_any (fun _ => True) A n c ps w3 hA3.out (by omega); rw [hpsh.out] at this; exact this)
    obtain ⟨dd, hdd⟩ : ∃ dd, dd = depthN L := ⟨_, rfl⟩
    rw [← hdd] at hDp h14
    replace hdd := hid hdd
    have hn62 : decide ((62 : Int) < (n : Int)) = false := decide_eq_false (by omega)
    have hd14 : decide ((14 : Int) < (dd : Int)) = false := decide_eq_false (by omega)
    go_wp2_with fail
    refine (hDp.out).mono ?_
    rintro e w4 ⟨rfl, hc4⟩
    have hA4 := hid (hA3.out.calm hc4)
    have hB4 := hid (hB3.out.calm hc4)
    have hD4 := hid (hD3.out.calm hc4)
    have hC4 := hid (hC3.out.trans hc4)
    clear hc4 hA3 hB3 hD3 hC3 hDp
    go_wp2_with fail
    refine (alive14 _).mono ?_
    rintro e w5 ⟨rfl, hc5⟩
    have hA5 := hid (hA4.out.calm hc5)
    have hB5 := hid (hB4.out.calm hc5)
    have hD5 := hid (hD4.out.calm hc5)
    have hC5 := hid (hC4.out.trans hc5)
    clear hc5 hA4 hB4 hD4 hC4
    have hS1 := hid (by have := querySame_any (fun _ => True) (fun _ => True) B m d qs A n c ps w5 hB5.out hA5.out; rw [(sameN_iff _ _).2 (hqsh.out.trans hpsh.out.symm)] at this; exact this)
    go_wp2_with fail
    refine (hS1.out).mono ?_
    rintro e w6 ⟨rfl, hc6⟩
    have hA6 := hid (hA5.out.calm hc6)
    have hD6 := hid (hD5.out.calm hc6)
    have hC6 := hid (hC5.out.trans hc6)
    clear hc6 hA5 hB5 hD5 hC5 hS1
    obtain ⟨p1, p2, -, -, hq2, -, hN2, -⟩ := hD6.out.pre (L := [⟨4, 0, [], 0⟩, ⟨5, 7, [], 0⟩]) (M := L) hrsh.out
    have hle := hD6.out.row.le
    have hmx := hD6.out.row.max
    have hrun : ∀ W, (Instr.slice 23 (.slice D (n + 2) f) (some (.int .i64 2)) none none).run Try.prog W = .ok (.slice (pieceA D 2 f 4) n (f - 2)) W := fun W => run_from elemNd sizeNd D (n + 2) f 2 2 rfl (by omega) W
    have hS2 := hid (show Calls Try.prog 24 #[.slice (pieceA D 2 f 4) n (f - 2), .slice A n c] w6 fun e w' => e = .returned (.bool true) ∧ Chg Nothing w6 w' from by have := querySame_any (fun _ => True) (fun _ => True) _ _ _ p2 A n c ps w6 hN2 hA6.out; rw [(sameN_iff _ _).2 (hq2.trans hpsh.out.symm)] at this; exact this)
    clear hN2 hq2
    have hk0 : (0 : Int) < (n : Int) + 2 := by omega
    have hk1 : (1 : Int) < (n : Int) + 2 := by omega
    have hn9 : (n : Int) < 100 := by omega
    replace hn := hid hn
    go_wp2_with fail
    refine (hS2.out).mono ?_
    rintro e w7 ⟨rfl, hc7⟩
    obtain ⟨g, o, q0, e0, hgl, -, -, -, hdr, c0, -, -, -⟩ := (hD6.out.calm hc7).node (k := 0) (x := ⟨4, 0, [], 0⟩) (r := ⟨5, 7, [], 0⟩ :: L) (by rw [List.drop_zero]; exact hrsh.out)
    obtain ⟨g', o', q1, e1', -, -, -, -, -, d0, d1, -, -⟩ := (hD6.out.calm hc7).node (k := 1) (x := ⟨5, 7, [], 0⟩) (r := L) hdr
    subst e0
    injection e1' with e1'
    injection e1' with e5 e6
    subst e5 e6
    have hC7 := hid (hC6.out.trans hc7)
    rw [Nat.zero_mul, Nat.add_zero] at c0
    rw [Nat.one_mul] at d0 d1
    clear hc7 hdr hS2
    go_wp2
    go_ret
    exact ⟨rfl, hC7.out⟩
  · obtain ⟨L1, a1, no1, hP1⟩ := parse_total (opens ++ s ++ closes)
    obtain ⟨L2, a2, no2, hP2⟩ := parse_total (notShift ++ s ++ close1)
    have hp2 := hid (fun w => brk_any hP1 hsz w)
    have hp3 := hid (fun w => nsh_any hP2 hsz w)
    clear hP1 hP2 hP hb
    have hg := hid hgood
    clear hgood
    go_enter Try.func8, Try.ntmps8
    go_wp2_with fail
    refine (hp1.out _).mono ?_
    rintro e w1 ⟨A, n, c, ps, rfl, hA, hps, hc1⟩
    have hn : L.length = n := by have := congrArg List.length hps; rw [List.length_map, hA.len] at this; exact this.symm
    have hA1 := hid hA
    have hC1 := hid hc1
    have hpsh := hid hps
    clear hA hc1 hps
    go_wp2_with fail
    refine (hp2.out _).mono ?_
    rintro e w2 ⟨B, m, d, qs, rfl, -, -, hc2⟩
    have hA2 := hid (hA1.out.calm hc2)
    have hC2 := hid (hC1.out.trans hc2)
    clear hc2 hA1 hC1
    go_wp2_with fail
    refine (hp3.out _).mono ?_
    rintro e w3 ⟨D, k, f, rs, rfl, -, -, hc3⟩
    have hA3 := hid (hA2.out.calm hc3)
    have hC3 := hid (hC2.out.trans hc3)
    clear hc3 hA2 hC2
    by_cases hno : no = 0
    · subst hno
      by_cases h62 : 62 < n
      · have hn62 : decide ((62 : Int) < (n : Int)) = true := decide_eq_true (by omega)
        go_wp2_with fail
        refine (alive14 _).mono ?_
        rintro e w4 ⟨rfl, hc⟩
        go_wp2
        go_ret
        exact ⟨rfl, hC3.out.trans hc⟩
      · have hn62 : decide ((62 : Int) < (n : Int)) = false := decide_eq_false (by omega)
        have hDp := hid (by have := Depth_any (fun _ => True) A n c ps w3 hA3.out (by omega); rw [hpsh.out] at this; exact this)
        have h14 : 14 < depthN L := by
          rcases Nat.lt_or_ge 14 (depthN L) with h | h
          · exact h
          · exact absurd ⟨rfl, by omega, h⟩ hg.out
        generalize depthN L = dd at hDp h14
        have hd14 : decide ((14 : Int) < (dd : Int)) = true := decide_eq_true (by omega)
        go_wp2_with fail
        refine (hDp.out).mono ?_
        rintro e w4 ⟨rfl, hc4⟩
        have hC4 := hid (hC3.out.trans hc4)
        clear hc4 hC3
        go_wp2_with fail
        refine (alive14 _).mono ?_
        rintro e w5 ⟨rfl, hc⟩
        go_wp2
        go_ret
        exact ⟨rfl, hC4.out.trans hc⟩
    · have hno' : (no != 0) = true := bne_iff_ne.2 hno
      go_wp2_with fail
      refine (alive14 _).mono ?_
      rintro e w4 ⟨rfl, hc⟩
      go_wp2
      go_ret
      exact ⟨rfl, hC3.out.trans hc⟩
end Go.Proofs.Ytllblpiakijpaaa
