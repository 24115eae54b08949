/- Layer 14: the law QueryJoins. -/
import Derived.Test.YtllblpiakijpaaaQlD
import Derived.Test.YtllblpiakijpaaaBunM
import Derived.Test.YtllblpiakijpaaaBunL
namespace Go.Proofs.Ytllblpiakijpaaa
open Go.RowKit
set_option linter.unusedVariables false
attribute [local go_sem ↓] Go.wp_at_zero Go.wp_at_succ
theorem NRow.join {F : Nat → Prop} {w : World} {D : Option Addr} {k f n m : Nat} {rs : List NP} {x : Nd} {L M : List Nd} (H : NRow F w D k f rs) (h : rs.map NP.x = x :: (L ++ M)) (hn : L.length = n) (hm : M.length = m) :
    ∃ p1 p2, p1.map NP.x = L ∧ p2.map NP.x = M ∧ NRow F w (pieceA D 1 f 4) n (f - 1) p1 ∧ NRow F w (pieceA D (1 + n) f 4) m (f - (1 + n)) p2 := by
  cases rs with
  | nil => cases h
  | cons q0 rs =>
    injection h with h1 h2
    obtain ⟨p1, p2, rfl, h3, h4⟩ := List.map_eq_append_iff.1 h2
    have l1 : p1.length = n := by rw [← hn, ← h3, List.length_map]
    have l2 : p2.length = m := by rw [← hm, ← h4, List.length_map]
    have a := (show NRow F w D k f ([q0] ++ p1 ++ p2) from H).cut
    have b := (show NRow F w D k f (([q0] ++ p1) ++ p2 ++ []) from by rw [List.append_nil]; exact H).cut
    have e1 : ([q0] ++ p1).length = 1 + n := by rw [List.length_append, l1]; rfl
    rw [l1] at a
    rw [l2, e1] at b
    exact ⟨p1, p2, h3, h4, a, b⟩
theorem or_any {s t : ByteArray} {L : List Nd} {a no : Int} (h : ParseR (s ++ bar1 ++ t) L a no) (hs : s.size + t.size ≤ 900) (w : World) : Calls Try.prog 11 #[.string (s ++ ⟨#[124]⟩ ++ t)] w (ParseAns L a no w) :=
  parse_any _ L a no h w (by have z1 : bar1.size = 1 := rfl; simp only [ByteArray.size_append]; omega)
theorem and_any {s t : ByteArray} {L : List Nd} {a no : Int} (h : ParseR (s ++ amp1 ++ t) L a no) (hs : s.size + t.size ≤ 900) (w : World) : Calls Try.prog 11 #[.string (s ++ ⟨#[38]⟩ ++ t)] w (ParseAns L a no w) :=
  parse_any _ L a no h w (by have z1 : amp1.size = 1 := rfl; simp only [ByteArray.size_append]; omega)
theorem head_of {L : List Nd} {t : GT} (h : L = t.flat) : ∃ r, L = t.root :: r := by rw [h]; exact t.flat_head
/-- What is known of the two queries that are joined. -/
structure Jn (s t : ByteArray) (L M : List Nd) (n m : Nat) : Prop where
  sz : s.size + t.size ≤ 900
  ln : L.length = n
  lm : M.length = m
  n1 : 1 ≤ n
  m1 : 1 ≤ m
  few : n + m < 64
  dep : max (depthN L) (depthN M) < 16
set_option maxHeartbeats 16000000 in
set_option maxRecDepth 100000 in
theorem QueryJoins_bad (s t : ByteArray) (w : World) (hs : s.size ≤ 140737488351232) (ht : t.size ≤ 140737488351232) {L M : List Nd} {a b no1 no2 : Int} (h1 : ParseR s L a no1) (h2 : ParseR t M b no2) (hb : s.size + t.size ≤ 900) (hbad : ¬ (no1 = 0 ∧ no2 = 0 ∧ L.length + M.length < 64 ∧ max (depthN L) (depthN M) < 16)) :
    Calls Try.prog 9 #[.string s, .string t] w fun e w' => e = .returned (.bool true) ∧ Chg Nothing w w' := by
  have hbi : decide ((900 : Int) < (s.size : Int) + (t.size : Int)) = false := decide_eq_false (by omega)
  have hl64 : ∀ {s : ByteArray} {L : List Nd} {a no : Int}, ParseR s L a no → L.length ≤ 64 ∧ (no = 0 → 1 ≤ L.length) := fun h => by
    obtain ⟨-, -, hf⟩ := parseR_facts h
    rcases hf with ⟨-, -, t, -, rfl, hl, -⟩ | ⟨h0, rfl⟩
    · exact ⟨hl, fun _ => t.flat_pos⟩
    · exact ⟨by decide, fun h => absurd h h0⟩
  obtain ⟨l1, l1'⟩ := hl64 h1
  obtain ⟨l2, l2'⟩ := hl64 h2
  have hp1 := hid (parse_any s L a no1 h1 · (by omega))
  have hp2 := hid (parse_any t M b no2 h2 · (by omega))
  have hbh := hid hbad
  clear h1 h2 hl64 hbad
  go_enter Try.func9, Try.ntmps9
  go_wp2_with fail
  refine (hp1.out _).mono ?_
  rintro e w1 ⟨A, n, c, ps, rfl, hA, hps, hc1⟩
  have hn : L.length = n := by have := congrArg List.length hps; rw [List.length_map, hA.len] at this; exact this.symm
  have hA1 := hid hA
  have hC1 := hid hc1
  have hpsh := hid hps
  clear hA hc1 hps
  go_wp2_with fail
  refine (hp2.out _).mono ?_
  rintro e w2 ⟨B, m, d, qs, rfl, hB, hqs, hc2⟩
  have hm : M.length = m := by have := congrArg List.length hqs; rw [List.length_map, hB.len] at this; exact this.symm
  have hA2 := hid (hA1.out.calm hc2)
  have hC2 := hid (hC1.out.trans hc2)
  have hB2 := hid hB
  have hqsh := hid hqs
  clear hB hc2 hA1 hC1 hqs
  by_cases hno1 : no1 = 0
  · by_cases hno2 : no2 = 0
    · subst hno1 hno2
      have hn0 : 1 ≤ n := by have := l1' rfl; omega
      have hm0 : 1 ≤ m := by have := l2' rfl; omega
      have hn0' : ((n : Int) == 0) = false := beq_eq_false_iff_ne.2 (by omega)
      have hm0' : ((m : Int) == 0) = false := beq_eq_false_iff_ne.2 (by omega)
      have hn9 : n ≤ 64 := by omega
      have hm9 : m ≤ 64 := by omega
      by_cases h64 : 64 ≤ n + m
      · have h64' : (64 : Int) ≤ (n : Int) + (m : Int) := by omega
        clear h64 hn hm
        go_wp2_with fail
        refine (alive14 _).mono ?_
        rintro e w4 ⟨rfl, hc⟩
        go_wp2
        go_ret
        exact ⟨rfl, hC2.out.trans hc⟩
      · have h64' : decide ((64 : Int) ≤ (n : Int) + (m : Int)) = false := decide_eq_false (by omega)
        have hdd : 16 ≤ max (depthN L) (depthN M) := by
          rcases Nat.lt_or_ge (max (depthN L) (depthN M)) 16 with h | h
          · exact absurd ⟨rfl, rfl, by omega, h⟩ hbh.out
          · exact h
        have hD1 := hid (fun (w' : World) (hc : Chg Nothing w2 w') => by have := Depth_any (fun _ => True) A n c ps w' (hA2.out.calm hc) (by omega); rw [hpsh.out] at this; exact this)
        have hD2 := hid (fun (w' : World) (hc : Chg Nothing w2 w') => by have := Depth_any (fun _ => True) B m d qs w' (hB2.out.calm hc) (by omega); rw [hqsh.out] at this; exact this)
        replace hbh := hid trivial
        generalize depthN L = d1 at hD1 hdd
        generalize depthN M = d2 at hD2 hdd
        obtain ⟨dm, hdm⟩ : ∃ dm : Nat, dm = max d1 d2 := ⟨_, rfl⟩
        have hmx : max (d1 : Int) (d2 : Int) = (dm : Int) := by omega
        have hdi : (16 : Int) ≤ (dm : Int) := by omega
        replace hdm := hid hdm
        clear hdd hn hm h64
        go_wp2_with fail
        refine (hD1.out _ (Chg.refl _ _)).mono ?_
        rintro e w3 ⟨rfl, hc3⟩
        have hC3 := hid hc3
        clear hc3
        go_wp2_with fail
        refine (hD2.out _ hC3.out).mono ?_
        rintro e w4 ⟨rfl, hc4⟩
        have hC4 := hid ((hC2.out.trans hC3.out).trans hc4)
        clear hc4
        go_wp2_with fail
        refine (alive14 _).mono ?_
        rintro e w5 ⟨rfl, hc⟩
        go_wp2
        go_ret
        exact ⟨rfl, hC4.out.trans hc⟩
    · subst hno1
      have hq : (no2 != 0) = true := bne_iff_ne.2 hno2
      replace hno2 := hid hno2
      clear hn hm
      go_wp2_with fail
      refine (alive14 _).mono ?_
      rintro e w4 ⟨rfl, hc⟩
      go_wp2
      go_ret
      exact ⟨rfl, hC2.out.trans hc⟩
  · have hq : (no1 != 0) = true := bne_iff_ne.2 hno1
    replace hno1 := hid hno1
    clear hn hm
    go_wp2_with fail
    refine (alive14 _).mono ?_
    rintro e w4 ⟨rfl, hc⟩
    go_wp2
    go_ret
    exact ⟨rfl, hC2.out.trans hc⟩
end Go.Proofs.Ytllblpiakijpaaa
