/- Layer 13: the program's scanner: escape. -/
import Derived.Test.YtpndjehiacmngaaTokG
import Derived.Outline
import Derived.Laws.Strings
namespace Go.Proofs.Ytpndjehiacmngaa
open Go.RowKit
set_option linter.unusedVariables false
/-- What a method of the scanner leaves that answers a byte. -/
def ScB (R : Rd Nat) (s : ByteArray) (b : Nat) (w : World) (e : Ending) (w' : World) : Prop :=
  e = .returned (.int .u8 (R.val 0)) ∧ SBox w' b s R.at_ R.no ∧ Chg (One b) w w'
/-- Where a byte stands first in a text. -/
def idxV (s : ByteArray) (b : Nat) : Int := Lib.indexByte s.data.toList b.toUInt8
theorem idx_any (s : ByteArray) (b : Nat) (w : World) :
    Calls Try.prog 37 #[.string s, .int .u8 b] w fun e w' => e = .returned (.int .i64 (idxV s b)) ∧ w' = w := indexByte_any s b w
theorem in_idx (s : ByteArray) (b : Nat) (hb : b < 256) : decide (0 ≤ idxV s b) = inS s b := in_index s b hb
def hexs : ByteArray := ⟨#[48, 49, 50, 51, 52, 53, 54, 55, 56, 57, 97, 98, 99, 100, 101, 102]⟩
theorem hex_index' : ∀ b : Fin 256, idxV hexs b.val = hexV b.val := by decide +kernel
theorem hex_index (b : Nat) (h : b < 256) : idxV hexs b = hexV b := hex_index' ⟨b, h⟩
theorem hexIdx_any (b : Nat) (w : World) (h : (b : Int) < 256) :
    Calls Try.prog 37 #[.string ⟨#[48, 49, 50, 51, 52, 53, 54, 55, 56, 57, 97, 98, 99, 100, 101, 102]⟩, .int .u8 b] w fun e w' => e = .returned (.int .i64 (hexV b)) ∧ w' = w := by
  rw [← hex_index b (by omega)]; exact idx_any hexs b w
theorem rest_size (s : ByteArray) (k : Nat) : (s.extract k s.size).size = s.size - k := by simp
theorem rest_get (s : ByteArray) (k j i : Nat) (h : j < (s.extract k s.size).size) (hi : i = k + j) : ((s.extract k s.size)[j]'h).toNat = byteAt s i := by
  have hs : k + j < s.size := by simp at h; omega
  subst hi
  rw [← byteAt_eq hs]
  simp [ByteArray.getElem_extract]
theorem rest_some (s : ByteArray) (k : Nat) (h : k < s.size) : ¬ (s.extract k s.size).toList = [] := by
  intro e
  have : (s.extract k s.size).toList.length = s.size - k := by rw [ByteArray.toList_eq]; simp
  rw [e] at this; simp at this; omega
theorem rest_none (s : ByteArray) (k : Nat) (h : s.size ≤ k) : (s.extract k s.size).toList = [] := by
  apply List.eq_nil_of_length_eq_zero
  rw [ByteArray.toList_eq]; simp; omega
theorem rest_some' (s : ByteArray) (k : Nat) (h : k < s.size) : (!(s.extract k s.size).toList.isEmpty) = true := by
  have := rest_some s k h
  simpa using this
theorem rest_none' (s : ByteArray) (k : Nat) (h : s.size ≤ k) : (!(s.extract k s.size).toList.isEmpty) = false := by
  rw [rest_none s k h]; rfl
set_option maxHeartbeats 1000000 in
theorem escape_any (b : Nat) (s : ByteArray) (a : Nat) (w : World) (H : SBox w b s a 0) (hs : s.size ≤ 9223372036854775000) (ha : a < s.size) :
    Calls Try.prog 60 #[.pointer (some ⟨b, 0, none⟩)] w (ScB (escS s a) s b w) := by
  obtain ⟨r0, r1, r2, f0, f1, f2, hlt⟩ := H.at_
  have HH := hid H
  clear H
  by_cases h1 : a + 1 < s.size
  · have hlt1 := byteAt_lt s (a + 1)
    have hne := rest_some s (a + 1) h1
    have hne' := rest_some' s (a + 1) h1
    have hg0 := rest_get s (a + 1) 0 (a + 1) (by simp; omega) rfl
    cases hin : inS escSet (byteAt s (a + 1)) with
    | true =>
      have hE := hid (show escS s a = .ok (byteAt s (a + 1)) (a + 2) from by unfold escS; rw [if_pos ⟨h1, hin⟩])
      have hd : decide (0 ≤ idxV escSet (byteAt s (a + 1))) = true := by rw [in_idx _ _ hlt1, hin]
      have hd' : 0 ≤ idxV escSet (byteAt s (a + 1)) := of_decide_eq_true hd
      replace hin := hid hin
      rw [hE.out]
      go_enter Try.func60, Try.ntmps60
      go_wp2_with fail
      refine (idx_any escSet _ _).mono ?_
      rintro e w' ⟨rfl, rfl⟩
      go_wp2
      go_ret
      exact ⟨rfl, HH.out.putAt _, (Chg.refl _ _).setOne _ _⟩
    | false =>
      have hd : decide (0 ≤ idxV escSet (byteAt s (a + 1))) = false := by rw [in_idx _ _ hlt1, hin]
      have hd' : ¬ 0 ≤ idxV escSet (byteAt s (a + 1)) := of_decide_eq_false hd
      have hn : Hid (¬ (a + 1 < s.size ∧ inS escSet (byteAt s (a + 1)) = true)) := hid (by rw [hin]; simp)
      replace hin := hid hin
      by_cases h3 : a + 3 < s.size
      · have hlt2 := byteAt_lt s (a + 2)
        have hlt3 := byteAt_lt s (a + 3)
        have hg1 := rest_get s (a + 1) 1 (a + 2) (by simp; omega) rfl
        have hg2 := rest_get s (a + 1) 2 (a + 3) (by simp; omega) rfl
        have hz : (2 : Int) < ((s.size - (a + 1) : Nat) : Int) := by omega
        by_cases hx : byteAt s (a + 1) = 120
        · have hdx : (((byteAt s (a + 1) : Nat) : Int) == 120) = true := beq_iff_eq.2 (by omega)
          have u2 := hexV_le (byteAt s (a + 2))
          have u3 := hexV_le (byteAt s (a + 3))
          replace hx := hid hx
          by_cases p2 : 0 ≤ hexV (byteAt s (a + 2))
          · by_cases p3 : 0 ≤ hexV (byteAt s (a + 3))
            · have hE := hid (show escS s a = .ok ((16 * hexV (byteAt s (a + 2)) + hexV (byteAt s (a + 3))).toNat) (a + 4) from by unfold escS; rw [if_neg hn.out, if_pos ⟨h3, hx.out, p2, p3⟩])
              rw [hE.out]
              go_enter Try.func60, Try.ntmps60
              go_wp2_with fail
              refine (idx_any escSet _ _).mono ?_
              rintro e w' ⟨rfl, rfl⟩
              go_wp2_with fail
              go_quiet ((go_at_call 37; exact Calls.quiet_of_same (hexIdx_any _ _ (by first | omega | (rw [hg1]; omega) | (rw [hg2]; omega)))))
              go_wp2
              have hc : (((16 * hexV (byteAt s (a + 2)) + hexV (byteAt s (a + 3))).toNat : Nat) : Int) = 16 * hexV (byteAt s (a + 2)) + hexV (byteAt s (a + 3)) := by omega
              go_ret
              exact ⟨congrArg (fun z => Ending.returned (Value.int .u8 z)) hc.symm, SBox.putAt (Blk.drewN HH.out _) _, ((Chg.refl _ _).drewN _).setOne _ _⟩
            · have hE := hid (show escS s a = .bad a 131 from by unfold escS; rw [if_neg hn.out, if_neg (fun h => p3 h.2.2.2)])
              have hd3 : decide (0 ≤ hexV (byteAt s (a + 3))) = false := decide_eq_false p3
              rw [hE.out]
              go_enter Try.func60, Try.ntmps60
              go_wp2_with fail
              refine (idx_any escSet _ _).mono ?_
              rintro e w' ⟨rfl, rfl⟩
              go_wp2_with fail
              go_quiet ((go_at_call 37; exact Calls.quiet_of_same (hexIdx_any _ _ (by first | omega | (rw [hg1]; omega) | (rw [hg2]; omega)))))
              go_wp2_with fail
              refine (fails_any b s a 0 a 131 _ (Blk.drewN HH.out _)).mono ?_
              rintro e w' ⟨rfl, hB, hc⟩
              go_wp2
              go_ret
              exact ⟨rfl, hB, ((Chg.refl _ _).drewN _).trans hc⟩
          · have hE := hid (show escS s a = .bad a 131 from by unfold escS; rw [if_neg hn.out, if_neg (fun h => p2 h.2.2.1)])
            have hd3 : decide (0 ≤ hexV (byteAt s (a + 2))) = false := decide_eq_false p2
            rw [hE.out]
            go_enter Try.func60, Try.ntmps60
            go_wp2_with fail
            refine (idx_any escSet _ _).mono ?_
            rintro e w' ⟨rfl, rfl⟩
            go_wp2_with fail
            go_quiet ((go_at_call 37; exact Calls.quiet_of_same (hexIdx_any _ _ (by first | omega | (rw [hg1]; omega) | (rw [hg2]; omega)))))
            go_wp2_with fail
            refine (fails_any b s a 0 a 131 _ (Blk.drewN HH.out _)).mono ?_
            rintro e w' ⟨rfl, hB, hc⟩
            go_wp2
            go_ret
            exact ⟨rfl, hB, ((Chg.refl _ _).drewN _).trans hc⟩
        · have hdx : (((byteAt s (a + 1) : Nat) : Int) == 120) = false := by rw [beq_eq_false_iff_ne]; omega
          have hE := hid (show escS s a = .bad a 131 from by unfold escS; rw [if_neg hn.out, if_neg (fun h => hx h.2.1)])
          clear hx
          rw [hE.out]
          go_enter Try.func60, Try.ntmps60
          go_wp2_with fail
          refine (idx_any escSet _ _).mono ?_
          rintro e w' ⟨rfl, rfl⟩
          go_wp2_with fail
          refine (fails_any b s a 0 a 131 _ HH.out).mono ?_
          rintro e w' ⟨rfl, hB, hc⟩
          go_wp2
          go_ret
          exact ⟨rfl, hB, hc⟩
      · have hz : ¬ (2 : Int) < ((s.size - (a + 1) : Nat) : Int) := by omega
        have hE := hid (show escS s a = .bad a 131 from by unfold escS; rw [if_neg hn.out, if_neg (by omega)])
        rw [hE.out]
        go_enter Try.func60, Try.ntmps60
        go_wp2_with fail
        refine (idx_any escSet _ _).mono ?_
        rintro e w' ⟨rfl, rfl⟩
        go_wp2_with fail
        refine (fails_any b s a 0 a 131 _ HH.out).mono ?_
        rintro e w' ⟨rfl, hB, hc⟩
        go_wp2
        go_ret
        exact ⟨rfl, hB, hc⟩
  · have hnn := rest_none s (a + 1) (by omega)
    have hnn' := rest_none' s (a + 1) (by omega)
    have hz : ¬ (2 : Int) < ((s.size - (a + 1) : Nat) : Int) := by omega
    have hE := hid (show escS s a = .bad a 131 from by unfold escS; rw [if_neg (by omega), if_neg (by omega)])
    rw [hE.out]
    go_enter Try.func60, Try.ntmps60
    go_wp2_with fail
    refine (fails_any b s a 0 a 131 _ HH.out).mono ?_
    rintro e w' ⟨rfl, hB, hc⟩
    go_wp2
    go_ret
    exact ⟨rfl, hB, hc⟩
end Go.Proofs.Ytpndjehiacmngaa
