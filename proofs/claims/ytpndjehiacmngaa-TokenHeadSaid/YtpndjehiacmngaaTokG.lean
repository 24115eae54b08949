/- Layer 13, the document's: Escape. -/
import Derived.Test.YtpndjehiacmngaaTokG0
import Derived.Deep.QuietTactic
import Derived.BigQuiet
namespace Go.Proofs.Ytpndjehiacmngaa
open Go.RowKit
set_option linter.unusedVariables false
def Rd.at_ {α : Type} : Rd α → Nat
  | .ok _ nx => nx
  | .bad p _ => p
def Rd.no {α : Type} : Rd α → Int
  | .ok _ _ => 0
  | .bad _ e => e
def Rd.val {α : Type} (R : Rd α) (d : α) : α := match R with
  | .ok v _ => v
  | .bad _ _ => d
def gotOf (R : Rd Nat) : Value := gotB (R.val 0) R.at_ R.no
theorem byteAt_eq {s : ByteArray} {i : Nat} (h : i < s.size) : s[i].toNat = byteAt s i := by unfold byteAt; rw [dif_pos h]

theorem refEscape_any (s : ByteArray) (a : Nat) (w : World) (hs : s.size ≤ 9223372036854775000) (ha : a < s.size) :
    Calls Try.prog 64 #[.string s, .int .i64 a] w fun e w' => e = .returned (gotOf (escS s a)) ∧ Chg Nothing w w' := by
  by_cases h1 : a + 1 < s.size
  · have hb1 := byteAt_eq h1
    cases hin : inS escSet (byteAt s (a + 1)) with
    | true =>
      have hE := hid (show escS s a = .ok (byteAt s (a + 1)) (a + 2) from by unfold escS; rw [if_pos ⟨h1, hin⟩])
      replace hin := hid hin
      rw [hE.out]
      go_enter Try.func64, Try.ntmps64
      go_wp2_with fail
      refine (refIn_any escSet (byteAt s (a + 1)) _ (by have := byteAt_lt s (a + 1); omega) (by decide)).mono ?_
      rintro e w3 ⟨rfl, rfl⟩
      rw [hin.out]
      go_wp2
      refine bodyPost_ret (v := gotB (byteAt s (a + 1)) (a + 2) 0) (by simp [results, Try.results64, go_sem, gotB]) rfl ⟨rfl, (Chg.refl _ _).alloc _⟩
    | false =>
      have hlt1 := byteAt_lt s (a + 1)
      have hn : ¬ (a + 1 < s.size ∧ inS escSet (byteAt s (a + 1)) = true) := by rw [hin]; simp
      by_cases h3 : a + 3 < s.size
      · have h2 : a + 2 < s.size := by omega
        have hb2 := byteAt_eq h2
        have hb3 := byteAt_eq h3
        have hlt2 := byteAt_lt s (a + 2)
        have hlt3 := byteAt_lt s (a + 3)
        have hd2 : decide ((a : Int) + 3 < (s.size : Int)) = true := decide_eq_true (by omega)
        replace hin := hid hin
        by_cases hx : byteAt s (a + 1) = 120
        · have hdx : (((byteAt s (a + 1) : Nat) : Int) == 120) = true := beq_iff_eq.2 (by omega)
          have hH2 := hid (fun w => refHex_any (byteAt s (a + 2)) w (by omega))
          have hH3 := hid (fun w => refHex_any (byteAt s (a + 3)) w (by omega))
          replace hx := hid hx
          replace hn := hid hn
          generalize hv2 : hexV (byteAt s (a + 2)) = v2 at hH2
          generalize hv3 : hexV (byteAt s (a + 3)) = v3 at hH3
          by_cases p2 : 0 ≤ v2
          · by_cases p3 : 0 ≤ v3
            · have hE := hid (show escS s a = .ok ((16 * v2 + v3).toNat) (a + 4) from by unfold escS; rw [if_neg hn.out, if_pos ⟨h3, hx.out, hv2 ▸ p2, hv3 ▸ p3⟩, hv2, hv3])
              have u2 := hexV_le (byteAt s (a + 2))
              have u3 := hexV_le (byteAt s (a + 3))
              rw [hv2] at u2
              rw [hv3] at u3
              clear hv2 hv3
              rw [hE.out]
              exact refEscape_hex s a w hs ha h3 hlt1 hlt2 hlt3 v2 v3 h1 h2 hb1 hb2 hb3 hin hdx hH2 hH3 p2 p3 u2 u3 hd2
            · have hE := hid (show escS s a = .bad a 131 from by unfold escS; rw [if_neg hn.out, if_neg (fun h => p3 (hv3 ▸ h.2.2.2))])
              have hd3 : decide (0 ≤ v3) = false := decide_eq_false p3
              replace hv2 := hid hv2
              replace hv3 := hid hv3
              clear p3
              rw [hE.out]
              go_enter Try.func64, Try.ntmps64
              go_wp2_with fail
              refine (refIn_any escSet (byteAt s (a + 1)) _ (by omega) (by decide)).mono ?_
              rintro e w3 ⟨rfl, rfl⟩
              rw [hin.out]
              go_wp2_with fail
              refine (hH2.out _).mono ?_
              rintro e w3 ⟨rfl, rfl⟩
              go_wp2_with fail
              refine (hH3.out _).mono ?_
              rintro e w3 ⟨rfl, rfl⟩
              go_wp2
              refine bodyPost_ret (v := gotB 0 a 131) (by simp [results, Try.results64, go_sem, gotB]) rfl ⟨rfl, (Chg.refl _ _).alloc _⟩
          · have hE := hid (show escS s a = .bad a 131 from by unfold escS; rw [if_neg hn.out, if_neg (fun h => p2 (hv2 ▸ h.2.2.1))])
            have hd3 : decide (0 ≤ v2) = false := decide_eq_false p2
            replace hv2 := hid hv2
            replace hv3 := hid hv3
            clear p2
            rw [hE.out]
            go_enter Try.func64, Try.ntmps64
            go_wp2_with fail
            refine (refIn_any escSet (byteAt s (a + 1)) _ (by omega) (by decide)).mono ?_
            rintro e w3 ⟨rfl, rfl⟩
            rw [hin.out]
            go_wp2_with fail
            refine (hH2.out _).mono ?_
            rintro e w3 ⟨rfl, rfl⟩
            go_wp2
            refine bodyPost_ret (v := gotB 0 a 131) (by simp [results, Try.results64, go_sem, gotB]) rfl ⟨rfl, (Chg.refl _ _).alloc _⟩
        · have hdx : (((byteAt s (a + 1) : Nat) : Int) == 120) = false := by rw [beq_eq_false_iff_ne]; omega
          have hE := hid (show escS s a = .bad a 131 from by unfold escS; rw [if_neg hn, if_neg (fun h => hx h.2.1)])
          clear hn hx
          rw [hE.out]
          go_enter Try.func64, Try.ntmps64
          go_wp2_with fail
          refine (refIn_any escSet (byteAt s (a + 1)) _ (by omega) (by decide)).mono ?_
          rintro e w3 ⟨rfl, rfl⟩
          rw [hin.out]
          go_wp2
          refine bodyPost_ret (v := gotB 0 a 131) (by simp [results, Try.results64, go_sem, gotB]) rfl ⟨rfl, (Chg.refl _ _).alloc _⟩
      · have hd2 : decide ((a : Int) + 3 < (s.size : Int)) = false := decide_eq_false (by omega)
        have hE := hid (show escS s a = .bad a 131 from by unfold escS; rw [if_neg hn, if_neg (by omega)])
        replace hin := hid hin
        clear hn
        rw [hE.out]
        go_enter Try.func64, Try.ntmps64
        go_wp2_with fail
        refine (refIn_any escSet (byteAt s (a + 1)) _ (by omega) (by decide)).mono ?_
        rintro e w3 ⟨rfl, rfl⟩
        rw [hin.out]
        go_wp2
        refine bodyPost_ret (v := gotB 0 a 131) (by simp [results, Try.results64, go_sem, gotB]) rfl ⟨rfl, (Chg.refl _ _).alloc _⟩
  · have hd : decide ((a : Int) + 1 < (s.size : Int)) = false := decide_eq_false (by omega)
    have hd2 : decide ((a : Int) + 3 < (s.size : Int)) = false := decide_eq_false (by omega)
    have hE := hid (show escS s a = .bad a 131 from by unfold escS; rw [if_neg (by omega), if_neg (by omega)])
    rw [hE.out]
    go_enter Try.func64, Try.ntmps64
    go_wp2
    refine bodyPost_ret (v := gotB 0 a 131) (by simp [results, Try.results64, go_sem, gotB]) rfl ⟨rfl, (Chg.refl _ _).alloc _⟩
theorem refEscape_any' (s : ByteArray) (a : Nat) (w : World) (hs : s.size ≤ 9223372036854775000) (ha : a < s.size) :
    Calls Try.prog 64 #[.string s, .int .i64 a] w fun e w' => e = .returned (.agg #[.int .u8 ((escS s a).val 0 : Nat), .int .u64 0, .int .u64 0, .int .u64 0, .int .u64 0, .slice none 0 0, .int .i64 0, .int .i64 (escS s a).at_, .int .i64 (escS s a).no]) ∧ Chg Nothing w w' := refEscape_any s a w hs ha
/-- What an untouched old block reads as behind a call. -/
theorem Chg.cells {W w' : World} (h : Chg Nothing W w') : (∀ b o, b < W.heap.size → w'.cell? ⟨b, o, none⟩ = W.cell? ⟨b, o, none⟩) ∧ (∀ b o, b < W.heap.size → w'.frozen? ⟨b, o, none⟩ = W.frozen? ⟨b, o, none⟩) :=
  ⟨fun b o hb => h.below.cell (p := ⟨b, o, none⟩) hb, fun b o hb => h.below.frozen (p := ⟨b, o, none⟩) hb⟩
end Go.Proofs.Ytpndjehiacmngaa
