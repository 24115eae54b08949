/- Layer 13, the document's: Escape, the hexadecimal branch. -/
import Derived.Test.YtpndjehiacmngaaTokF
import Derived.Deep.QuietTactic
import Derived.BigQuiet
import Derived.Deep.RegionHeld3
import Derived.Deep.DeepFit
import Derived.Outline
import Derived.IntWalk
import Derived.StillTailTactics
namespace Go.Proofs.Ytpndjehiacmngaa
open Go.RowKit
set_option linter.unusedVariables false
def gotB (v : Nat) (nx e : Int) : Value := .agg #[.int .u8 v, .int .u64 0, .int .u64 0, .int .u64 0, .int .u64 0, .slice none 0 0, .int .i64 0, .int .i64 nx, .int .i64 e]
theorem refEscape_hex (s : ByteArray) (a : Nat) (w : World) (hs : s.size ≤ 9223372036854775000) (ha : a < s.size) 
   (h3 : a + 3 < s.size) (hlt1 : byteAt s (a+1) < 256) (hlt2 : byteAt s (a+2) < 256) (hlt3 : byteAt s (a+3) < 256) (v2 v3 : Int) (h1 : a+1 < s.size) (h2 : a + 2 < s.size)
   (hb1 : s[a+1].toNat = byteAt s (a+1)) (hb2 : s[a+2].toNat = byteAt s (a+2)) (hb3 : s[a+3].toNat = byteAt s (a+3))
   (hin : Hid (inS escSet (byteAt s (a + 1)) = false)) (hdx : (((byteAt s (a + 1) : Nat) : Int) == 120) = true)
   (hH2 : Hid (∀ (w : World), Calls Try.prog 69 #[.int .u8 (byteAt s (a+2))] w fun e w' => e = .returned (.int .i64 v2) ∧ w' = w))
   (hH3 : Hid (∀ (w : World), Calls Try.prog 69 #[.int .u8 (byteAt s (a+3))] w fun e w' => e = .returned (.int .i64 v3) ∧ w' = w))
   (p2 : 0 ≤ v2) (p3 : 0 ≤ v3) (u2 : v2 ≤ 15) (u3 : v3 ≤ 15) (hd2 : decide ((a : Int) + 3 < (s.size : Int)) = true) :
    Calls Try.prog 64 #[.string s, .int .i64 a] w fun e w' => e = .returned (gotB ((16 * v2 + v3).toNat) (a + 4) 0) ∧ Chg Nothing w w' := by
              have hd2' : decide (0 ≤ v2) = true := decide_eq_true p2
              have hd3' : decide (0 ≤ v3) = true := decide_eq_true p3
              go_enter Try.func64, Try.ntmps64
              go_wp2_with fail
              refine (refIn_any escSet (byteAt s (a + 1)) _ (by omega) (by decide)).mono ?_
              rintro e w3 ⟨rfl, rfl⟩
              rw [hin.out]
              go_wp2_with fail
              refine (hH2.out _).mono ?_
              rintro e w3 ⟨rfl, rfl⟩
              go_wp2_with fail
              refine (hH3.out _).mono ?_
              rintro e w3 ⟨rfl, rfl⟩
              go_wp2_with fail
              have k2 := IntWalk.i64_in ((a : Int) + 2) (by omega)
              have k3 := IntWalk.i64_in ((a : Int) + 3) (by omega)
              have k4 := IntWalk.i64_in ((a : Int) + 4) (by omega)
              have m2 : 0 ≤ (a : Int) + 2 := by omega
              have m3 : 0 ≤ (a : Int) + 3 := by omega
              have t2 : ((a : Int) + 2).toNat = a + 2 := by omega
              have t3 : ((a : Int) + 3).toNat = a + 3 := by omega
              have kk := IntWalk.i64_in (16 * v2) (by omega)
              have kv := IntWalk.i64_in (16 * v2 + v3) (by omega)
              have ku := IntWalk.u8_in (16 * v2 + v3) (by omega)
              go_region_held3 (fun w' => True) (trivial) (first | ((with_reducible refine (hH2.out _).mono ?_); rintro e w3 ⟨rfl, rfl⟩) | ((with_reducible refine (hH3.out _).mono ?_); rintro e w3 ⟨rfl, rfl⟩))
              all_goals
                go_wp2
                have hc : (((16 * v2 + v3).toNat : Nat) : Int) = 16 * v2 + v3 := by omega
                refine bodyPost_ret (v := gotB ((16 * v2 + v3).toNat) (a + 4) 0) (by unfold gotB; rw [hc]; simp [results, Try.results64, go_sem]) rfl ⟨rfl, ?_⟩
                repeat (first | exact Chg.refl _ _ | with_reducible apply Chg.drewN | with_reducible apply Chg.drew | with_reducible apply Chg.alloc)
end Go.Proofs.Ytpndjehiacmngaa
