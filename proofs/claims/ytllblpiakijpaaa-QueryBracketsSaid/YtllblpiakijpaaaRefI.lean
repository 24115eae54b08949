/- Layer 7, the document's: rows of classes that are the same. -/
import Derived.Test.YtllblpiakijpaaaBunF
namespace Go.Proofs.Ytllblpiakijpaaa
open Go.RowKit
set_option linter.unusedVariables false
attribute [local go_sem ↓] Go.wp_at_zero Go.wp_at_succ
def ClInv (n : Nat) (xs ys : List Cls) (w : World) (iv : Value) (wr : World) : Prop := ∃ k : Nat, k ≤ n ∧ iv = .int .i64 k ∧ Hid (xs.take k = ys.take k) ∧ Chg Nothing w wr
theorem take_same {xs ys : List Cls} {k : Nat} (hx : k < xs.length) (hy : k < ys.length) (h : xs.take k = ys.take k) (e : xs.getD k 0 = ys.getD k 0) : xs.take (k + 1) = ys.take (k + 1) := by
  rw [List.take_succ_eq_append_getElem hx, List.take_succ_eq_append_getElem hy, h]
  simp only [List.getD_eq_getElem?_getD, List.getElem?_eq_getElem hx, List.getElem?_eq_getElem hy, Option.getD_some] at e
  rw [e]
set_option maxHeartbeats 4000000 in
theorem refClasses_any (F G : Nat → Prop) (A : Option Addr) (n c : Nat) (xs : List Cls) (B : Option Addr) (m d : Nat) (ys : List Cls) (w : World) (HA : ClsRow F w A n c xs) (hl : xs.length = n) (HB : ClsRow G w B m d ys) (hm : ys.length = m) :
    Calls Try.prog 40 #[.slice A n c, .slice B m d] w fun e w' => e = .returned (.bool (decide (xs = ys))) ∧ Chg Nothing w w' := by
  have HA' := hid HA
  have HB' := hid HB
  have hla := HA.le
  have hxa := HA.max
  have hlb := HB.le
  have hxb := HB.max
  have hlh := hid hl
  have hmh := hid hm
  clear HA HB hl hm
  by_cases hnm : n = m
  · subst hnm
    go_enter Try.func40, Try.ntmps40
    go_wp2_with fail
    go_loopw [5] (fun iv wr => ClInv n xs ys w iv wr) (fun iv _ => n - (intOf iv).toNat)
    case atStart => exact ⟨0, Nat.zero_le _, rfl, hid rfl, Chg.refl _ _⟩
    case round =>
      obtain ⟨k, hk, rfl, heq, hchg⟩ := hrel
      rcases Nat.lt_or_ge k n with hkn | hkn
      · obtain ⟨g, o, rfl, -, hgl, c0, c1, c2, c3⟩ := ClsRow.four (HA'.out.chg hchg (fun _ _ _ h => h)) hlh.out hkn
        obtain ⟨g2, o2, rfl, -, hgl2, d0, d1, d2, d3⟩ := ClsRow.four (HB'.out.chg hchg (fun _ _ _ h => h)) hmh.out hkn
        obtain ⟨x, hx⟩ : ∃ x, x = xs.getD k 0 := ⟨_, rfl⟩
        obtain ⟨y, hy⟩ : ∃ y, y = ys.getD k 0 := ⟨_, rfl⟩
        rw [← hx] at c0 c1 c2 c3
        rw [← hy] at d0 d1 d2 d3
        replace hx := hid hx
        replace hy := hid hy
        have hq := eq_class x y
        have hk0 : (0 : Int) ≤ (k : Int) := by omega
        have hkn' : (k : Int) < (n : Int) := by omega
        by_cases he : x = y
        · rw [decide_eq_true he] at hq
          unfold encC at hq
          have hnx := hid (take_same (by rw [hlh.out]; exact hkn) (by rw [hmh.out]; exact hkn) heq.out (by rw [← hx.out, ← hy.out]; exact he))
          replace he := hid he
          go_wp2_with fail
          go_quiet (fail)
          go_wp2
          go_roundw
          case rel => exact ⟨k + 1, hkn, by go_num, hnx, hchg.drewN _⟩
          case measure => simp [intOf]; omega
        · rw [decide_eq_false he] at hq
          unfold encC at hq
          have hne := hid (show decide (xs = ys) = false from decide_eq_false (fun e => he (by rw [hx.out, hy.out, e])))
          replace he := hid he
          go_wp2_with fail
          go_quiet (fail)
          go_wp2
          go_ret
          exact ⟨by rw [hne.out]; rfl, hchg.drewN _⟩
      · have hd : decide ((k : Int) < (n : Int)) = false := decide_eq_false (by omega)
        have hyes := hid (show decide (xs = ys) = true from decide_eq_true (by
          have h := heq.out
          rwa [List.take_of_length_le (by rw [hlh.out]; exact hkn), List.take_of_length_le (by rw [hmh.out]; exact hkn)] at h))
        go_wp2
        go_ret
        exact ⟨by rw [hyes.out]; rfl, hchg⟩
  · have hd : ((n : Int) != (m : Int)) = true := by rw [bne_iff_ne]; omega
    have hne := hid (show decide (xs = ys) = false from decide_eq_false (fun e => hnm (by rw [← hlh.out, ← hmh.out, e])))
    replace hnm := hid hnm
    go_enter Try.func40, Try.ntmps40
    go_wp2
    go_ret
    exact ⟨by rw [hne.out]; rfl, Chg.refl _ _⟩
end Go.Proofs.Ytllblpiakijpaaa
