/- Joined texts: SpdA SpdB SpdC SpdD. -/
import Derived.Test.YtoelilejohfglaaGreatBunR
import Derived.Test.YtoelilejohfglaaGreatBunT
import Derived.Deep.RegionHeld3
import Derived.Test.YtoelilejohfglaaGreatBunU
set_option maxHeartbeats 16000000
set_option maxRecDepth 100000
namespace Go.Proofs.YtoelilejohfglaaGreat
open Go.RowKit
set_option linter.unusedVariables false
set_option linter.unusedSimpArgs false
def RwhInv (xs : List Cls) (x : Cls) (n : Nat) (A0 : Option Addr) (n0 c0 : Nat) (K : Int) (w : World) (ov iv : Value) (wr : World) : Prop := ∃ (k L : Nat) (A : Option Addr) (c : Nat), k ≤ n ∧ L ≤ k ∧ iv = .int .i64 k ∧ ov = .slice A L c ∧ IRow wr (w.heap.size + 2) A L c (whereTo xs x k) ∧ Blk wr w.heap.size #[.slice A0 n0 c0, .int .i64 K] 34 ∧ CBox wr (w.heap.size + 1) x ∧ Chg Nothing w wr
theorem refWhere_any (F : Nat → Prop) (A : Option Addr) (n c : Nat) (xs : List Cls) (K : Int) (x : Cls) (w : World) (H : ClsRow F w A n c xs) (hl : xs.length = n) (hn9 : n ≤ 1000000000) :
  Calls Tryz.prog 109 #[.agg #[.slice A n c, .int .i64 K], .agg #[.int .u64 (wd x 0), .int .u64 (wd x 1), .int .u64 (wd x 2), .int .u64 (wd x 3)]] w fun e w' => GivesI w.heap.size w' e (whereTo xs x n) ∧ Chg Nothing w w' := by
 have HH := hid (fun (w' : World) (hc : Chg Nothing w w') => H.chg hc (fun _ _ _ h => h))
 have hlh := hid hl
 have hmx := H.max
 have hle := H.le
 have hX := hid ((Blk.new w #[.slice A n c, .int .i64 K] 34).alloc (.cells (cellsC x) 84))
 have hY := Blk.new (w.alloc (.cells #[.slice A n c, .int .i64 K] 34)) (cellsC x) 84
 rw [World.size_alloc] at hY
 replace hY := hid hY
 clear H hl
 go_enter Tryz.func109, Tryz.ntmps109
 go_wp2_with fail
 go_loopw [5, 6] (fun ov iv wr => RwhInv xs x n A n c K w ov iv wr) (fun _ iv _ => n - (intOf iv).toNat)
 case atStart => exact ⟨0, 0, none, 0, Nat.zero_le _, Nat.zero_le _, rfl, rfl, World.ownsRow_nil _ _ _ _, hX.out, hY.out, ((Chg.refl _ _).alloc _).alloc _⟩
 case round =>
  obtain ⟨k, L, A1, c1, hk, hLk, rfl, rfl, hown, hbx, hcb, hchg⟩ := hrel
  have x0 := hbx.cell 0 (v := .slice A n c) rfl
  have hxl := hbx.lt
  rcases Nat.lt_or_ge k n with hkn | hkn
  ·obtain ⟨g, o, rfl, -, hgl, c0, c1', c2, c3⟩ := ClsRow.four (HH.out _ hchg) hlh.out hkn
   obtain ⟨r0, r1, r2, r3, -, -, -, -, hlt1⟩ := CBox.at_ hcb
   have hk0 : (0 : Int) ≤ (k : Int) := by omega
   have hkI : (k : Int) < (n : Int) := by omega
   have hy := hid (fun h => whereTo_yes (xs := xs) (c := x) (n := k) h)
   have hno := hid (fun h => whereTo_no (xs := xs) (c := x) (n := k) h)
   obtain ⟨y, hyd⟩ : ∃ y, y = xs.getD k 0 := ⟨_, rfl⟩
   rw [← hyd] at c0 c1' c2 c3 hy hno
   have hq := eq_class y x
   have HB := hid hbx
   have HX := hid hcb
   have HO := hid hown
   have HC := hid hchg
   clear hbx hcb hown hchg hyd
   by_cases he : y = x
   ·rw [decide_eq_true he] at hq
    unfold encC at hq
    have hyy := hid (hy.out he)
    replace he := hid he
    clear hy hno
    go_wp2
    go_quiet (fail)
    go_wp2_with (at_builtin; refine append_one rfl _ _ 37 rfl (w.heap.size + 2) 3 (.int .i64 0) 8 Tryz.underlying37 infoInt rfl A1 c1 L _ rfl (own_chg HO.out ((Chg.refl Nothing wr).drewN _) (fun _ _ h => h)) (.int .i64 (k : Nat)) rfl rfl ?_ ?_ ?_ ?_)
    any_goals (first | omega | exact HX.out.lt)
    intro A' c' w6 hown6 hc6 hA
    have hc7 := ((Chg.refl (Of A1) wr).drewN _).trans hc6
    have hown7 := hid (show IRow w6 (w.heap.size + 2) A' (L + 1) c' (whereTo xs x (k + 1)) from by rw [hyy.out]; unfold IRow; rw [List.map_append]; exact hown6)
    have oa := own_of HO.out
    have hB6 := hid (HB.out.chg hc7 (fun h => by have := oa _ h; omega))
    have hX6 := hid (HX.out.chg hc7 (fun h => by have := oa _ h; omega))
    have hC6 := hid (HC.out.then hc7 (fun i hi h => by have := oa _ h; omega))
    clear hown6 hc6 hA hc7
    go_wp2
    go_roundw
    case rel => exact ⟨k + 1, L + 1, A', c', hkn, by omega, by go_num, rfl, hown7.out, hB6.out, hX6.out, hC6.out⟩
    case measure => simp [intOf]; omega
   ·rw [decide_eq_false he] at hq
    unfold encC at hq
    have hnn := hid (hno.out he)
    replace he := hid he
    clear hy hno
    go_wp2
    go_quiet (fail)
    go_wp2
    go_roundw
    case rel => exact ⟨k + 1, L, A1, c1, hkn, by omega, by go_num, rfl, by rw [hnn.out]; exact own_chg HO.out ((Chg.refl Nothing wr).drewN _) (fun _ _ h => h), HB.out.chg ((Chg.refl Nothing wr).drewN _) id, HX.out.chg ((Chg.refl Nothing wr).drewN _) id, HC.out.trans ((Chg.refl Nothing wr).drewN _)⟩
    case measure => simp [intOf]; omega
  ·obtain rfl : k = n := by omega
   have hd : decide ((k : Int) < (k : Int)) = false := decide_eq_false (by omega)
   have hl := hid hown.1
   have HO := hid hown
   have HC := hid hchg
   clear hbx hcb hown hchg
   go_wp2
   go_ret
   have hL : L = (whereTo xs x k).length := by have := hl.out; simpa using this.symm
   subst hL
   exact ⟨⟨_, _, rfl, own_low HO.out (by omega)⟩, HC.out⟩
end Go.Proofs.YtoelilejohfglaaGreat
